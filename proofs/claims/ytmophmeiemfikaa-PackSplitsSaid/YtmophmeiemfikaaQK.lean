/- Texts of this claim, joined: walks of small functions and plain facts about them. Conditions: as each says. -/
import Derived.Test.YtmophmeiemfikaaQJ
import Derived.Test.YtmophmeiemfikaaRows
import Derived.WalkKit
import Derived.WalkSpells
import Derived.WalkLawsBesides
import Derived.Deep.QuietTactic
import Derived.BigQuiet
import Derived.Lib.Hide
import Derived.Deep.LoopGhost
import Derived.Laws.BitsLemmas
import Derived.Laws.Small
import Derived.Deep.DeepCutAuto
import Derived.Deep.CutBlock
import Derived.Deep.CutRange
import Derived.Laws.IdiomStrings
import Derived.Laws.CopyOwn
import Derived.Laws.EntriesVeiled
import Derived.Shelf.Abstract
import Derived.WalkMore
/- A text that was split is packed, and its parts stand for it, in plain Lean. Conditions: the text is not too long. -/
namespace Go.Cm

theorem copyN_pre (b x : Byts) {d : Nat} (hd : 1 ≤ d) (h : d ≤ x.length) : ∀ k, copyN (b ++ x) d k = b ++ copyN x d k
  | 0 => rfl
  | k + 1 => by
    rw [copyN, copyN, copyN_pre b x hd h k, List.append_assoc]
    congr 2
    have hl := copyN_len x d k
    simp only [List.getD, List.length_append]
    rw [List.getElem?_append_right (by omega)]
    congr 3
    omega
theorem opN_pre {b x : Byts} {o : OpN} (h : (opN 10 x o).1 = 0) : opN 10 (b ++ x) o = (0, b ++ (opN 10 x o).2) := by
  unfold opN at h ⊢
  by_cases h1 : o.len = 0
  · rw [if_pos h1]
    rw [if_pos h1, List.append_assoc]
  rw [if_neg h1] at h ⊢
  rw [if_neg h1]
  by_cases h2 : o.len < 3 ∨ 258 < o.len ∨ o.dist < 1 ∨ 32768 < o.dist
  · rw [if_pos h2] at h; cases h
  rw [if_neg h2] at h ⊢
  rw [if_neg h2]
  by_cases h3 : (x.length : Int) < o.dist
  · rw [if_pos h3] at h; cases h
  rw [if_neg h3]
  rw [if_neg (by rw [List.length_append]; omega), copyN_pre b x (by omega) (by omega)]
theorem ops_pre {M : Nat} (hM : M = 16777216) (b : Byts) : ∀ (ops : List OpN) (x : Byts), (ops.foldl (opS 10) (0, x)).1 = 0 → b.length + (ops.foldl (opS 10) (0, x)).2.length ≤ M → ops.foldl (opS 10) (0, b ++ x) = (0, b ++ (ops.foldl (opS 10) (0, x)).2)
  | [], _, _, _ => rfl
  | o :: ops, x, h, hl => by
    obtain ⟨-, q2, q3, -⟩ := opS_zero h
    rw [List.foldl_cons] at h hl ⊢
    rw [q3] at h hl
    have hle := ops_le ops (0, (opN 10 x o).2)
    have e : opS 10 (0, b ++ x) o = (0, b ++ (opN 10 x o).2) := by
      have h1 := opN_pre (b := b) q2
      unfold opS
      rw [← hM]
      rw [if_neg (by simp)]
      simp only
      rw [h1]
      have h5 : (b ++ (opN 10 x o).2).length ≤ M := by
        rw [List.length_append]
        have : (opN 10 x o).2.length ≤ _ := hle
        exact Nat.le_trans (Nat.add_le_add_left this _) hl
      rw [if_neg (by simp), if_neg (Nat.not_lt.2 h5)]
    rw [e, List.foldl_cons, q3]
    exact ops_pre hM b ops _ h hl
theorem fixL_ok : ∀ i : Nat, i < 286 → errW (nls fixL) (i : Int) = 0 := by
  have h : ∀ i : Nat, i < 286 → i < fixL.length ∧ fixL.getD i 0 ≠ 0 := by decide +kernel
  intro i hi
  obtain ⟨h1, h2⟩ := h i hi
  refine errW_ok fixL_err ⟨by omega, by rw [nls_length]; omega, ?_⟩
  rw [nls_getD, Int.toNat_natCast]
  exact fun e => h2 (by omega)
theorem fixD_ok : ∀ i : Nat, i < 30 → errW (nls fixD) (i : Int) = 0 := by
  have h : ∀ i : Nat, i < 30 → i < fixD.length ∧ fixD.getD i 0 ≠ 0 := by decide +kernel
  intro i hi
  obtain ⟨h1, h2⟩ := h i hi
  refine errW_ok fixD_err ⟨by omega, by rw [nls_length]; omega, ?_⟩
  rw [nls_getD, Int.toNat_natCast]
  exact fun e => h2 (by omega)
theorem cPut_fine {l : List Int} {sym : Int} {bits v : Nat} {st : Nat × Nat} (h : errW l sym = 0) : (cPut l sym bits v (0, st)).1 = 0 := by
  unfold cPut
  rw [if_neg (by simp), if_neg (by omega)]
theorem zero_eta {α : Type} {x : Nat × α} (h : x.1 = 0) : x = (0, x.2) := Prod.ext h rfl
theorem cOp_fine {b : Byts} {o : OpN} {st : Nat × Nat} (ho : o.lit < 256) (h : (opN 10 b o).1 = 0) : (cOp (nls fixL) (nls fixD) o (0, st)).1 = 0 := by
  unfold cOp
  unfold opN at h
  by_cases h1 : o.len = 0
  · rw [if_pos h1]; exact cPut_fine (fixL_ok _ (by omega))
  rw [if_neg h1] at h ⊢
  by_cases h2 : o.len < 3 ∨ 258 < o.len ∨ o.dist < 1 ∨ 32768 < o.dist
  · rw [if_pos h2] at h; cases h
  obtain ⟨-, -, -, -, a5⟩ := lenB_sym (show ¬ (o.len < 3 ∨ 258 < o.len) by omega)
  have hd : (dstSy o.dist).s < 30 := by
    unfold dstSy
    rw [if_neg (by omega)]
    have := spIdx_le 1 2 o.dist.toNat 29
    show 0 + spIdx 1 2 o.dist.toNat 29 < 30
    omega
  have hs : (lenSy o.len).s < 286 := Nat.lt_succ_of_le a5
  clear h
  have e1 : (cPut (nls fixL) (lenSy o.len).s (lenSy o.len).b (lenSy o.len).v (0, st)).1 = 0 := cPut_fine (fixL_ok _ hs)
  rw [zero_eta e1]
  exact cPut_fine (fixD_ok _ hd)
theorem cOps_fine : ∀ (ops : List OpN) (b : Byts) (st : Nat × Nat), (∀ o ∈ ops, o.lit < 256) → (ops.foldl (opS 10) (0, b)).1 = 0 → (cOps (nls fixL) (nls fixD) ops (0, st)).1 = 0
  | [], _, _, _, _ => rfl
  | o :: ops, b, st, hl, h => by
    obtain ⟨-, q2, q3, -⟩ := opS_zero h
    rw [List.foldl_cons, q3] at h
    have e1 := cOp_fine (st := st) (hl o (List.mem_cons_self ..)) q2
    show (cOps (nls fixL) (nls fixD) ops (cOp (nls fixL) (nls fixD) o (0, st))).1 = 0
    rw [zero_eta e1]
    exact cOps_fine ops _ _ (fun o' h' => hl o' (List.mem_cons_of_mem _ h')) h
/-- a part of a text that was split -/
structure PtFine (p : PtN) (t : Byts) : Prop where
  kind : (p.kind = 0 ∧ p.text.size ≤ 65535 ∧ bys p.text = t ∧ p.ops = []) ∨ (p.kind = 1 ∧ p.ops = opsOf t ∧ p.text.size = 0)
  lits : p.lits = [] ∧ p.dists = []
theorem pt_fine (i : Nat) {t : Byts} (h : t.length ≤ 65535) : PtFine (ptAt i t) t := by
  unfold ptAt
  split
  · exact ⟨.inl ⟨rfl, by show t.toArray.size ≤ 65535; simpa using h, bys_mk t, rfl⟩, rfl, rfl⟩
  · exact ⟨.inr ⟨rfl, rfl, rfl⟩, rfl, rfl⟩
theorem fine_text {M : Nat} (hM : M = 16777216) {p : PtN} {t b : Byts} (h : PtFine p t) (hb : b.length + t.length ≤ M) : pkPart 10 b p = (0, b ++ t) := by
  have hchk : ∀ y : Byts, y.length ≤ M → chkN (0, y) = (0, y) := fun y hy => by
    unfold chkN
    rw [← hM]
    rw [if_neg (by simp), if_neg (by simp only; omega)]
  unfold pkPart
  rcases h.kind with ⟨k, hs, ht, -⟩ | ⟨k, ho, -⟩
  · rw [if_pos k, if_neg (by omega)]
    have : p.text.data.toList = t := ht
    rw [this]
    exact hchk _ (by rw [List.length_append]; omega)
  · rw [if_neg (by omega), if_pos (.inl k), ho]
    have h1 : opsN 10 [] (opsOf t) = (0, t) := opsOf_makes (by omega)
    unfold opsN at h1 ⊢
    have h2 := ops_pre hM b (opsOf t) [] (by rw [h1]) (by rw [h1]; exact hb)
    rw [List.append_nil] at h2
    rw [h2, h1]
    exact hchk _ (by rw [List.length_append]; omega)
theorem fine_enc {p : PtN} {t : Byts} (h : PtFine p t) (ht : t.length ≤ 65535) (n i : Nat) (st : Nat × Nat) : (encP n i p st).1 = 0 := by
  unfold encP
  rcases h.kind with ⟨k, hs, -, -⟩ | ⟨k, ho, hs⟩
  · have hm : mayI p.kind p.text.size p.lits p.dists = 0 := by
      unfold mayI
      rw [if_pos k, if_neg (by omega)]
    rw [if_neg (by omega), if_pos k]
  · have hm : mayI p.kind p.text.size p.lits p.dists = 0 := by
      unfold mayI
      rw [if_neg (by omega), if_pos k]
    rw [if_neg (by omega), if_neg (by omega)]
    have e1 : litsN p = nls fixL := by unfold litsN; rw [if_pos k]
    have e2 : distsN p = nls fixD := by unfold distsN; rw [if_pos k]
    rw [e1, e2, ho]
    unfold cAll
    have h1 : opsN 10 [] (opsOf t) = (0, t) := opsOf_makes (by omega)
    have h2 := cOps_fine (opsOf t) [] (wrI (decide (i + 1 = n)) p.kind p.text.size p.lits p.dists st) (opsOf_lit t) (by unfold opsN at h1; rw [h1])
    rw [zero_eta h2]
    exact cPut_fine (fixL_ok 256 (by omega))
/-- each part is fine, and the pieces are the text -/
theorem splitFr_fine {n : Nat} (h1 : 1 ≤ n) (h2 : n ≤ 65535) : ∀ f i t, t.length < f → ∃ ts : List Byts, ts.length = (splitFr n f i t).length ∧ ts.flatten = t ∧ (∀ k, k < ts.length → PtFine ((splitFr n f i t).getD k zPt) (ts.getD k []) ∧ (ts.getD k []).length ≤ 65535) ∧ splitFr n f i t ≠ []
  | 0, _, t, h => absurd h (Nat.not_lt_zero _)
  | f + 1, i, t, h => by
    have hl : (t.take (min n t.length)).length ≤ 65535 := by rw [List.length_take]; omega
    by_cases hd : t.drop (min n t.length) = []
    · rw [splitFr_last hd]
      refine ⟨[t.take (min n t.length)], rfl, ?_, fun k hk => ?_, by simp⟩
      · have := List.take_append_drop (min n t.length) t
        rw [hd, List.append_nil] at this
        simp [this]
      · obtain rfl : k = 0 := by simp at hk; omega
        exact ⟨pt_fine i hl, hl⟩
    · rw [splitFr_more hd]
      have hne : t.length ≠ 0 := fun e => hd (by rw [List.length_eq_zero_iff.1 e]; simp)
      obtain ⟨ts, a1, a2, a3, a4⟩ := splitFr_fine h1 h2 f (i + 1) (t.drop (min n t.length)) (by rw [List.length_drop]; omega)
      refine ⟨t.take (min n t.length) :: ts, by simp [a1], by rw [List.flatten_cons, a2, List.take_append_drop], fun k hk => ?_, by simp⟩
      cases k with
      | zero => exact ⟨pt_fine i hl, hl⟩
      | succ k => exact a3 k (by simpa using hk)
theorem parts_text {M : Nat} (hM : M = 16777216) : ∀ (l : List PtN) (ts : List Byts) (b : Byts), ts.length = l.length → (∀ k, k < ts.length → PtFine (l.getD k zPt) (ts.getD k [])) → b.length + ts.flatten.length ≤ M → l.foldl (pkPartS 10) (0, b) = (0, b ++ ts.flatten)
  | [], [], b, _, _, _ => by simp
  | p :: l, t :: ts, b, hlen, h, hb => by
    rw [List.flatten_cons, List.length_append] at hb
    have hp := fine_text hM (b := b) (h 0 (by simp)) (by show b.length + t.length ≤ M; omega)
    rw [List.foldl_cons]
    have e : pkPartS 10 (0, b) p = (0, b ++ t) := by
      unfold pkPartS
      rw [if_neg (by simp)]
      exact hp
    rw [e, parts_text hM l ts (b ++ t) (by simpa using hlen) (fun k hk => h (k + 1) (by simp at hk ⊢; omega)) (by rw [List.length_append]; omega), List.flatten_cons, List.append_assoc]
  | [], t :: ts, _, hlen, _, _ => by simp at hlen
  | p :: l, [], _, hlen, _, _ => by simp at hlen
theorem split_text {t : Byts} {n : Int} (ht : t.length ≤ 16777216) : textOf 10 17 (splitN t n) = (0, t) ∧ (encR (splitN t n)).1 = 0 ∧ (∀ p ∈ splitN t n, ∀ o ∈ p.ops, o.lit < 256) := by
  obtain ⟨h1, h2⟩ := sizeN_pos n
  obtain ⟨ts, a1, a2, a3, a4⟩ := splitFr_fine h1 h2 (t.length + 1) 0 t (by omega)
  have hS : splitFr (sizeN n) (t.length + 1) 0 t = splitN t n := rfl
  rw [hS] at a1 a3 a4
  generalize splitN t n = l at *
  have hpt : partsN 10 l = (0, t) := by
    have := parts_text (M := 16777216) rfl l ts [] a1 (fun k hk => (a3 k hk).1) (by rw [a2]; simpa using ht)
    rw [a2, List.nil_append] at this
    exact this
  have htx : textOf 10 17 l = (0, t) := by
    unfold textOf
    rw [if_neg a4, hpt]
    rw [if_neg (by simp)]
  refine ⟨htx, ?_, fun p hp o ho => ?_⟩
  · unfold encR
    rw [htx]
    rw [if_neg (by simp)]
    have henc : ∀ k, k ≤ l.length → (encK l k).1 = 0 := by
      intro k
      induction k with
      | zero => intro _; rfl
      | succ k ih =>
        intro hk
        rw [encK_next (ih (by omega))]
        obtain ⟨f1, f2⟩ := a3 k (by omega)
        exact fine_enc f1 f2 _ _ _
    rw [if_neg (by rw [henc _ (Nat.le_refl _)]; simp)]
  · obtain ⟨i, hi, rfl⟩ := List.getElem_of_mem hp
    obtain ⟨f1, -⟩ := a3 i (by omega)
    rw [show l.getD i zPt = l[i] by simp [List.getD, hi]] at f1
    rcases f1.kind with ⟨-, -, -, e⟩ | ⟨-, e, -⟩
    · rw [e] at ho; cases ho
    · rw [e] at ho; exact opsOf_lit _ o ho
end Go.Cm

/- The walk of PackSplits. Conditions: the text is one that can be. -/
namespace Go.Cm
open Go.RowKit Go.Proofs

theorem bestN_le (t : Byts) (a : Nat) : ∀ k, (bestN t a k).1 ≤ 258 ∧ (bestN t a k).2 ≤ k
  | 0 => ⟨Nat.zero_le _, Nat.zero_le _⟩
  | k + 1 => by
    have ih := bestN_le t a k
    rw [bestN_succ]
    unfold bestS
    split
    · exact ⟨runN_le t a (k + 1), Nat.le_refl _⟩
    · exact ⟨ih.1, by omega⟩
theorem opAt_ok (t : Byts) (a : Nat) : OpOk (opAt t a) := by
  have h := bestN_le t a (min 256 a)
  have hl := op_ok t a
  unfold opAt at hl ⊢
  split
  · exact ⟨show 0 < 256 by decide, by simp only; omega, by simp only; omega, by simp only; omega, by simp only; omega⟩
  · rename_i hc
    rw [if_neg hc] at hl
    exact ⟨hl, by simp only; omega, by simp only; omega, by simp only; omega, by simp only; omega⟩
theorem opsFr_ok (t : Byts) : ∀ f a, ∀ o ∈ opsFr t f a, OpOk o
  | 0, _, o, h => by cases h
  | f + 1, a, o, h => by
    unfold opsFr at h
    split at h
    · rcases List.mem_cons.1 h with rfl | h
      · exact opAt_ok t a
      · exact opsFr_ok t f _ o h
    · cases h
theorem opsOf_ok (t : Byts) : ∀ o ∈ opsOf t, OpOk o := opsFr_ok t _ _
theorem fine_size {p : PtN} {t : Byts} (h : PtFine p t) : p.text.size + p.ops.length ≤ t.length := by
  rcases h.kind with ⟨-, -, e, e2⟩ | ⟨-, e, e2⟩
  · rw [← bys_len, e, e2]; exact Nat.le_refl _
  · rw [e2, e]; have := opsOf_len t; omega
theorem encK_sum {l : List PtN} {ts : List Byts} (hlen : ts.length = l.length) (h : ∀ k, k < ts.length → PtFine (l.getD k zPt) (ts.getD k [])) : ∀ k, k ≤ l.length → (encK l k).2.2 ≤ 1500 * k + 56 * (ts.take k).flatten.length
  | 0, _ => Nat.zero_le _
  | k + 1, hk => by
    have ih := encK_sum hlen h k (by omega)
    have hf := fine_size (h k (by omega))
    have h1 := encP_len l.length k (l.getD k zPt) (encK l k).2
    have e : (ts.take (k + 1)).flatten.length = (ts.take k).flatten.length + (ts.getD k []).length := by
      rw [List.take_succ_eq_append_getElem (by omega), List.flatten_append, List.length_append]
      simp [List.getD, show k < ts.length by omega]
    rw [e]
    show (if (encK l k).1 ≠ 0 then encK l k else encP l.length k (l.getD k zPt) (encK l k).2).2.2 ≤ _
    split
    · omega
    · omega
theorem take_flat (ts : List Byts) (k : Nat) : (ts.take k).flatten.length ≤ ts.flatten.length := by
  have h : ts.flatten = (ts.take k).flatten ++ (ts.drop k).flatten := by rw [← List.flatten_append, List.take_append_drop]
  rw [h, List.length_append]; omega
/-- what a text that was split keeps -/
theorem split_facts {t : Byts} {n : Int} (ht : t.length ≤ 1500) : (∀ p ∈ splitN t n, PtOk p) ∧ (∀ p ∈ splitN t n, ∀ o ∈ p.ops, OpOk o) ∧ (∀ p ∈ splitN t n, PtSm p) ∧ (∀ k, k ≤ (splitN t n).length → (encK (splitN t n) k).2.2 ≤ 2400000) := by
  obtain ⟨h1, h2⟩ := sizeN_pos n
  obtain ⟨ts, a1, a2, a3, a4⟩ := splitFr_fine h1 h2 (t.length + 1) 0 t (by omega)
  have hln := splitN_len t n
  have hS : splitFr (sizeN n) (t.length + 1) 0 t = splitN t n := rfl
  rw [hS] at a1 a3 a4
  generalize splitN t n = l at *
  have hmem : ∀ p ∈ l, ∃ u : Byts, PtFine p u ∧ u.length ≤ 65535 := fun p hp => by
    obtain ⟨i, hi, rfl⟩ := List.getElem_of_mem hp
    obtain ⟨f1, f2⟩ := a3 i (by omega)
    rw [show l.getD i zPt = l[i] by simp [List.getD, hi]] at f1
    exact ⟨_, f1, f2⟩
  have hops : ∀ p ∈ l, ∀ o ∈ p.ops, OpOk o := fun p hp o ho => by
    obtain ⟨u, f, -⟩ := hmem p hp
    rcases f.kind with ⟨-, -, -, e⟩ | ⟨-, e, -⟩
    · rw [e] at ho; cases ho
    · rw [e] at ho; exact opsOf_ok _ o ho
  refine ⟨fun p hp => ?_, hops, fun p hp => ?_, fun k hk => ?_⟩
  · obtain ⟨u, f, hu⟩ := hmem p hp
    have := fine_size f
    exact ⟨fun o ho => (hops p hp o ho).lit, by omega⟩
  · obtain ⟨u, f, hu⟩ := hmem p hp
    have := fine_size f
    exact ⟨by omega, by omega⟩
  · have h3 := encK_sum a1 (fun k hk => (a3 k hk).1) k hk
    have h4 := take_flat ts k
    rw [a2] at h4
    omega
set_option maxRecDepth 100000 in
set_option maxHeartbeats 4000000 in
theorem packSplits (s : ByteArray) (n : Int) (w : World) (hs : s.size ≤ 140737488351232) : Calls Try.prog 11 #[.string s, .int .i64 n] w fun e w' => e = .returned (.bool true) ∧ Below w.heap.size w w' := by
  by_cases hb : s.size ≤ 1500
  · have HPS := Lib.hid (fun W => splitPk s n (by omega) W)
    unfold RetParts at HPS
    obtain ⟨p1, p2, p3, p4⟩ := split_facts (t := bys s) (n := n) (by rw [bys_len]; exact hb)
    obtain ⟨q1, q2, q3⟩ := split_text (t := bys s) (n := n) (by rw [bys_len]; omega)
    have HTP := Lib.hid (fun (W : World) (u : Value) (hu : PartsAt W u (splitN (bys s) n)) => textPk hu p1)
    have HEP := Lib.hid (fun (W : World) (u : Value) (hu : PartsAt W u (splitN (bys s) n)) => encodePk hu p1 p2 p3 (fun k hk => Nat.le_trans (p4 k hk) (by decide)))
    unfold RetTextN at HTP HEP
    obtain ⟨S, hS⟩ : ∃ S : ByteArray, S = ⟨(encR (splitN (bys s) n)).2.toArray⟩ := ⟨_, rfl⟩
    have hbs : bys S = (encR (splitN (bys s) n)).2 := by rw [hS, bys_mk]
    obtain ⟨r1, r2, -, -, -, -⟩ := pack_law q3 q2 hbs
    have hss : S.size ≤ 4000000 := by rw [← bys_len, hbs]; exact encR_len (Nat.le_trans (p4 _ (Nat.le_refl _)) (by decide))
    rw [q1] at HTP r2
    rw [q2, ← hS] at HEP
    simp only at HTP r2
    rw [← txt_bys] at HTP
    have HA : Hid (∀ W, Calls Try.prog 28 #[.string S, .int .i64 0, .string ⟨#[]⟩] W (RetAll S (bys ⟨#[]⟩) 0 W)) := Lib.hid (fun W => allI S ⟨#[]⟩ 0 hss (Nat.zero_le _) (by decide) W)
    rw [show bys ⟨#[]⟩ = [] from rfl] at HA
    unfold RetAll at HA
    rw [r1, r2] at HA
    generalize splitN (bys s) n = R at *
    have hgt : ¬ (s.size : Int) > 1500 := by omega
    clear p1 p2 p3 p4 q1 q2 q3 hS hbs r1 r2
    go_enter Try.func11, Try.ntmps11
    go_wp2_with (fail)
    (with_reducible refine (HPS.out _).mono ?_)
    rintro en w1 ⟨u1, rfl, hp1, hb1⟩
    have HT1 := Lib.hid (HTP.out w1 u1 hp1.at)
    have HE1 := Lib.hid (fun (W : World) (hb : Below w1.heap.size w1 W) => HEP.out W u1 (hp1.at.up hb))
    have HB1 := Lib.hid hb1
    clear hp1 hb1
    go_wp2_with (fail)
    (with_reducible refine HT1.out.mono ?_)
    rintro en w3 ⟨rfl, x3, rfl⟩
    have HB3 := Lib.hid (ext_below w1 x3)
    generalize ext w1 x3 = w3 at *
    go_wp2_with (fail)
    (with_reducible refine (HE1.out _ HB3.out).mono ?_)
    rintro en w6 ⟨rfl, x6, rfl⟩
    have HB6 := Lib.hid (HB1.out.trans ((HB3.out.trans ((ext_below w3 x6).mono HB3.out.size)).mono HB1.out.size))
    generalize ext w3 x6 = w6 at *
    go_upto_region 7 with ((with_reducible go_at_call 28); (with_reducible refine (HA.out _).mono ?_); rintro e w7 ⟨c2, v2, qq, rfl, hb, h1, h2⟩; have HB7 := Lib.hid (HB6.out.trans (hb.mono HB6.out.size)); have H2 := Lib.hid (h1 (by trivial)); clear hb h1 h2)
    obtain ⟨hc2, -, -⟩ := H2.out
    have hceq : c2 = s := bys_inj hc2
    subst hceq
    go_wp2_with ((with_reducible go_at_call 13); (with_reducible refine known11.mono ?_); rintro en w8 ⟨rfl, x8, rfl⟩)
    go_ret
    exact ⟨rfl, HB7.out.trans ((ext_below w7 x8).mono HB7.out.size)⟩
  · have hgt : (s.size : Int) > 1500 := by omega
    go_enter Try.func11, Try.ntmps11
    go_wp2_with ((with_reducible go_at_call 13); (with_reducible refine known11.mono ?_); rintro en w8 ⟨rfl, x8, rfl⟩)
    go_ret
    exact ⟨rfl, ext_below w x8⟩
end Go.Cm
