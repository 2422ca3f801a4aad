/- Texts of this claim, joined: walks of small functions and plain facts about them. Conditions: as each says. -/
import Derived.Test.YtmophmeiemfikaaGreatBG
import Derived.Test.YtmophmeiemfikaaGreatRows
import Derived.WalkKit
import Derived.WalkSpells
import Derived.WalkLawsBesides
import Derived.Deep.QuietTactic
import Derived.BigQuiet
import Derived.Lib.Hide
import Derived.Deep.LoopGhost
import Derived.Laws.BitsLemmas
import Derived.Laws.Small
/- The reading of a whole head, in plain Lean. Conditions: none. -/
namespace Go.Cm

/-- a stored block's size -/
def storedN (N T : Nat) (st : Nat × Nat) : Nat × (Nat × Nat) :=
  ((xb N T 16 (st.1, alignN st.2)).1,
   if (xb N T 16 (xb N T 16 (st.1, alignN st.2)).2).1 + (xb N T 16 (st.1, alignN st.2)).1 = 65535 then (xb N T 16 (xb N T 16 (st.1, alignN st.2)).2).2
   else xf 6 (xb N T 16 (xb N T 16 (st.1, alignN st.2)).2).2)
/-- a dynamic block's lengths: the numbers have been read -/
noncomputable def dynL (N T a b : Nat) (k : List Nat × (Nat × Nat)) : List Nat × List Nat × (Nat × Nat) :=
  if k.2.1 ≠ 0 then ([], [], k.2)
  else if fitsE (nls k.1) false ≠ 0 then ([], [], fitsE (nls k.1) false, k.2.2)
  else if (rowN N T k.1 (257 + a + (1 + b)) (257 + a + (1 + b) + 1) [] k.2).2.1 ≠ 0 then ([], [], (rowN N T k.1 (257 + a + (1 + b)) (257 + a + (1 + b) + 1) [] k.2).2)
  else ((rowN N T k.1 (257 + a + (1 + b)) (257 + a + (1 + b) + 1) [] k.2).1.take (257 + a), (rowN N T k.1 (257 + a + (1 + b)) (257 + a + (1 + b) + 1) [] k.2).1.drop (257 + a),
    fits2 ((rowN N T k.1 (257 + a + (1 + b)) (257 + a + (1 + b) + 1) [] k.2).1.take (257 + a)) ((rowN N T k.1 (257 + a + (1 + b)) (257 + a + (1 + b) + 1) [] k.2).1.drop (257 + a)),
    (rowN N T k.1 (257 + a + (1 + b)) (257 + a + (1 + b) + 1) [] k.2).2.2)
/-- .. with the numbers a, b, c and the state behind them -/
noncomputable def dynM (N T a b c : Nat) (st : Nat × Nat) : List Nat × List Nat × (Nat × Nat) :=
  dynL N T a b (codeK N T c 19 (List.replicate 19 0, if 286 < 257 + a ∨ 30 < 1 + b then xf 3 st else st))
noncomputable def dynN (N T : Nat) (st : Nat × Nat) : List Nat × List Nat × (Nat × Nat) :=
  dynM N T (xb N T 5 st).1 (xb N T 5 (xb N T 5 st).2).1 (xb N T 4 (xb N T 5 (xb N T 5 st).2).2).1 (xb N T 4 (xb N T 5 (xb N T 5 st).2).2).2
/-- a head: what it is, what is wrong, where the reader stands then -/
noncomputable def kindN (N T p : Nat) (fin : Bool) (k : Nat) (st : Nat × Nat) : HeadN × Nat × Nat :=
  if st.1 ≠ 0 then (HeadN.zero, st.1, p)
  else if k = 0 then (if (storedN N T st).2.1 ≠ 0 then (HeadN.zero, (storedN N T st).2.1, p) else (⟨fin, 0, (storedN N T st).1, [], []⟩, 0, (storedN N T st).2.2))
  else if k = 1 then (⟨fin, 1, 0, fixL, fixD⟩, 0, st.2)
  else if k = 2 then (if (dynN N T st).2.2.1 ≠ 0 then (HeadN.zero, (dynN N T st).2.2.1, p) else (⟨fin, 2, 0, (dynN N T st).1, (dynN N T st).2.1⟩, 0, (dynN N T st).2.2.2))
  else (HeadN.zero, 11, p)
noncomputable def headF (N T p : Nat) : HeadN × Nat × Nat :=
  kindN N T p (decide ((xb N T 1 (0, p)).1 = 1)) (xb N T 2 (xb N T 1 (0, p)).2).1 (xb N T 2 (xb N T 1 (0, p)).2).2
theorem xf_of {e : Nat} {st : Nat × Nat} (h : st.1 ≠ 0) : xf e st = st := if_neg h
theorem codeK_err (N T c : Nat) : ∀ (k : Nat) (x : List Nat × (Nat × Nat)), x.2.1 ≠ 0 → codeK N T c k x = x
  | 0, _, _ => rfl
  | k + 1, x, h => by rw [codeK, codeK_err N T c k x h, if_neg (fun z => h z.2)]
end Go.Cm

/- The source of a block: a reader and what went wrong with it; the walks of its small functions. Conditions: the source is there. -/
namespace Go.Cm
open Go.RowKit Go.Proofs

theorem Own.of_blk {w w' : World} {B E : Nat} {v : Value} {xs : List Value} (h : Own w B E v xs) (hb : ∀ k, v.ownBlock = some k → w'.heap[k]? = w.heap[k]?) : Own w' B E v xs := by
  refine ⟨⟨h.1.1, h.1.2.imp id ?_⟩, h.2⟩
  rintro ⟨g, cap, cur, rfl, h2, h3, h4⟩
  exact ⟨g, cap, cur, rfl, h2, by rw [hb g rfl]; exact h3, h4⟩
/-- only blocks of S were written to -/
structure Fx (S : Nat → Prop) (w w' : World) : Prop where
  os : w'.os = w.os
  tape : w'.tape = w.tape
  output : w'.output = w.output
  size : w.heap.size ≤ w'.heap.size
  block : ∀ k, k < w.heap.size → ¬ S k → w'.heap[k]? = w.heap[k]?
abbrev Two (q g : Nat) (w w' : World) : Prop := Fx (fun k => k = q ∨ k = g) w w'
section
variable {S : Nat → Prop} {n : Nat} {w w1 w2 : World}
theorem Fx.refl (S : Nat → Prop) (w : World) : Fx S w w := ⟨rfl, rfl, rfl, Nat.le_refl _, fun _ _ _ => rfl⟩
theorem Fx.trans (h : Fx S w w1) (k : Fx S w1 w2) : Fx S w w2 := ⟨k.os.trans h.os, k.tape.trans h.tape, k.output.trans h.output, Nat.le_trans h.size k.size, fun i hi h1 => by rw [k.block i (Nat.lt_of_lt_of_le hi h.size) h1, h.block i hi h1]⟩
theorem Fx.mono {S' : Nat → Prop} (h : Fx S w w1) (hS : ∀ k, S k → S' k) : Fx S' w w1 := ⟨h.os, h.tape, h.output, h.size, fun k hk h1 => h.block k hk (fun e => h1 (hS k e))⟩
theorem fx_grown {row : Option Nat} (h : w.grownBy w1 row) (hr : ∀ k, row = some k → S k) : Fx S w w1 := ⟨h.os, h.tape, h.output, h.size, fun k hk h1 => h.block k hk (fun e => h1 (hr k e.symm))⟩
theorem fx_below (h : Below w.heap.size w w1) : Fx S w w1 := ⟨h.os, h.tape, h.output, h.size, fun k hk _ => h.block k hk⟩
theorem Fx.grown {row : Option Nat} (h : Fx S w w1) (hg : w1.grownBy w2 row) (hr : ∀ k, row = some k → S k ∨ w.heap.size ≤ k) : Fx S w w2 :=
  ⟨hg.os.trans h.os, hg.tape.trans h.tape, hg.output.trans h.output, Nat.le_trans h.size hg.size, fun k hk h1 => by
    rw [hg.block k (Nat.lt_of_lt_of_le hk h.size) (fun e => (hr k e.symm).elim h1 (fun z => by omega)), h.block k hk h1]⟩
/-- blocks that are new since n do not count -/
theorem Fx.below (h : Fx S w1 w2) (hb : Below n w w1) (hn : n ≤ w1.heap.size) (hS : ∀ k, S k → n ≤ k) : Below n w w2 := hb.trans ⟨h.os, h.tape, h.output, h.size, fun k hk => h.block k (by omega) (fun e => by have := hS k e; omega)⟩
theorem Fx.own {B E : Nat} {v : Value} {xs : List Value} (h : Fx S w w1) (ho : Own w B E v xs) (hv : ∀ k, v.ownBlock = some k → ¬ S k) : Own w1 B E v xs :=
  ho.of_blk fun k hk => h.block k (ho.lt k hk).2 (hv k hk)
theorem Fx.cell {b o : Nat} (h : Fx S w w1) (hb : b < w.heap.size) (hv : ¬ S b) : w1.cell? ⟨b, o, none⟩ = w.cell? ⟨b, o, none⟩ := World.cell?_of_block (w := w) (h.block b hb hv)
end

/-- the source in block q, of the reader in block g, with the error e -/
structure Src (w : World) (q g e : Nat) : Prop where
  own : Own w q 108 (.slice (some ⟨q, 0, none⟩) 2 2) [.pointer (some ⟨g, 0, none⟩), .int .i64 e]
section
variable {w : World} {q g e : Nat}
theorem Src.up {w' : World} (h : Src w q g e) (hb : Below w.heap.size w w') : Src w' q g e := ⟨h.own.up hb⟩
theorem Src.lt (h : Src w q g e) : q < w.heap.size := (h.own.lt q rfl).2
theorem Src.c0 (h : Src w q g e) : w.cell? ⟨q, 0, none⟩ = some (.pointer (some ⟨g, 0, none⟩)) := h.own.cell (by simp)
theorem Src.c1 (h : Src w q g e) : w.cell? ⟨q, 1, none⟩ = some (.int .i64 e) := h.own.cell (by simp)
theorem Src.free (h : Src w q g e) (c : Nat) : w.frozen? ⟨q, c, none⟩ = false := h.own.free c
theorem Src.set1 (h : Src w q g e) (r : Nat) : Src (w.setCell ⟨q, 1, none⟩ (.int .i64 r)) q g r ∧ w.grownBy (w.setCell ⟨q, 1, none⟩ (.int .i64 r)) (some q) := ⟨⟨(h.own.store 1 _).1⟩, (h.own.store 1 _).2⟩
theorem Src.keep {w' : World} {row : Option Nat} (h : Src w q g e) (hg : w.grownBy w' row) (hne : row ≠ some q) : Src w' q g e := ⟨h.own.keep hg (.inr (fun e => hne e.symm))⟩
end
/-- the source and its reader: what is wrong, and the place -/
structure SrcT (w : World) (q g : Nat) (s : ByteArray) (st : Nat × Nat) : Prop where
  src : Src w q g st.1
  box : BoxS w g s st.2
  ne : q ≠ g
  le : st.2 ≤ 8 * s.size
  err : st.1 ≤ 64
theorem SrcT.up {w w' : World} {q g : Nat} {s : ByteArray} {st : Nat × Nat} (h : SrcT w q g s st) (hb : Below w.heap.size w w') : SrcT w' q g s st := ⟨h.src.up hb, h.box.up hb, h.ne, h.le, h.err⟩
theorem failS {w : World} {q g : Nat} {s : ByteArray} {st : Nat × Nat} (h : SrcT w q g s st) (er : Nat) (her : er ≤ 64) :
    Calls Tryz.prog 60 #[.pointer (some ⟨q, 0, none⟩), .int .i64 er] w fun e w' => e = .returned (.tuple #[]) ∧ SrcT w' q g s (xf er st) ∧ Two q g w w' := by
  obtain ⟨en, p⟩ := st
  have HT := Lib.hid h
  have c1 := h.src.c1
  have f1 := h.src.free 1
  have hq := h.src.lt
  have HS := Lib.hid (h.src.set1 er)
  clear h
  by_cases h0 : en = 0
  · subst h0
    go_enter Tryz.func60, Tryz.ntmps60
    go_wp2
    go_end0
    refine ⟨rfl, ?_, fx_grown HS.out.2 (fun k e => .inl (by injection e with e; exact e.symm))⟩
    exact ⟨HS.out.1, HT.out.box.stay HS.out.2 (fun e => HT.out.ne (by injection e)), HT.out.ne, HT.out.le, her⟩
  · have he : (((en, p).1 : Nat) : Int) = (en : Int) := rfl
    rw [he] at c1
    clear he
    have h0' : ((en : Int) == 0) = false := by simp; omega
    have HX : Hid (xf er (en, p) = (en, p)) := Lib.hid (if_neg h0)
    clear h0
    go_enter Tryz.func60, Tryz.ntmps60
    go_wp2
    go_end0
    refine ⟨rfl, ?_, Fx.refl _ _⟩
    rw [HX.out]; exact HT.out
theorem srcBits {w : World} {q g : Nat} {s : ByteArray} {st : Nat × Nat} (h : SrcT w q g s st) (hs : s.size ≤ 4294967296) (n : Nat) (hn : n ≤ 32) :
    Calls Tryz.prog 55 #[.pointer (some ⟨q, 0, none⟩), .int .i64 n] w fun e w' => e = .returned (.int .i64 ((xb (numS s) (8 * s.size) n st).1 : Nat)) ∧ SrcT w' q g s (xb (numS s) (8 * s.size) n st).2 ∧ Two q g w w' := by
  obtain ⟨en, p⟩ := st
  have HT := Lib.hid h
  have c0 := h.src.c0
  have c1 := h.src.c1
  have hq := h.src.lt
  by_cases h0 : en = 0
  · subst h0
    have HX : Hid (xb (numS s) (8 * s.size) n (0, p) = ((bitsA (numS s) (8 * s.size) p n).1, (bitsA (numS s) (8 * s.size) p n).2.1, (bitsA (numS s) (8 * s.size) p n).2.2)) := Lib.hid rfl
    rw [HX.out]
    have HBT := Lib.hid (bitsS h.box hs n hn h.le)
    have HLE := Lib.hid (bitsA_le (N := numS s) (n := n) h.le)
    have HE : Hid ((bitsA (numS s) (8 * s.size) p n).2.1 ≤ 64) := Lib.hid (by unfold bitsA; split <;> simp)
    unfold RetBits at HBT
    clear h HX
    generalize bitsA (numS s) (8 * s.size) p n = r at *
    obtain ⟨a, er, p2⟩ := r
    go_enter Tryz.func55, Tryz.ntmps55
    go_wp2_with (go_at_call 76; (with_reducible refine HBT.out.mono ?_); rintro e w1 ⟨rfl, hb1, hb2⟩; (have HS1 := Lib.hid (HT.out.src.keep hb2 (fun e => HT.out.ne (by injection e with e; exact e.symm))); have HB1 := Lib.hid hb1; have HB2 := Lib.hid hb2; have f1 := HS1.out.free 1; have hq1 := HS1.out.lt; have hcc1 := HS1.out.c1; have HST := Lib.hid (HS1.out.set1 er); clear hb1 hb2))
    go_ret
    refine ⟨rfl, ⟨HST.out.1, HB1.out.stay HST.out.2 (fun e => HT.out.ne (by injection e)), HT.out.ne, HLE.out.1, HE.out⟩, (fx_grown HB2.out (fun k e => .inr (by injection e with e; exact e.symm))).trans (fx_grown HST.out.2 (fun k e => .inl (by injection e with e; exact e.symm)))⟩
  · have he : (((en, p).1 : Nat) : Int) = (en : Int) := rfl
    rw [he] at c1
    clear he
    have h0' : ((en : Int) != 0) = true := by simp; omega
    have HX : Hid (xb (numS s) (8 * s.size) n (en, p) = (0, (en, p))) := Lib.hid (if_neg h0)
    rw [HX.out]
    clear h0 h
    go_enter Tryz.func55, Tryz.ntmps55
    go_wp2
    go_ret
    exact ⟨rfl, HT.out, Fx.refl _ _⟩
end Go.Cm

/- The walks of the repeats. Conditions: the source is there, the row is owned. -/
namespace Go.Cm
open Go.RowKit Go.Proofs

theorem ints_cell (l : List Int) : ∀ u ∈ ints l, u.oneCell' = true := by
  intro u hu; simp only [ints, List.mem_map] at hu; obtain ⟨b, -, rfl⟩ := hu; rfl
theorem row_app (l : List Nat) (k x : Nat) : ints (nls (l ++ List.replicate (k + 1) x)) = ints (nls (l ++ List.replicate k x)) ++ ints (nls [x]) := by
  rw [List.replicate_succ', ← List.append_assoc]
  simp [ints, nls]
/-- the row grows at its end -/
theorem growP (v : Value) (l : List Nat) (n x : Nat) (w : World) (B : Nat) (h : Own w B 3 v (ints (nls l))) (hB : B ≤ w.heap.size) (hl : l.length + n ≤ 1000000) :
    Calls Tryz.prog 78 #[v, .int .i64 n, .int .i64 x] w fun e w' => ∃ v', e = .returned v' ∧ Own w' B 3 v' (ints (nls (l ++ List.replicate n x))) ∧ Fx (fun k => v.ownBlock = some k) w w' ∧ (∀ k, v'.ownBlock = some k → v.ownBlock = some k ∨ w.heap.size ≤ k) := by
  have HO := Lib.hid h
  have H0 : Hid (Own w B 3 v (ints (nls (l ++ List.replicate 0 x)))) := Lib.hid (by simpa using h)
  have HL : Hid (∀ k, k < n → (ints (nls (l ++ List.replicate k x))).length + 1 ≤ 4294967296) := Lib.hid (fun k hk => by simp [ints, nls]; omega)
  have HAP := Lib.hid (fun k => row_app l k x)
  obtain ⟨oa, z, cap, hv⟩ : ∃ oa z cap, v = .slice oa z cap := by
    obtain ⟨oz, cz, _, h, -⟩ := h.cases
    exact ⟨oz, _, cz, h⟩
  clear h HO
  generalize hob : (fun k => v.ownBlock = some k) = S
  have HV : Hid (∀ k, v.ownBlock = some k → S k) := Lib.hid (fun k hk => by rw [← hob]; exact hk)
  have HV2 : Hid (∀ k, S k → v.ownBlock = some k) := Lib.hid (fun k hk => by rw [← hob] at hk; exact hk)
  have HVS : Hid (∀ k, (v.ownBlock = some k ∨ w.heap.size ≤ k) ↔ (S k ∨ w.heap.size ≤ k)) := Lib.hid (fun k => by rw [← hob])
  clear hob
  subst hv
  go_enter Tryz.func78, Tryz.ntmps78
  go_wp2
  go_loopg [0, 8] n (fun gk r i wr => ∃ k : Nat, k ≤ n ∧ i = .int .i64 k ∧ Own wr B 3 r (ints (nls (l ++ List.replicate k x))) ∧ Fx S w wr ∧ (∀ q, r.ownBlock = some q → S q ∨ w.heap.size ≤ q) ∧ gk = n - k)
  case atStart => exact ⟨0, Nat.zero_le _, rfl, H0.out, Fx.refl _ _, fun k hk => .inl (HV.out k hk), rfl⟩
  case round =>
    obtain ⟨k, hk, rfl, ho, hf, hro, hgk⟩ := hrel
    have HOW := Lib.hid ho
    have HF := Lib.hid hf
    have HRO := Lib.hid hro
    have hsz := hf.size
    obtain ⟨oz, nz, cz, hu⟩ : ∃ oz nz cz, u0 = .slice oz nz cz := by
      obtain ⟨oz, cz, _, h, -⟩ := ho.cases
      exact ⟨oz, _, cz, h⟩
    subst hu
    clear ho hf hro
    by_cases hlt : k < n
    · have HLK := Lib.hid (HL.out k hlt)
      have hki : (k : Int) < (n : Int) := by omega
      go_wp2_with (at_builtin; refine wpList_app rfl (.tmp 10) (.tmp 12) 35 rfl B 3 (.int .i64 0) 8 Tryz.underlying35 (by kernel_rfl) rfl (by decide) (.slice oz nz cz) (ints (nls (l ++ List.replicate k x))) rfl (HOW.out.up (below_alloc _ _)) (.slice (some ⟨wr.heap.size, 0, none⟩) 1 1) (ints (nls [x])) rfl (by simpa [ints, nls] using sl_lit wr #[.int .i64 (x : Int)] 3 (by simp)) (ints_cell _) (by have := HLK.out; simpa [ints, nls] using this) (Nat.le_trans hB (Nat.le_trans hsz (by simp))) ?_; intro v' w2 hown1 hg1 hk1; (have HO1 := Lib.hid hown1; have HG1 := Lib.hid hg1; have HK1 := Lib.hid hk1; clear hown1 hg1 hk1))
      go_roundg (n - (k + 1))
      case measure => omega
      case rel =>
        refine ⟨k + 1, by omega, by go_num, by rw [HAP.out]; exact HO1.out, (HF.out.trans (fx_below (below_alloc wr _))).grown HG1.out HRO.out, fun q hq => ?_, rfl⟩
        rcases HK1.out q hq with h1 | h1
        · exact HRO.out q h1
        · have h2 : wr.heap.size ≤ q := Nat.le_trans (by simp) h1
          exact .inr (by omega)
    · obtain rfl : k = n := by omega
      have hki : ¬ (k : Int) < (k : Int) := by omega
      go_wp2
      go_ret
      exact ⟨_, rfl, HOW.out, HF.out, fun q hq => (HVS.out q).2 (HRO.out q hq)⟩
theorem xb_lt (N T n : Nat) (st : Nat × Nat) : (xb N T n st).1 < 2 ^ n := by
  have hp := Nat.two_pow_pos n
  unfold xb
  split
  · unfold bitsA
    split
    · exact Nat.mod_lt _ hp
    · exact hp
  · exact hp
theorem last_cell (l : List Nat) (h : l ≠ []) : (ints (nls l)).getD (l.length - 1) undef = .int .i64 (l.getD (l.length - 1) 0 : Nat) := by
  have : 0 < l.length := List.length_pos_iff.2 h
  have h2 : l.length - 1 < l.length := by omega
  simp [ints, nls, List.getD, h2]
theorem repS {w : World} {q g : Nat} {s : ByteArray} {st : Nat × Nat} (h : SrcT w q g s st) (hs : s.size ≤ 4294967296) (sym : Nat) (hsym : sym = 16 ∨ sym = 17 ∨ sym = 18) (v : Value) (l : List Nat) (B : Nat) (ho : Own w B 3 v (ints (nls l))) (hl : l.length ≤ 1000) :
    Calls Tryz.prog 94 #[.pointer (some ⟨q, 0, none⟩), .int .i64 sym, v] w fun e w' => e = .returned (.tuple #[.int .i64 ((repN (numS s) (8 * s.size) sym l st).1 : Nat), .int .i64 ((repN (numS s) (8 * s.size) sym l st).2.1 : Nat)]) ∧ SrcT w' q g s (repN (numS s) (8 * s.size) sym l st).2.2 ∧ Two q g w w' := by
  have HBT := Lib.hid (fun n (hn : n ≤ 32) => srcBits h hs n hn)
  have HFL := Lib.hid (failS h 4 (by omega))
  have HXL := Lib.hid (fun n => xb_lt (numS s) (8 * s.size) n st)
  have hlen : (ints (nls l)).length = l.length := by simp [ints, nls]
  have HSL := Lib.hid (last_cell l)
  obtain ⟨oa, cap, b, hv, hd, -, hc, -, -⟩ := ho.cases
  rw [hlen] at hv hd hc
  subst hv
  have hix := index_any (P := Tryz.prog) 35 3 Tryz.underlying35 (by kernel_rfl) hd
  have hm := hd.len
  have hbk := hd.hblk
  have HC := Lib.hid hc
  clear hd hc h ho hlen
  generalize numS s = N at *
  generalize 8 * s.size = T at *
  rcases hsym with rfl | rfl | rfl
  · by_cases hnil : l = []
    · subst hnil
      have hrep : repN N T 16 [] st = (0, 0, xf 4 st) := rfl
      rw [hrep]
      rw [show ((4 : Nat) : Int) = 4 from rfl] at HFL
      clear hrep HC HSL HXL HBT hbk
      generalize xf 4 st = st2 at *
      go_enter Tryz.func94, Tryz.ntmps94
      go_wp2_with (go_at_call 60; (with_reducible refine HFL.out.mono ?_); rintro e w2 ⟨rfl, hq1, hq2⟩; (have HQ1 := Lib.hid hq1; have HQ2 := Lib.hid hq2; clear hq1 hq2))
      go_ret2
      exact ⟨rfl, HQ1.out, HQ2.out⟩
    · have hrep : repN N T 16 l st = (3 + (xb N T 2 st).1, l.getD (l.length - 1) 0, (xb N T 2 st).2) := by unfold repN; rw [if_neg (by omega), if_pos rfl, if_neg hnil]
      rw [hrep]
      have HB2 := Lib.hid (HBT.out 2 (by omega))
      rw [show ((2 : Nat) : Int) = 2 from rfl] at HB2
      have hx := HXL.out 2
      have hcell := HC.out (l.length - 1) (by have := List.length_pos_iff.2 hnil; omega)
      rw [HSL.out hnil] at hcell
      have hln : 0 < l.length := List.length_pos_iff.2 hnil
      have hbb := hbk hln
      have hpred : (l.length : Int) - 1 = ((l.length - 1 : Nat) : Int) := by omega
      have hplt : l.length - 1 < l.length := by omega
      have hl0 : ((l.length : Int) == 0) = false := by simp; omega
      clear hrep hnil HC HSL HFL HXL HBT hbk
      generalize xb N T 2 st = r at *
      obtain ⟨a, st2⟩ := r
      generalize l.getD (l.length - 1) 0 = y at *
      generalize l.length - 1 = j at *
      generalize l.length = n at *
      go_enter Tryz.func94, Tryz.ntmps94
      go_wp2_with (go_at_call 55; (with_reducible refine HB2.out.mono ?_); rintro e w2 ⟨rfl, hq1, hq2⟩; (have HQ1 := Lib.hid hq1; have HQ2 := Lib.hid hq2; clear hq1 hq2))
      go_ret2
      exact ⟨rfl, HQ1.out, HQ2.out⟩
  · have hrep : repN N T 17 l st = (3 + (xb N T 3 st).1, 0, (xb N T 3 st).2) := rfl
    rw [hrep]
    have HB2 := Lib.hid (HBT.out 3 (by omega))
    rw [show ((3 : Nat) : Int) = 3 from rfl] at HB2
    have hx := HXL.out 3
    clear hrep HC HSL HFL HXL HBT hbk
    generalize xb N T 3 st = r at *
    obtain ⟨a, st2⟩ := r
    go_enter Tryz.func94, Tryz.ntmps94
    go_wp2_with (go_at_call 55; (with_reducible refine HB2.out.mono ?_); rintro e w2 ⟨rfl, hq1, hq2⟩; (have HQ1 := Lib.hid hq1; have HQ2 := Lib.hid hq2; clear hq1 hq2))
    go_ret2
    exact ⟨rfl, HQ1.out, HQ2.out⟩
  · have hrep : repN N T 18 l st = (11 + (xb N T 7 st).1, 0, (xb N T 7 st).2) := rfl
    rw [hrep]
    have HB2 := Lib.hid (HBT.out 7 (by omega))
    rw [show ((7 : Nat) : Int) = 7 from rfl] at HB2
    have hx := HXL.out 7
    clear hrep HC HSL HFL HXL HBT hbk
    generalize xb N T 7 st = r at *
    obtain ⟨a, st2⟩ := r
    go_enter Tryz.func94, Tryz.ntmps94
    go_wp2_with (go_at_call 55; (with_reducible refine HB2.out.mono ?_); rintro e w2 ⟨rfl, hq1, hq2⟩; (have HQ1 := Lib.hid hq1; have HQ2 := Lib.hid hq2; clear hq1 hq2))
    go_ret2
    exact ⟨rfl, HQ1.out, HQ2.out⟩
end Go.Cm

/- The walk of the source's row of lengths. Conditions: the source is there; the table reads as its lengths say. -/
namespace Go.Cm
open Go.RowKit Go.Proofs

theorem rowN_stop (N T : Nat) (L : List Nat) (n f : Nat) (l : List Nat) (st : Nat × Nat) (h : ¬ (st.1 = 0 ∧ l.length < n)) : rowN N T L n f l st = (l, st) := by
  cases f with
  | zero => rfl
  | succ f => unfold rowN; rw [if_neg h]
theorem rep_pos (N T sym : Nat) (l : List Nat) (p : Nat) (h : (repN N T sym l (0, p)).2.2.1 = 0) : 3 ≤ (repN N T sym l (0, p)).1 := by
  unfold repN at h ⊢
  split
  · omega
  · split
    · split
      · rename_i h1 h2 h3
        rw [if_neg h1, if_pos h2, if_pos h3] at h
        cases h
      · omega
    · omega
theorem rep_le (N T sym : Nat) (l : List Nat) (st : Nat × Nat) : (repN N T sym l st).1 ≤ 200 := by
  have h7 := xb_lt N T 7 st
  have h2 := xb_lt N T 2 st
  have h3 := xb_lt N T 3 st
  unfold repN
  split
  · show 11 + (xb N T 7 st).1 ≤ 200
    omega
  · split
    · split
      · exact Nat.zero_le _
      · show 3 + (xb N T 2 st).1 ≤ 200
        omega
    · show 3 + (xb N T 3 st).1 ≤ 200
      omega
theorem SrcT.kept {w w' : World} {q g : Nat} {s : ByteArray} {st : Nat × Nat} {row : Option Nat} (h : SrcT w q g s st) (hg : w.grownBy w' row) (h1 : row ≠ some q) (h2 : row ≠ some g) : SrcT w' q g s st := ⟨h.src.keep hg h1, h.box.stay hg h2, h.ne, h.le, h.err⟩
theorem SrcT.fx {S : Nat → Prop} {w w' : World} {q g : Nat} {s : ByteArray} {st : Nat × Nat} (h : SrcT w q g s st) (hf : Fx S w w') (h1 : ¬ S q) (h2 : ¬ S g) : SrcT w' q g s st :=
  ⟨⟨hf.own h.src.own (fun k hk => by injection hk with hk; subst hk; exact h1)⟩, ⟨hf.own h.box.own (fun k hk => by injection hk with hk; subst hk; exact h2)⟩, h.ne, h.le, h.err⟩
theorem Fx.far {S S' : Nat → Prop} {w w1 w2 : World} (h : Fx S w w1) (hg : Fx S' w1 w2) (hr : ∀ k, S' k → S k ∨ w.heap.size ≤ k) : Fx S w w2 :=
  ⟨hg.os.trans h.os, hg.tape.trans h.tape, hg.output.trans h.output, Nat.le_trans h.size hg.size, fun k hk h1 => by
    rw [hg.block k (Nat.lt_of_lt_of_le hk h.size) (fun e => (hr k e).elim h1 (fun z => by omega)), h.block k hk h1]⟩
theorem readF_facts (L : List Nat) (V left : Nat) : (readF L V left).2.1 ≤ 64 ∧ (readF L V left).2.2 ≤ left ∧ ((readF L V left).2.1 ≠ 0 → (readF L V left).2.2 = 0) ∧ ((readF L V left).2.1 = 0 → (readF L V left).1 < L.length) := by
  rcases readF_ok L V left with ⟨h1, h2, h3, h4, h5⟩ | ⟨h1, h2, h3, h4⟩
  · rw [h4, h5]; exact ⟨by omega, h3, fun h => absurd rfl h, fun _ => h1⟩
  · rw [h3, h4]
    refine ⟨by split <;> omega, Nat.zero_le _, fun _ => rfl, fun h => ?_⟩
    exfalso; split at h <;> cases h
/-- what a step of the reading of lengths brings -/
noncomputable def rowStep (N T : Nat) (L : List Nat) (n f : Nat) (l : List Nat) (p : Nat) (r : Nat × Nat × Nat) : List Nat × (Nat × Nat) :=
  if r.2.1 ≠ 0 then (l, r.2.1, p)
  else if r.1 < 16 then rowN N T L n f (l ++ [r.1]) (0, p + r.2.2)
  else if n < l.length + (repN N T r.1 l (0, p + r.2.2)).1 then ([], xf 3 (repN N T r.1 l (0, p + r.2.2)).2.2)
  else rowN N T L n f (l ++ List.replicate (repN N T r.1 l (0, p + r.2.2)).1 (repN N T r.1 l (0, p + r.2.2)).2.1) (repN N T r.1 l (0, p + r.2.2)).2.2
theorem rowN_step (N T : Nat) (L : List Nat) (n f : Nat) (l : List Nat) (p : Nat) (h : l.length < n) : rowN N T L n (f + 1) l (0, p) = rowStep N T L n f l p (readF L (N / 2 ^ p) (T - p)) := by
  rw [rowN, if_pos ⟨rfl, h⟩]; rfl
theorem rowS {w : World} {q g gt : Nat} {s : ByteArray} {st : Nat × Nat} (h : SrcT w q g s st) (hs : s.size ≤ 4294967296) (n : Nat) (hn : n ≤ 1000) (L : List Nat) (hL : L.length ≤ 19)
    (HRD : ∀ W p, Two q g w W → BoxS W g s p → p ≤ 8 * s.size → Calls Tryz.prog 86 #[.pointer (some ⟨gt, 0, none⟩), .pointer (some ⟨g, 0, none⟩)] W (RetRead BoxS L s p g W)) :
    Calls Tryz.prog 81 #[.pointer (some ⟨q, 0, none⟩), .pointer (some ⟨gt, 0, none⟩), .int .i64 n] w fun e w' => ∃ v, e = .returned v ∧ Own w' w.heap.size 3 v (ints (nls (rowN (numS s) (8 * s.size) L n (n + 1) [] st).1)) ∧ SrcT w' q g s (rowN (numS s) (8 * s.size) L n (n + 1) [] st).2 ∧ Two q g w w' := by
  have HH := Lib.hid h
  have hqw := h.src.lt
  have hgw := h.box.lt
  have HRD2 : Hid (∀ W p, Two q g w W → BoxS W g s p → p ≤ 8 * s.size → Calls Tryz.prog 86 #[.pointer (some ⟨gt, 0, none⟩), .pointer (some ⟨g, 0, none⟩)] W fun e w' => e = .returned (.tuple #[.int .i64 ((readF L (numS s / 2 ^ p) (8 * s.size - p)).1 : Nat), .int .i64 ((readF L (numS s / 2 ^ p) (8 * s.size - p)).2.1 : Nat)]) ∧ BoxS w' g s (p + (readF L (numS s / 2 ^ p) (8 * s.size - p)).2.2) ∧ W.grownBy w' (some g)) := Lib.hid (fun W p h1 h2 h3 => (HRD W p h1 h2 h3).mono fun e w' ⟨a, er, d, he, hr, hb, hg⟩ => by
    have := readF_of hr
    rw [this]
    exact ⟨he, hb, hg⟩)
  obtain ⟨R, hR⟩ : ∃ R, R = rowN (numS s) (8 * s.size) L n (n + 1) [] st := ⟨_, rfl⟩
  rw [← hR]
  have HR := Lib.hid hR.symm
  have HSTOP := Lib.hid (rowN_stop (numS s) (8 * s.size) L n)
  have HSTEP := Lib.hid (rowN_step (numS s) (8 * s.size) L n)
  clear hR HRD h
  go_enter Tryz.func81, Tryz.ntmps81
  go_wp2
  go_loopg [7] (n + 1) (fun gk r wr => ∃ l en p, Own wr w.heap.size 3 r (ints (nls l)) ∧ SrcT wr q g s (en, p) ∧ Two q g w wr ∧ Hid (rowN (numS s) (8 * s.size) L n gk l (en, p) = R) ∧ l.length ≤ n ∧ (en = 0 → n - l.length < gk))
  case atStart => exact ⟨[], st.1, st.2, Own.nil _ _ _, HH.out, Fx.refl _ _, HR, Nat.zero_le _, fun _ => by simp⟩
  case round =>
    obtain ⟨l, en, p, ho, hsr, hfx, HRN, hll, hf⟩ := hrel
    have HO := Lib.hid ho
    have HS := Lib.hid hsr
    have HF := Lib.hid hfx
    have hsz := hfx.size
    have c0 := hsr.src.c0
    have c1 := hsr.src.c1
    have hq1 := hsr.src.lt
    have he : (((en, p).1 : Nat) : Int) = (en : Int) := rfl
    rw [he] at c1
    have hlen : (ints (nls l)).length = l.length := by simp [ints, nls]
    obtain ⟨oa, cap, b, hv, -⟩ := ho.cases
    rw [hlen] at hv
    subst hv
    have HLEN := Lib.hid hlen
    clear he ho hsr hfx hlen
    by_cases h0 : en = 0
    · subst h0
      by_cases hlt : l.length < n
      · have hlti : (l.length : Int) < (n : Int) := by omega
        have hf' := hf rfl
        obtain ⟨f, rfl⟩ : ∃ f, gk = f + 1 := ⟨gk - 1, by omega⟩
        have HE := Lib.hid (HSTEP.out f l p hlt)
        rw [HRN.out] at HE
        have hple := HS.out.le
        have hcall := HRD2.out wr p HF.out HS.out.box hple
        have hfa := readF_facts L (numS s / 2 ^ p) (8 * s.size - p)
        generalize readF L (numS s / 2 ^ p) (8 * s.size - p) = rd at *
        obtain ⟨a, er, d⟩ := rd
        obtain ⟨hf1, hf2, hf3, hf4⟩ := hfa
        have HCALL := Lib.hid hcall
        have hpd : p + d ≤ 8 * s.size := by simp at hf2 hple; omega
        have HPD := Lib.hid hpd
        clear hcall HRN hf HSTEP HSTOP hf2 hple hpd
        by_cases hz : er = 0
        · subst hz
          have haL := hf4 rfl
          simp at haL
          clear hf1 hf3 hf4
          by_cases ha : a < 16
          · have hai : (a : Int) < 16 := by omega
            have HST2 : Hid (R = rowN (numS s) (8 * s.size) L n f (l ++ [a]) (0, p + d)) := Lib.hid (by rw [HE.out]; unfold rowStep; rw [if_neg (by simp), if_pos ha])
            have HAPP : Hid (ints (nls (l ++ [a])) = ints (nls l) ++ ints (nls [a])) := Lib.hid (by simp [ints, nls])
            clear ha HE
            have HLL : Hid ((ints (nls l)).length + 1 ≤ 4294967296) := Lib.hid (by rw [HLEN.out]; omega)
            go_wp2_with (first | (go_at_call 86; (with_reducible refine HCALL.out.mono ?_); rintro e w4 ⟨rfl, hb1, hb2⟩; (have HS4 : Hid (SrcT w4 q g s (0, p + d)) := Lib.hid ⟨HS.out.src.keep hb2 (fun e => HS.out.ne (by injection e with e; exact e.symm)), hb1, HS.out.ne, HPD.out, HS.out.err⟩; have HF4 : Hid (Two q g w w4) := Lib.hid (HF.out.trans (fx_grown hb2 (fun k e => .inr (by injection e with e; exact e.symm)))); have hs4 := hb2.size; have HO4 := Lib.hid (HO.out.keep hb2 (ne_of_row (fun k hk e => by have := (HO.out.lt k hk).1; injection e with e; omega))); clear hb1 hb2)) | (at_builtin; refine wpList_app rfl (.tmp 60) (.tmp 62) 35 rfl w.heap.size 3 (.int .i64 0) 8 Tryz.underlying35 (by kernel_rfl) rfl (by decide) (.slice oa l.length cap) (ints (nls l)) rfl (HO4.out.up (below_alloc _ _)) (.slice (some ⟨w4.heap.size, 0, none⟩) 1 1) (ints (nls [a])) rfl (by simpa [ints, nls] using sl_lit w4 #[.int .i64 (a : Int)] 3 (by simp)) (ints_cell _) (by have := HLL.out; simpa [ints, nls] using this) (Nat.le_trans hsz (Nat.le_trans hs4 (by simp))) ?_; intro v' w5 hown1 hg1 hk1; (have HO5 := Lib.hid hown1; have HG5 := Lib.hid hg1; clear hown1 hg1 hk1)))
            go_roundg f
            case measure => omega
            case rel =>
              have hr1 : (Value.slice oa l.length cap).ownBlock ≠ some q := fun e => by have := (HO4.out.lt q e).1; omega
              have hr2 : (Value.slice oa l.length cap).ownBlock ≠ some g := fun e => by have := (HO4.out.lt g e).1; omega
              exact ⟨l ++ [a], 0, p + d, by rw [HAPP.out]; exact HO5.out, (HS4.out.up (below_alloc w4 _)).kept HG5.out hr1 hr2, (HF4.out.trans (fx_below (below_alloc w4 _))).grown HG5.out (fun k hk => .inr (HO4.out.lt k hk).1), Lib.hid HST2.out.symm, by simp; omega, fun _ => by simp; omega⟩
          · have hai : ¬ (a : Int) < 16 := by omega
            have hsym : a = 16 ∨ a = 17 ∨ a = 18 := by omega
            have hrp := rep_pos (numS s) (8 * s.size) a l (p + d)
            have HRP := Lib.hid (fun W (h : SrcT W q g s (0, p + d)) (ho : Own W w.heap.size 3 (.slice oa l.length cap) (ints (nls l))) => repS h hs a hsym (.slice oa l.length cap) l w.heap.size ho (by omega))
            have HST2 : Hid (R = if n < l.length + (repN (numS s) (8 * s.size) a l (0, p + d)).1 then ([], xf 3 (repN (numS s) (8 * s.size) a l (0, p + d)).2.2) else rowN (numS s) (8 * s.size) L n f (l ++ List.replicate (repN (numS s) (8 * s.size) a l (0, p + d)).1 (repN (numS s) (8 * s.size) a l (0, p + d)).2.1) (repN (numS s) (8 * s.size) a l (0, p + d)).2.2) := Lib.hid (by rw [HE.out]; unfold rowStep; rw [if_neg (by simp), if_neg ha])
            have hrl := rep_le (numS s) (8 * s.size) a l (0, p + d)
            clear ha HE hsym haL
            generalize repN (numS s) (8 * s.size) a l (0, p + d) = rp at *
            obtain ⟨m, y, st2⟩ := rp
            have HRN := Lib.hid (fun W (ho : Own W w.heap.size 3 (.slice oa l.length cap) (ints (nls l))) (hB : w.heap.size ≤ W.heap.size) => growP (.slice oa l.length cap) l m y W w.heap.size ho hB (by simp at hrl; omega))
            simp at hrp hrl
            have HRPP := Lib.hid hrp
            clear hrp
            by_cases hbig : n < l.length + m
            · have hbi : (l.length : Int) + (m : Int) > (n : Int) := by omega
              have hR : R = ([], xf 3 st2) := by rw [HST2.out]; exact if_pos hbig
              have HR2 := Lib.hid hR
              clear hbig hR HST2
              go_wp2_with (first | (go_at_call 86; (with_reducible refine HCALL.out.mono ?_); rintro e w4 ⟨rfl, hb1, hb2⟩; (have HS4 : Hid (SrcT w4 q g s (0, p + d)) := Lib.hid ⟨HS.out.src.keep hb2 (fun e => HS.out.ne (by injection e with e; exact e.symm)), hb1, HS.out.ne, HPD.out, HS.out.err⟩; have HF4 : Hid (Two q g w w4) := Lib.hid (HF.out.trans (fx_grown hb2 (fun k e => .inr (by injection e with e; exact e.symm)))); have hs4 := hb2.size; have HO4 := Lib.hid (HO.out.keep hb2 (ne_of_row (fun k hk e => by have := (HO.out.lt k hk).1; injection e with e; omega))); have HREP := Lib.hid (HRP.out w4 HS4.out HO4.out); clear hb1 hb2)) | (go_at_call 94; (with_reducible refine HREP.out.mono ?_); rintro e w5 ⟨rfl, hq1, hq2⟩; (have HS5 := Lib.hid hq1; have HF5 := Lib.hid hq2; have hs5 := hq2.size; have HO5 := Lib.hid (hq2.own HO4.out (fun k hk e => by have := (HO4.out.lt k hk).1; omega)); have HFL5 := Lib.hid (failS HS5.out 3 (by omega)); have HRUN := Lib.hid (HRN.out w5 HO5.out (by omega)); rw [show ((3 : Nat) : Int) = 3 from rfl] at HFL5; clear hq1 hq2)) | (go_at_call 60; (with_reducible refine HFL5.out.mono ?_); rintro e w6 ⟨rfl, hq1, hq2⟩; (have HQ1 := Lib.hid hq1; have HQ2 := Lib.hid hq2; clear hq1 hq2)))
              go_ret
              rw [HR2.out]
              exact ⟨_, rfl, Own.nil _ _ _, HQ1.out, (HF4.out.trans HF5.out).trans HQ2.out⟩
            · have hbi : ¬ (l.length : Int) + (m : Int) > (n : Int) := by omega
              have HR2 : Hid (R = rowN (numS s) (8 * s.size) L n f (l ++ List.replicate m y) st2) := Lib.hid (by rw [HST2.out]; exact if_neg hbig)
              clear HST2
              have HBN := Lib.hid hbig
              clear hbig
              go_wp2_with (first | (go_at_call 86; (with_reducible refine HCALL.out.mono ?_); rintro e w4 ⟨rfl, hb1, hb2⟩; (have HS4 : Hid (SrcT w4 q g s (0, p + d)) := Lib.hid ⟨HS.out.src.keep hb2 (fun e => HS.out.ne (by injection e with e; exact e.symm)), hb1, HS.out.ne, HPD.out, HS.out.err⟩; have HF4 : Hid (Two q g w w4) := Lib.hid (HF.out.trans (fx_grown hb2 (fun k e => .inr (by injection e with e; exact e.symm)))); have hs4 := hb2.size; have HO4 := Lib.hid (HO.out.keep hb2 (ne_of_row (fun k hk e => by have := (HO.out.lt k hk).1; injection e with e; omega))); have HREP := Lib.hid (HRP.out w4 HS4.out HO4.out); clear hb1 hb2)) | (go_at_call 94; (with_reducible refine HREP.out.mono ?_); rintro e w5 ⟨rfl, hq1, hq2⟩; (have HS5 := Lib.hid hq1; have HF5 := Lib.hid hq2; have hs5 := hq2.size; have HO5 := Lib.hid (hq2.own HO4.out (fun k hk e => by have := (HO4.out.lt k hk).1; omega)); have HFL5 := Lib.hid (failS HS5.out 3 (by omega)); have HRUN := Lib.hid (HRN.out w5 HO5.out (by omega)); rw [show ((3 : Nat) : Int) = 3 from rfl] at HFL5; clear hq1 hq2)) | (go_at_call 78; (with_reducible refine HRUN.out.mono ?_); rintro e w6 ⟨v6, rfl, hq1, hq2, hq3⟩; (have HQ1 := Lib.hid hq1; have HQ2 := Lib.hid hq2; clear hq1 hq2 hq3)))
              have hbn := HBN.out
              have hrpp := HRPP.out
              go_roundg f
              case measure => omega
              case rel =>
                have hr1 : (Value.slice oa l.length cap).ownBlock ≠ some q := fun e => by have := (HO4.out.lt q e).1; omega
                have hr2 : (Value.slice oa l.length cap).ownBlock ≠ some g := fun e => by have := (HO4.out.lt g e).1; omega
                exact ⟨l ++ List.replicate m y, st2.1, st2.2, HQ1.out, HS5.out.fx HQ2.out hr1 hr2, (HF4.out.trans HF5.out).far HQ2.out (fun k hk => .inr (HO4.out.lt k hk).1), Lib.hid HR2.out.symm, by simp; omega, fun h => by have := hrpp h; simp; omega⟩
        · have hz' : ((er : Int) != 0) = true := by simpa using hz
          have hd0 := hf3 hz
          have HST2 : Hid (R = (l, er, p)) := Lib.hid (by rw [HE.out]; unfold rowStep; exact if_pos hz)
          simp at hd0 hf1
          subst hd0
          clear hf3 hf4 HE hz
          go_wp2_with (first | (go_at_call 86; (with_reducible refine HCALL.out.mono ?_); rintro e w4 ⟨rfl, hb1, hb2⟩; (have HS4 : Hid (SrcT w4 q g s (0, p)) := Lib.hid ⟨HS.out.src.keep hb2 (fun e => HS.out.ne (by injection e with e; exact e.symm)), hb1, HS.out.ne, HS.out.le, HS.out.err⟩; have HF4 : Hid (Two q g w w4) := Lib.hid (HF.out.trans (fx_grown hb2 (fun k e => .inr (by injection e with e; exact e.symm)))); have HO4 := Lib.hid (HO.out.keep hb2 (ne_of_row (fun k hk e => by have := (HO.out.lt k hk).1; injection e with e; omega))); have HFC := Lib.hid (failS HS4.out er hf1); clear hb1 hb2)) | (go_at_call 60; (with_reducible refine HFC.out.mono ?_); rintro e w5 ⟨rfl, hq1, hq2⟩; (have HQ1 := Lib.hid hq1; have HQ2 := Lib.hid hq2; clear hq1 hq2)))
          have hzz : er ≠ 0 := by simpa using hz'
          go_roundg f
          case measure => omega
          case rel => exact ⟨l, er, p, HQ2.out.own HO4.out (fun k hk e => by have := (HO4.out.lt k hk).1; omega), HQ1.out, HF4.out.trans HQ2.out, Lib.hid ((rowN_stop _ _ _ _ _ _ _ (fun h => hzz h.1)).trans HST2.out.symm), hll, fun h => absurd h hzz⟩
      · have hlti : ¬ (l.length : Int) < (n : Int) := by omega
        have HE := Lib.hid (HSTOP.out gk l (0, p) (fun h => hlt h.2))
        rw [HRN.out] at HE
        clear hlt hf
        go_wp2
        go_ret
        rw [HE.out]
        exact ⟨_, rfl, HO.out, HS.out, HF.out⟩
    · have h0' : ((en : Int) == 0) = false := by simp; omega
      have HE := Lib.hid (HSTOP.out gk l (en, p) (fun h => h0 h.1))
      rw [HRN.out] at HE
      clear h0 hf
      go_wp2
      go_ret
      rw [HE.out]
      exact ⟨_, rfl, HO.out, HS.out, HF.out⟩
end Go.Cm

/- The walk of the source's stored head; the block of a head. Conditions: the source and the head are there. -/
namespace Go.Cm
open Go.RowKit Go.Proofs

theorem bits_xor_i64 (a b : Nat) (ha : a < 2 ^ 63) (hb : b < 2 ^ 63) : bits .xor .i64 (a : Int) (b : Int) = ((a ^^^ b : Nat) : Int) := by
  have hx : a ^^^ b < 2 ^ 63 := Nat.xor_lt_two_pow ha hb
  have ha' : a % 2 ^ 64 = a := Nat.mod_eq_of_lt (by omega)
  have hb' : b % 2 ^ 64 = b := Nat.mod_eq_of_lt (by omega)
  simp only [bits, BitVec.ofInt_natCast, BitVec.toNat_xor, BitVec.toNat_ofNat, show IntKind.i64.bits = 64 from rfl, ha', hb']
  rw [IntKind.wrap_i64]; omega
theorem xor_turn (n : Nat) (h : n < 65536) : n ^^^ 65535 = 65535 - n := by
  apply Nat.eq_of_testBit_eq
  intro i
  rw [Nat.testBit_xor, show 65535 = 2 ^ 16 - 1 by decide, Nat.testBit_two_pow_sub_one, show 2 ^ 16 - 1 - n = 2 ^ 16 - (n + 1) by omega, Nat.testBit_two_pow_sub_succ (by omega)]
  by_cases hi : i < 16
  · simp [hi]
  · have : n.testBit i = false := Nat.testBit_lt_two_pow (Nat.lt_of_lt_of_le h (by rw [show 65536 = 2 ^ 16 by decide]; exact Nat.pow_le_pow_right (by decide) (by omega)))
    simp [hi, this]
theorem bits_turn (n : Nat) (h : n < 65536) : bits .xor .i64 (n : Int) 65535 = ((65535 - n : Nat) : Int) := by
  have := bits_xor_i64 n 65535 (by omega) (by decide)
  rw [xor_turn n h] at this
  exact this
/-- the block of a head -/
structure BoxH (w : World) (b : Nat) (fin : Bool) (k z : Nat) (v1 v2 : Value) : Prop where
  own : Own w b 90 (.slice (some ⟨b, 0, none⟩) 5 5) [.bool fin, .int .i64 k, .int .i64 z, v1, v2]
section
variable {w w' : World} {b k z : Nat} {fin : Bool} {v1 v2 : Value}
theorem BoxH.up (h : BoxH w b fin k z v1 v2) (hb : Below w.heap.size w w') : BoxH w' b fin k z v1 v2 := ⟨h.own.up hb⟩
theorem BoxH.lt (h : BoxH w b fin k z v1 v2) : b < w.heap.size := (h.own.lt b rfl).2
theorem BoxH.c0 (h : BoxH w b fin k z v1 v2) : w.cell? ⟨b, 0, none⟩ = some (.bool fin) := h.own.cell (by simp)
theorem BoxH.c1 (h : BoxH w b fin k z v1 v2) : w.cell? ⟨b, 1, none⟩ = some (.int .i64 k) := h.own.cell (by simp)
theorem BoxH.c2 (h : BoxH w b fin k z v1 v2) : w.cell? ⟨b, 2, none⟩ = some (.int .i64 z) := h.own.cell (by simp)
theorem BoxH.c3 (h : BoxH w b fin k z v1 v2) : w.cell? ⟨b, 3, none⟩ = some v1 := h.own.cell (by simp)
theorem BoxH.c4 (h : BoxH w b fin k z v1 v2) : w.cell? ⟨b, 4, none⟩ = some v2 := h.own.cell (by simp)
theorem BoxH.free (h : BoxH w b fin k z v1 v2) (c : Nat) : w.frozen? ⟨b, c, none⟩ = false := h.own.free c
theorem BoxH.set1 (h : BoxH w b fin k z v1 v2) (r : Nat) : BoxH (w.setCell ⟨b, 1, none⟩ (.int .i64 r)) b fin r z v1 v2 ∧ w.grownBy (w.setCell ⟨b, 1, none⟩ (.int .i64 r)) (some b) := ⟨⟨(h.own.store 1 _).1⟩, (h.own.store 1 _).2⟩
theorem BoxH.set2 (h : BoxH w b fin k z v1 v2) (r : Nat) : BoxH (w.setCell ⟨b, 2, none⟩ (.int .i64 r)) b fin k r v1 v2 ∧ w.grownBy (w.setCell ⟨b, 2, none⟩ (.int .i64 r)) (some b) := ⟨⟨(h.own.store 2 _).1⟩, (h.own.store 2 _).2⟩
theorem BoxH.set3 (h : BoxH w b fin k z v1 v2) (u : Value) : BoxH (w.setCell ⟨b, 3, none⟩ u) b fin k z u v2 ∧ w.grownBy (w.setCell ⟨b, 3, none⟩ u) (some b) := ⟨⟨(h.own.store 3 _).1⟩, (h.own.store 3 _).2⟩
theorem BoxH.set4 (h : BoxH w b fin k z v1 v2) (u : Value) : BoxH (w.setCell ⟨b, 4, none⟩ u) b fin k z v1 u ∧ w.grownBy (w.setCell ⟨b, 4, none⟩ u) (some b) := ⟨⟨(h.own.store 4 _).1⟩, (h.own.store 4 _).2⟩
theorem BoxH.stay {row : Option Nat} (h : BoxH w b fin k z v1 v2) (hg : w.grownBy w' row) (hne : row ≠ some b) : BoxH w' b fin k z v1 v2 := ⟨h.own.keep hg (.inr (fun e => hne e.symm))⟩
theorem BoxH.fx {S : Nat → Prop} (h : BoxH w b fin k z v1 v2) (hf : Fx S w w') (h1 : ¬ S b) : BoxH w' b fin k z v1 v2 := ⟨hf.own h.own (fun k hk => by injection hk with hk; subst hk; exact h1)⟩
end
abbrev Three (q g b : Nat) (w w' : World) : Prop := Fx (fun k => k = q ∨ k = g ∨ k = b) w w'
theorem Three.of2 {q g b : Nat} {w w' : World} (h : Two q g w w') : Three q g b w w' := h.mono fun _ hk => hk.elim .inl (fun z => .inr (.inl z))
theorem Three.ofb {q g b : Nat} {w w' : World} (h : w.grownBy w' (some b)) : Three q g b w w' := fx_grown h (fun k e => .inr (.inr (by injection e with e; exact e.symm)))
theorem storedS {w : World} {q g b p k z : Nat} {s : ByteArray} {fin : Bool} {v1 v2 : Value} (h : SrcT w q g s (0, p)) (hh : BoxH w b fin k z v1 v2) (hq : q ≠ b) (hg : g ≠ b) (hs : s.size ≤ 4294967296) :
    Calls Tryz.prog 56 #[.pointer (some ⟨q, 0, none⟩), .pointer (some ⟨b, 0, none⟩)] w fun e w' => e = .returned (.tuple #[]) ∧ SrcT w' q g s (storedN (numS s) (8 * s.size) (0, p)).2 ∧ BoxH w' b fin k (storedN (numS s) (8 * s.size) (0, p)).1 v1 v2 ∧ Three q g b w w' := by
  have HT := Lib.hid h
  have HH := Lib.hid hh
  have c0 := h.src.c0
  have hqw := h.src.lt
  have hbw := hh.lt
  have hp8 : alignN p ≤ 8 * s.size := by have := h.le; unfold alignN; simp at this; omega
  have HP8 := Lib.hid hp8
  have HAL := Lib.hid (alignS h.box hs h.le)
  have HSB : Hid (∀ (W : World) (st : Nat × Nat), SrcT W q g s st → Calls Tryz.prog 55 #[.pointer (some ⟨q, 0, none⟩), .int .i64 16] W fun e w' => e = .returned (.int .i64 ((xb (numS s) (8 * s.size) 16 st).1 : Nat)) ∧ SrcT w' q g s (xb (numS s) (8 * s.size) 16 st).2 ∧ Two q g W w') := Lib.hid (fun W st h => srcBits h hs 16 (by omega))
  have hx1 := xb_lt (numS s) (8 * s.size) 16 (0, alignN p)
  have HXL := Lib.hid (fun st => xb_lt (numS s) (8 * s.size) 16 st)
  have HFA := Lib.hid (fun (W : World) (st : Nat × Nat) (h : SrcT W q g s st) => failS h 6 (by omega))
  rw [show ((6 : Nat) : Int) = 6 from rfl] at HFA
  clear h hh hp8
  unfold storedN
  dsimp only
  generalize numS s = N at *
  generalize hT : 8 * s.size = T at *
  obtain ⟨a, ha⟩ : ∃ a, a = xb N T 16 (0, alignN p) := ⟨_, rfl⟩
  rw [← ha] at hx1 ⊢
  have HSB1 := Lib.hid (fun W h => HSB.out W (0, alignN p) h)
  rw [← ha] at HSB1
  obtain ⟨d, hd⟩ : ∃ d, d = xb N T 16 a.2 := ⟨_, rfl⟩
  have hx2 := HXL.out a.2
  have HSB2 := Lib.hid (fun W h => HSB.out W a.2 h)
  rw [← hd] at hx2 HSB2 ⊢
  have HT8 := Lib.hid hT
  clear ha hd HXL hT HSB
  obtain ⟨n, st1⟩ := a
  obtain ⟨m, st2⟩ := d
  simp only at hx1 hx2
  have hxr := bits_turn n (by omega)
  by_cases hc : m + n = 65535
  · have hcc : ((m : Int) != ((65535 - n : Nat) : Int)) = false := by simp; omega
    have HX : Hid ((if m + n = 65535 then st2 else xf 6 st2) = st2) := Lib.hid (if_pos hc)
    rw [HX.out]
    clear hc HFA
    generalize 65535 - n = nt at *
    go_enter Tryz.func56, Tryz.ntmps56
    go_wp2_with (first | (go_at_call 77; (with_reducible refine HAL.out.mono ?_); rintro e w1 ⟨rfl, hb1, hb2⟩; (have HS1 : Hid (SrcT w1 q g s (0, alignN p)) := Lib.hid ⟨HT.out.src.keep hb2 (fun e => HT.out.ne (by injection e with e; exact e.symm)), hb1, HT.out.ne, (by have := HP8.out; have := HT8.out; simp only; omega), HT.out.err⟩; have HF1 : Hid (Three q g b w w1) := Lib.hid (Three.of2 (fx_grown hb2 (fun k e => .inr (by injection e with e; exact e.symm)))); have HH1 := Lib.hid (HH.out.stay hb2 (fun e => hg (by injection e))); have HC2 := Lib.hid (HSB1.out w1 HS1.out); clear hb1 hb2)) | (go_at_call 55; first | ((with_reducible refine HC2.out.mono ?_); rintro e w2 ⟨rfl, hb1, hb2⟩; (have HS2 := Lib.hid hb1; have HF2 := Lib.hid (HF1.out.trans (Three.of2 hb2)); have HH2 := Lib.hid (HH1.out.fx hb2 (fun e => e.elim (fun e => hq e.symm) (fun e => hg e.symm))); have HC3 := Lib.hid (HSB2.out w2 HS2.out); clear hb1 hb2 HC2)) | ((with_reducible refine HC3.out.mono ?_); rintro e w3 ⟨rfl, hb1, hb2⟩; (have HS3 := Lib.hid hb1; have HF3 := Lib.hid (HF2.out.trans (Three.of2 hb2)); have HH3 := Lib.hid (HH2.out.fx hb2 (fun e => e.elim (fun e => hq e.symm) (fun e => hg e.symm))); have hb3 := HH3.out.lt; have hf3 := HH3.out.free 2; have cc3 := HH3.out.c2; clear hb1 hb2 HC3))))
    have HST := Lib.hid (HH3.out.set2 n)
    go_end0
    refine ⟨rfl, ⟨HS3.out.src.keep HST.out.2 (fun e => hq (by injection e with e; exact e.symm)), HS3.out.box.stay HST.out.2 (fun e => hg (by injection e with e; exact e.symm)), HS3.out.ne, HS3.out.le, HS3.out.err⟩, HST.out.1, HF3.out.trans (Three.ofb HST.out.2)⟩
  · have hcc : ((m : Int) != ((65535 - n : Nat) : Int)) = true := by simp; omega
    have HX : Hid ((if m + n = 65535 then st2 else xf 6 st2) = xf 6 st2) := Lib.hid (if_neg hc)
    rw [HX.out]
    clear hc
    generalize 65535 - n = nt at *
    go_enter Tryz.func56, Tryz.ntmps56
    go_wp2_with (first | (go_at_call 77; (with_reducible refine HAL.out.mono ?_); rintro e w1 ⟨rfl, hb1, hb2⟩; (have HS1 : Hid (SrcT w1 q g s (0, alignN p)) := Lib.hid ⟨HT.out.src.keep hb2 (fun e => HT.out.ne (by injection e with e; exact e.symm)), hb1, HT.out.ne, (by have := HP8.out; have := HT8.out; simp only; omega), HT.out.err⟩; have HF1 : Hid (Three q g b w w1) := Lib.hid (Three.of2 (fx_grown hb2 (fun k e => .inr (by injection e with e; exact e.symm)))); have HH1 := Lib.hid (HH.out.stay hb2 (fun e => hg (by injection e))); have HC2 := Lib.hid (HSB1.out w1 HS1.out); clear hb1 hb2)) | (go_at_call 55; first | ((with_reducible refine HC2.out.mono ?_); rintro e w2 ⟨rfl, hb1, hb2⟩; (have HS2 := Lib.hid hb1; have HF2 := Lib.hid (HF1.out.trans (Three.of2 hb2)); have HH2 := Lib.hid (HH1.out.fx hb2 (fun e => e.elim (fun e => hq e.symm) (fun e => hg e.symm))); have HC3 := Lib.hid (HSB2.out w2 HS2.out); clear hb1 hb2 HC2)) | ((with_reducible refine HC3.out.mono ?_); rintro e w3 ⟨rfl, hb1, hb2⟩; (have HS3 := Lib.hid hb1; have HF3 := Lib.hid (HF2.out.trans (Three.of2 hb2)); have HH3 := Lib.hid (HH2.out.fx hb2 (fun e => e.elim (fun e => hq e.symm) (fun e => hg e.symm))); have HC4 := Lib.hid (HFA.out w3 st2 HS3.out); clear hb1 hb2 HC3))) | (go_at_call 60; (with_reducible refine HC4.out.mono ?_); rintro e w4 ⟨rfl, hb1, hb2⟩; (have HS4 := Lib.hid hb1; have HF4 := Lib.hid (HF3.out.trans (Three.of2 hb2)); have HH4 := Lib.hid (HH3.out.fx hb2 (fun e => e.elim (fun e => hq e.symm) (fun e => hg e.symm))); have hb3 := HH4.out.lt; have hf3 := HH4.out.free 2; have cc3 := HH4.out.c2; clear hb1 hb2)))
    have HST := Lib.hid (HH4.out.set2 n)
    go_end0
    refine ⟨rfl, ⟨HS4.out.src.keep HST.out.2 (fun e => hq (by injection e with e; exact e.symm)), HS4.out.box.stay HST.out.2 (fun e => hg (by injection e with e; exact e.symm)), HS4.out.ne, HS4.out.le, HS4.out.err⟩, HST.out.1, HF4.out.trans (Three.ofb HST.out.2)⟩
end Go.Cm

/- The fixed orders of a block's code lengths. Conditions: none. -/
namespace Go.Cm
open Go.RowKit Go.Proofs

set_option maxRecDepth 100000 in
theorem ordR (w : World) : Calls Tryz.prog 69 #[] w fun e w' => ∃ v, e = .returned v ∧ Own w' w.heap.size 3 v (ints (nls ordN)) ∧ Below w.heap.size w w' := by
  have HO := Lib.hid (own_lit w w.heap.size (ints (nls ordN)).toArray 3 (by decide) (Nat.le_refl _))
  go_enter Tryz.func69, Tryz.ntmps69
  go_wp2
  go_ret
  refine ⟨_, rfl, HO.out, below_alloc _ _⟩
theorem wpList_build_any {P : Program} {ops : Array Oper} {rest : List Oper} {o : Oper} {a : Act} {w : World} {Q : Exit → Act → World → Prop} (hgd : o.guard = none) (t : TypeId) (F : Array (Nat × Operand)) (ho : o.op = .build t F)
    (G : Array (Nat × Value)) (hG : (F.map fun (i, x) => (i, a.eval x)) = G) (C : Array Value) (hb : ∀ W, (Instr.build t G).run P W = .ok (.agg C) W)
    (h : wpList P ops Q rest (a.put o.dst (.agg C)) w) : wpList P ops Q (o :: rest) a w := by
  subst hG
  refine wpList_plain hgd fun K hK => ?_
  unfold Oper.wp execOp
  simp only [ho, Sem.run_bind, hb, Result.andThen_ok]
  exact hK _ _ h
def z19 : Array Value := (ints (List.replicate 19 0)).toArray
theorem zero_19 (W : World) : (zeroValue 129).run Tryz.prog W = .ok (.agg z19) W := by kernel_rfl
def ordG : Array (Nat × Value) := ((List.range 19).map fun i => (i, Value.int .i64 (ordN.getD i 0 : Nat))).toArray
theorem build_ord (W : World) : (Instr.build 129 ordG).run Tryz.prog W = .ok (.agg (ints (nls ordN)).toArray) W := by kernel_rfl
set_option maxRecDepth 100000 in
theorem ordP (w : World) : Calls Tryz.prog 79 #[] w fun e w' => e = .returned (.agg (ints (nls ordN)).toArray) ∧ Below w.heap.size w w' := by
  have hz := zero_19
  have hzl : z19.toList = ints (nls (List.replicate 19 0)) := rfl
  obtain ⟨Z, hZ⟩ : ∃ Z, Z = z19 := ⟨_, rfl⟩
  rw [← hZ] at hz hzl
  have hb := boxA_new w 129 Z (nls (List.replicate 19 0)) hzl (by decide)
  rw [show (nls (List.replicate 19 0)).length = 19 from rfl] at hb
  have hbd := build_ord
  have hl : ordN.length = 19 := rfl
  obtain ⟨O, hO⟩ : ∃ O, O = ordN := ⟨_, rfl⟩
  obtain ⟨R, hR⟩ : ∃ R, R = List.replicate 19 0 := ⟨_, rfl⟩
  rw [← hR] at hb
  rw [← hO] at hbd hl ⊢
  obtain ⟨C, hC⟩ : ∃ C, C = (ints (nls O)).toArray := ⟨_, rfl⟩
  rw [← hC] at hbd
  have HC := Lib.hid hC
  have HB := Lib.hid hb
  clear hZ hzl hO hR hC hb
  go_enter Tryz.func79, Tryz.ntmps79
  go_wp2_with (first | (refine wpList_build_any rfl 129 _ rfl ordG (by kernel_rfl) C hbd ?_) | (refine store_box rfl 129 19 _ _ rfl w.heap.size rfl (nls R) (nls O) (congrArg Value.agg HC.out) (by rw [nls_length]; exact hl) (by kernel_rfl) HB.out ?_; intro w2 hB2 hg2; have HB4 := Lib.hid hB2; have HG2 := Lib.hid hg2; clear hB2 hg2))
  refine ret_one_cell (s := 0) (ad := ⟨w.heap.size, 0, none⟩) (x := .agg (ints (nls O)).toArray) rfl rfl rfl (HB4.out.load _ Tryz.underlying129 rfl (by kernel_rfl)) ?_
  exact ⟨rfl, (below_alloc w _).grown HG2.out (by simp) (fun k hk => by cases hk; exact Nat.le_refl _)⟩
end Go.Cm

/- A region that draws its order, in phases: operations that only look, then operations that must come one behind the other, and so on. Conditions: none. -/
namespace Go.Cm
open Go.RowKit

section
variable {P : Program} {ops : Array Oper} {md : Region.Mode} {C : World → Prop}

def runA (md : Region.Mode) (ops : Array Oper) (k : Array Bool → Bool) : List Nat → Array Bool → Bool
  | [], listed => k listed
  | i :: r, listed => Region.ready md ops listed == [i] && runA md ops k r (listed.setIfInBounds i true)
def runQ (md : Region.Mode) (ops : Array Oper) (k : Array Bool → Bool) : List Nat → Array Bool → Bool
  | [], listed => k listed
  | i :: r, listed => (Region.ready md ops listed).contains i && Region.free md ops listed i && ((ops[i]?).map (fun o => noCall o.op)).getD false && runQ md ops k r (listed.setIfInBounds i true)
def runP (md : Region.Mode) (ops : Array Oper) : List (List Nat × List Nat) → Array Bool → Bool
  | [], listed => Region.ready md ops listed == []
  | ph :: r, listed => runQ md ops (runA md ops (runP md ops r) ph.2) ph.1 listed
def phLen : List (List Nat × List Nat) → Nat
  | [] => 0
  | ph :: r => ph.1.length + (ph.2.length + phLen r)
def phaseB (md : Region.Mode) (ops : Array Oper) (l : List (List Nat × List Nat)) : Bool :=
  Region.noSelect ops && (phLen l == ops.size) && runP md ops l (Array.replicate ops.size false)
def wpPhases (P : Program) (ops : Array Oper) (C : World → Prop) (Q : Act → World → Prop) : List (List Nat × List Nat) → Act → World → Prop
  | [], a, w => Q a w
  | ph :: r, a, w => wpQuiet P ops C (fun a' => wpAct P ops C (wpPhases P ops C Q r) (pick ops.toList ph.2) a' w) (pick ops.toList ph.1) a
theorem wpAnyM_runA {Q K : Act → World → Prop} {k : Array Bool → Bool} {n : Nat} (hk : ∀ listed a w, k listed = true → C w → K a w → wpAnyM P md ops C Q n listed a w) :
    ∀ (o2 : List Nat) (listed : Array Bool) (a : Act) (w : World), runA md ops k o2 listed = true → C w →
    wpAct P ops C K (pick ops.toList o2) a w → wpAnyM P md ops C Q (o2.length + n) listed a w
  | [], listed, a, w, hB, hC, h => by rw [List.length_nil, Nat.zero_add]; exact hk listed a w hB hC h
  | i :: r, listed, a, w, hB, hC, h => by
    simp only [runA, Bool.and_eq_true, beq_iff_eq] at hB
    obtain ⟨hr, hB'⟩ := hB
    have him : i ∈ Region.ready md ops listed := by rw [hr]; simp
    obtain ⟨_, o, ho, _⟩ := mem_ready.1 him
    have hol : ops.toList.getD i default = o := by rw [List.getD_eq_getElem?_getD, Array.getElem?_toList, ho]; rfl
    rw [List.length_cons, Nat.add_right_comm]
    refine ⟨hC, fun h0 => (by rw [hr] at h0; cases h0), fun j hj => ?_⟩
    obtain rfl : j = i := by rw [hr] at hj; simpa using hj
    simp only [pick, List.map_cons, hol] at h
    have h' : wpList P ops (actQ C (wpAct P ops C K (pick ops.toList r))) [o] a w := h
    unfold wpList at h'
    unfold wpOp
    simp only [ho]
    split
    · rename_i hw
      rw [if_pos hw] at h'
      rcases h' with h' | ⟨-, h'⟩
      · refine .inl (Oper.wp_mono ?_ (wp_exits (fun _ _ _ h => h) actQ_out h'))
        intro a' w' hh
        obtain ⟨hC', hk'⟩ := (hh : actQ C (wpAct P ops C K (pick ops.toList r)) .normal a' w')
        exact wpAnyM_runA hk r _ a' w' hB' hC' hk'
      · exact (actQ_out h').elim
    · rename_i hw
      rw [if_neg hw] at h'
      obtain ⟨hC', hk'⟩ := (h' : actQ C (wpAct P ops C K (pick ops.toList r)) .normal (a.put o.dst undef) w)
      exact wpAnyM_runA hk r _ _ _ hB' hC' hk'
theorem wpAnyM_runQ {Q : Act → World → Prop} {K : Act → Prop} {k : Array Bool → Bool} {n : Nat} {w : World} (hs : Region.noSelect ops = true) (hk : ∀ listed a, k listed = true → K a → wpAnyM P md ops C Q n listed a w) :
    ∀ (o1 : List Nat) (listed : Array Bool) (a : Act), runQ md ops k o1 listed = true →
    wpQuiet P ops C K (pick ops.toList o1) a → wpAnyM P md ops C Q (o1.length + n) listed a w
  | [], listed, a, hB, h => by rw [List.length_nil, Nat.zero_add]; exact hk listed a hB h
  | i :: r, listed, a, hB, h => by
    simp only [runQ, Bool.and_eq_true] at hB
    obtain ⟨⟨⟨hr, hf⟩, hn⟩, hB'⟩ := hB
    have him : i ∈ Region.ready md ops listed := by simpa using hr
    obtain ⟨_, o, ho, _⟩ := mem_ready.1 him
    have hol : ops.toList.getD i default = o := by rw [List.getD_eq_getElem?_getD, Array.getElem?_toList, ho]; rfl
    simp only [pick, List.map_cons, hol] at h
    have hn' : noCall o.op = true := by simpa [ho] using hn
    obtain ⟨v, hy, hK⟩ := yin_of_qOp (K := wpQuiet P ops C K (pick ops.toList r)) hn' h
    rw [List.length_cons, Nat.add_right_comm]
    exact wpAnyM_first ho (Region.noSelect_spec hs) _ listed a w (Region.free_spec ho hf) him hy (wpAnyM_runQ hs hk r _ _ hB' hK)
theorem wpAnyM_runP {Q : Act → World → Prop} (hs : Region.noSelect ops = true) : ∀ (l : List (List Nat × List Nat)) (listed : Array Bool) (a : Act) (w : World), runP md ops l listed = true → C w →
    wpPhases P ops C Q l a w → wpAnyM P md ops C Q (phLen l) listed a w
  | [], listed, a, w, hB, hC, h => ⟨hC, by simpa [runP] using hB, h⟩
  | ph :: r, listed, a, w, hB, hC, h =>
    wpAnyM_runQ hs (fun listed' a' hB' hK => wpAnyM_runA (K := wpPhases P ops C Q r) (fun l'' a'' w'' hB'' hC'' hK'' => wpAnyM_runP hs r l'' a'' w'' hB'' hC'' hK'') ph.2 listed' a' w hB' hC hK) ph.1 listed a hB h
/-- THE REGION in phases, where memory grows alone -/
theorem wp_region_phases {id : Nat} {Q : Exit → Act → World → Prop} {a : Act} {w : World} {l : List Oper} (C : World → Prop) (ps : List (List Nat × List Nat)) (hm : P.follows .mixedOrders = true) (hB : phaseB .any l.toArray ps = true) (hC : C w.drew)
    (h : wpPhases P l.toArray C (fun a'' w'' => C w'' → Q .normal a'' w'') ps a w.drew) : (Code.region id l.toArray true).wp P Q a w := by
  simp only [phaseB, Bool.and_eq_true, beq_iff_eq] at hB
  obtain ⟨⟨hs, hlen⟩, hB⟩ := hB
  refine wp_region_any hm ?_
  have h1 := wpAnyM_runP (Q := fun a'' w'' => C w'' → Q .normal a'' w'') (md := .any) hs ps (Array.replicate l.toArray.size false) a w.drew hB hC h
  rw [hlen] at h1
  exact wpAny_of_M (fun a w hC hq => hq hC) _ _ _ _ h1
end
end Go.Cm
