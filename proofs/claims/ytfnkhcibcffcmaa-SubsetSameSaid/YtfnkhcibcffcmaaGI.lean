/- Texts of this claim, joined: walks of small functions and plain facts about them. Conditions: as each says. -/
import Derived.Test.YtfnkhcibcffcmaaGH
import Derived.Test.YtfnkhcibcffcmaaGB
import Derived.Test.YtfnkhcibcffcmaaGC
/- The document's parser of expressions: the row that is read; the walks of 'is' and 'take'. Conditions: none. -/
namespace Go.Cm
open Go.RowKit Go.Proofs

/-- the row in block p: its text, and the place -/
structure RowB (w : World) (p : Nat) (s : ByteArray) (at_ : Nat) : Prop where
  own : Own w p 88 (.slice (some ⟨p, 0, none⟩) 4 4) [.string s, .int .i64 at_, .int .i64 0, .int .i64 0]
section
variable {w w' : World} {p : Nat} {s : ByteArray} {at_ : Nat}
theorem RowB.c0 (h : RowB w p s at_) : w.cell? ⟨p, 0, none⟩ = some (.string s) := h.own.cell (by simp)
theorem RowB.c1 (h : RowB w p s at_) : w.cell? ⟨p, 1, none⟩ = some (.int .i64 at_) := h.own.cell (by simp)
theorem RowB.c2 (h : RowB w p s at_) : w.cell? ⟨p, 2, none⟩ = some (.int .i64 0) := h.own.cell (by simp)
theorem RowB.free (h : RowB w p s at_) (c : Nat) : w.frozen? ⟨p, c, none⟩ = false := h.own.free c
theorem RowB.lt (h : RowB w p s at_) : p < w.heap.size := h.own.blk.2
theorem RowB.up (h : RowB w p s at_) (hb : Below w.heap.size w w') : RowB w' p s at_ := ⟨h.own.up hb⟩
theorem RowB.set (h : RowB w p s at_) (k : Nat) : RowB (w.setCell ⟨p, 1, none⟩ (.int .i64 k)) p s k ∧ w.grownBy (w.setCell ⟨p, 1, none⟩ (.int .i64 k)) (some p) := ⟨⟨(h.own.store 1 _).1⟩, (h.own.store 1 _).2⟩
end
/-- the byte at a place, as the machine reads it -/
def ByteAt (s : ByteArray) (at_ : Nat) (x : Int) : Prop := at_ < s.size ∧ ∀ W : World, (Instr.index 9 (.string s) (.int .i64 at_)).run Try.prog W = .ok (.int .u8 x) W

set_option maxRecDepth 100000 in
theorem isIn {w : World} {p : Nat} {s : ByteArray} {at_ : Nat} {x : Int} (h : RowB w p s at_) (_hs : s.size ≤ 1000) (hx : ByteAt s at_ x) (c : Int) :
    Calls Try.prog 76 #[.pointer (some ⟨p, 0, none⟩), .int .u8 c] w fun e w' => e = .returned (.bool (x == c)) ∧ ∃ x, w' = ext w x := by
  have c0 := h.c0
  have c1 := h.c1
  have c2 := h.c2
  have hl := h.lt
  obtain ⟨hlt, hix⟩ := hx
  have hlt2 : decide ((at_ : Int) < s.size) = true := by simpa using hlt
  obtain ⟨r, hr⟩ : ∃ r, r = (x == c) := ⟨_, rfl⟩
  have HR := Lib.hid hr
  rw [← hr]
  clear h hr
  go_enter Try.func76, Try.ntmps76
  go_wp2
  go_quiet (fail)
  go_wp2
  go_ret
  exact ⟨by rw [HR.out]; rfl, drewN_ext _ _⟩
set_option maxRecDepth 100000 in
theorem isEnd {w : World} {p : Nat} {s : ByteArray} {at_ : Nat} (h : RowB w p s at_) (_hs : s.size ≤ 1000) (hx : s.size ≤ at_) (_hat : at_ ≤ 1000) (c : Int) :
    Calls Try.prog 76 #[.pointer (some ⟨p, 0, none⟩), .int .u8 c] w fun e w' => e = .returned (.bool false) ∧ ∃ x, w' = ext w x := by
  have c0 := h.c0
  have c1 := h.c1
  have c2 := h.c2
  have hl := h.lt
  have hlt2 : decide (at_ < s.size) = false := by simp; omega
  have hlt3 : ¬ ((at_ : Int) < s.size) := by omega
  clear h
  go_enter Try.func76, Try.ntmps76
  go_wp2
  go_quiet (fail)
  go_wp2
  go_ret
  exact ⟨rfl, drewN_ext _ _⟩
/-- what comes next -/
def Nxt (s : ByteArray) (at_ : Nat) (o : Option Int) : Prop := s.size ≤ 1000 ∧ at_ ≤ 1000 ∧ match o with
  | some x => ByteAt s at_ x
  | none => s.size ≤ at_
theorem isR {w : World} {p : Nat} {s : ByteArray} {at_ : Nat} {o : Option Int} (h : RowB w p s at_) (ho : Nxt s at_ o) (c : Int) :
    Calls Try.prog 76 #[.pointer (some ⟨p, 0, none⟩), .int .u8 c] w fun e w' => e = .returned (.bool (decide (o = some c))) ∧ ∃ x, w' = ext w x := by
  obtain ⟨h1, h2, h3⟩ := ho
  cases o with
  | none =>
    have := isEnd h h1 h3 h2 c
    simpa using this
  | some x =>
    have := isIn h h1 h3 c
    have e : decide (some x = some c) = (x == c) := by rw [Bool.eq_iff_iff]; simp
    rw [e]; exact this
set_option maxRecDepth 100000 in
theorem takeR {w : World} {p : Nat} {s : ByteArray} {at_ : Nat} {o : Option Int} (h : RowB w p s at_) (ho : Nxt s at_ o) (c : Int) :
    Calls Try.prog 63 #[.pointer (some ⟨p, 0, none⟩), .int .u8 c] w fun e w' => e = .returned (.bool (decide (o = some c))) ∧ RowB w' p s (if o = some c then at_ + 1 else at_) ∧ w.grownBy w' (some p) := by
  have HIS := Lib.hid (isR h ho c)
  have HRB := Lib.hid h
  have hat := ho.2.1
  by_cases hc : o = some c
  · rw [decide_eq_true hc] at HIS
    rw [if_pos hc, decide_eq_true hc]
    clear h ho hc
    go_enter Try.func63, Try.ntmps63
    go_wp2_with ((with_reducible go_at_call 76); refine HIS.out.mono ?_; rintro en w1 ⟨rfl, x1, rfl⟩; have HB1 := Lib.hid (HRB.out.up (ext_below w x1)); have c1 := HB1.out.c1; have f1 := HB1.out.free 1; have hl := HB1.out.lt)
    go_ret
    have hst := HB1.out.set (at_ + 1)
    have e : ((at_ + 1 : Nat) : Int) = (at_ : Int) + 1 := by push_cast; rfl
    rw [e] at hst
    exact ⟨rfl, hst.1, grown_trans (grown_below (ext_below w x1) _) hst.2⟩
  · rw [decide_eq_false hc] at HIS
    rw [if_neg hc, decide_eq_false hc]
    clear h ho hc
    go_enter Try.func63, Try.ntmps63
    go_wp2_with ((with_reducible go_at_call 76); refine HIS.out.mono ?_; rintro en w1 ⟨rfl, x1, rfl⟩; have HB1 := Lib.hid (HRB.out.up (ext_below w x1)))
    go_ret
    exact ⟨rfl, HB1.out, grown_below (ext_below w x1) _⟩
end Go.Cm

/- The document's sets of one byte, and the node of a set. Conditions: none. -/
namespace Go.Cm
open Go.RowKit Go.Proofs

set_option maxRecDepth 100000 in
theorem withA {w : World} : Calls Try.prog 94 #[.agg (setA 0 0 0 0), .int .u8 97] w fun e w' => e = .returned (.agg (setA 0 8589934592 0 0)) ∧ ∃ x, w' = ext w x := by
  have hb : bits .or .u64 0 8589934592 = 8589934592 := by kernel_rfl
  unfold setA
  go_enter Try.func94, Try.ntmps94
  go_wp2
  refine ret_cell (s := 4) (t := 55) (ad := ⟨w.heap.size + 1, 0, none⟩) rfl rfl rfl (run_loadVar_cells _ (w.heap.size + 1) 0 4 55 #[.int .u64 0, .int .u64 8589934592, .int .u64 0, .int .u64 0] _ (fun c hc => ?_) rfl Try.underlying55 rfl (by kernel_rfl)) ⟨rfl, ex_ext ((below_alloc w _).trans ((below_alloc _ _).mono (by simp)))⟩
  have h : (w.alloc (.cells #[.int .u64 0, .int .u64 8589934592, .int .u64 0, .int .u64 0] 55)).heap.size = w.heap.size + 1 := by simp
  rw [← h, World.cell?_alloc_new]
  rcases c with _ | _ | _ | _ | c <;> first | rfl | omega
set_option maxRecDepth 100000 in
theorem withB {w : World} : Calls Try.prog 94 #[.agg (setA 0 0 0 0), .int .u8 98] w fun e w' => e = .returned (.agg (setA 0 17179869184 0 0)) ∧ ∃ x, w' = ext w x := by
  have hb : bits .or .u64 0 17179869184 = 17179869184 := by kernel_rfl
  unfold setA
  go_enter Try.func94, Try.ntmps94
  go_wp2
  refine ret_cell (s := 4) (t := 55) (ad := ⟨w.heap.size + 1, 0, none⟩) rfl rfl rfl (run_loadVar_cells _ (w.heap.size + 1) 0 4 55 #[.int .u64 0, .int .u64 17179869184, .int .u64 0, .int .u64 0] _ (fun c hc => ?_) rfl Try.underlying55 rfl (by kernel_rfl)) ⟨rfl, ex_ext ((below_alloc w _).trans ((below_alloc _ _).mono (by simp)))⟩
  have h : (w.alloc (.cells #[.int .u64 0, .int .u64 17179869184, .int .u64 0, .int .u64 0] 55)).heap.size = w.heap.size + 1 := by simp
  rw [← h, World.cell?_alloc_new]
  rcases c with _ | _ | _ | _ | c <;> first | rfl | omega

theorem setA_one (a b c d : Int) : ∀ u ∈ (setA a b c d).toList, u.oneCell' = true := by
  intro u hu
  simp [setA] at hu
  rcases hu with rfl | rfl | rfl | rfl <;> rfl
/-- a byte whose set is that one -/
def One (c x : Int) : Prop := ∀ w : World, Calls Try.prog 94 #[.agg (setA 0 0 0 0), .int .u8 c] w fun e w' => e = .returned (.agg (setA 0 x 0 0)) ∧ ∃ x, w' = ext w x
set_option maxRecDepth 100000 in
theorem ofR {w : World} {s : ByteArray} {c x : Int} (ho : One c x) (h1 : s.size = 1) (hx : ByteAt s 0 c) :
    Calls Try.prog 86 #[.string s] w fun e w' => e = .returned (.agg (setA 0 x 0 0)) ∧ ∃ x, w' = ext w x := by
  have HO := Lib.hid ho
  have hix := hx.2
  have e0 : ((0 : Nat) : Int) = 0 := rfl
  rw [e0] at hix
  clear ho hx e0
  have hA := below_alloc w (.cells #[.int .u64 0, .int .u64 0, .int .u64 0, .int .u64 0] 55)
  have hA2 := below_alloc (w.alloc (.cells #[.int .u64 0, .int .u64 0, .int .u64 0, .int .u64 0] 55)) (.cells #[.int .u64 0, .int .u64 0, .int .u64 0, .int .u64 0] 55)
  have hsz1 : (w.alloc (.cells #[.int .u64 0, .int .u64 0, .int .u64 0, .int .u64 0] 55)).heap.size = w.heap.size + 1 := by simp
  have HB0 := Lib.hid (hA.trans (hA2.mono (by simp)))
  have HR0 := Lib.hid ((own_lit w w.heap.size #[.int .u64 0, .int .u64 0, .int .u64 0, .int .u64 0] 55 (by simp) (Nat.le_refl _)).up hA2)
  have HC0 := own_lit (w.alloc (.cells #[.int .u64 0, .int .u64 0, .int .u64 0, .int .u64 0] 55)) w.heap.size #[.int .u64 0, .int .u64 0, .int .u64 0, .int .u64 0] 55 (by simp) (by simp)
  rw [hsz1] at HC0
  have HCX := Lib.hid HC0
  clear hA hA2 hsz1 HC0
  go_enter Try.func86, Try.ntmps86
  go_wp2
  generalize (w.alloc (.cells #[.int .u64 0, .int .u64 0, .int .u64 0, .int .u64 0] 55)).alloc (.cells #[.int .u64 0, .int .u64 0, .int .u64 0, .int .u64 0] 55) = w1 at *
  go_loopg [4] 1 (fun gk iv wr => ∃ i : Nat, iv = .int .i64 i ∧ i ≤ 1 ∧ Own wr w.heap.size 55 (.slice (some ⟨w.heap.size + 1, 0, none⟩) 4 4) [.int .u64 0, .int .u64 (if i = 0 then 0 else x), .int .u64 0, .int .u64 0] ∧ Own wr w.heap.size 55 (.slice (some ⟨w.heap.size, 0, none⟩) 4 4) [.int .u64 0, .int .u64 0, .int .u64 0, .int .u64 0] ∧ Below w.heap.size w wr ∧ gk = 1 - i)
  case atStart => exact ⟨0, rfl, Nat.zero_le _, HCX.out, HR0.out, HB0.out, rfl⟩
  case round =>
    obtain ⟨i, rfl, hi, hown, hres, hbel, rfl⟩ := hrel
    have HW := Lib.hid hbel
    have HRE := Lib.hid hres
    rcases (show i = 0 ∨ i = 1 by omega) with rfl | rfl
    · have HOW := Lib.hid hown
      simp only [if_true] at HOW
      have k0 := HOW.out.cell (i := 0) (by simp)
      have k1 := HOW.out.cell (i := 1) (by simp)
      have k2 := HOW.out.cell (i := 2) (by simp)
      have k3 := HOW.out.cell (i := 3) (by simp)
      have kl := HOW.out.blk.2
      simp at k0 k1 k2 k3 kl
      clear hown hbel hi hres
      go_wp2
      refine wp_region_tailg [0,1,2,3] [4] [5] (by kernel_rfl) (by kernel_rfl) ?_
      simp only [pick, List.map_cons, List.map_nil, List.getD_cons_zero, List.getD_cons_succ]
      repeat (go_big_quiet_step (fail))
      refine wpQuiet_nil ?_
      unfold wpAct
      go_wp2_with ((with_reducible go_at_call 94); refine (HO.out _).mono ?_; rintro en w2 ⟨rfl, x2, rfl⟩; have HB2 := Lib.hid (((b_drew1 (Below.refl wr.heap.size wr)).trans ((ext_below _ x2).mono (by simp)))))
      refine ⟨ex_ext HB2.out, ?_⟩
      unfold wpAct
      have HO2 := Lib.hid (HOW.out.up HB2.out)
      generalize ext wr.drew x2 = w2 at *
      have hl2 := HB2.out.size
      have HRE2 := Lib.hid (HRE.out.up HB2.out)
      have HW2 := Lib.hid (HW.out.trans (HB2.out.mono (by have := HW.out.size; omega)))
      clear k0 k1 k2 k3
      unfold wpAct
      go_wp2_with (refine wpList_store_agg rfl 55 _ _ rfl w.heap.size 55 (w.heap.size + 1) 4 4 rfl (setA 0 x 0 0) rfl (by kernel_rfl) _ HO2.out (by simp [setA]) (setA_one 0 x 0 0) ?_; intro w3 hown3 hg3; have HO3 := Lib.hid hown3; have HG3 := Lib.hid hg3; clear hown3 hg3)
      refine ⟨trivial, ?_⟩
      unfold wpAct
      go_wp2
      go_roundg (1 - 1)
      case measure => omega
      case rel =>
        refine ⟨1, by go_num, Nat.le_refl _, by simpa [setA] using HO3.out, ?_, ?_, rfl⟩
        · exact HRE2.out.keep HG3.out (.inr (by simp [Value.ownBlock]))
        · exact below_grown HW2.out (by omega) HO2.out HG3.out
    · have e1 : (if (1 : Nat) = 0 then (0 : Int) else x) = x := rfl
      rw [e1] at hown
      have HOW := Lib.hid hown
      have k0 := HOW.out.cell (i := 0) (by simp)
      have k1 := HOW.out.cell (i := 1) (by simp)
      have k2 := HOW.out.cell (i := 2) (by simp)
      have k3 := HOW.out.cell (i := 3) (by simp)
      have kl := HOW.out.blk.2
      simp at k0 k1 k2 k3 kl
      clear hown hbel hi hres e1
      go_wp2_with (refine wpList_store_agg rfl 55 _ _ rfl w.heap.size 55 w.heap.size 4 4 rfl (setA 0 x 0 0) rfl (by kernel_rfl) _ HRE.out (by simp [setA]) (setA_one 0 x 0 0) ?_; intro w3 hown3 hg3; have HO3 := Lib.hid hown3; have HG3 := Lib.hid hg3; clear hown3 hg3)
      refine ret_cell (s := 2) (t := 55) (ad := ⟨w.heap.size, 0, none⟩) rfl rfl rfl (run_loadVar_cells _ w.heap.size 0 4 55 (setA 0 x 0 0) _ (fun c hc => ?_) rfl Try.underlying55 rfl (by kernel_rfl)) ⟨rfl, ex_ext (below_grown HW.out HW.out.size HRE.out HG3.out)⟩
      rw [Nat.zero_add, HO3.out.cell (by simpa [setA] using hc)]
      rcases c with _ | _ | _ | _ | c <;> first | rfl | omega
end Go.Cm

/- The document's nodes: that of a set, and a node with its kids. Conditions: none. -/
namespace Go.Cm
open Go.RowKit Go.Proofs

/-- nodes that lie in a block of their own, from block B on -/
def NodesO (w : World) (B : Nat) (u : Value) (l : List Nd) : Prop := OwnK 8 w B 100 u (l.map ndC)
theorem NodesO.at {w : World} {B : Nat} {u : Value} {l : List Nd} (h : NodesO w B u l) : NodesAt w u l := OwnK.sl h
theorem NodesO.up {w w' : World} {B : Nat} {u : Value} {l : List Nd} (h : NodesO w B u l) (hb : Below w.heap.size w w') : NodesO w' B u l := OwnK.up h hb
theorem NodesO.mono {w : World} {B B' : Nat} {u : Value} {l : List Nd} (h : NodesO w B u l) (hb : B' ≤ B) : NodesO w B' u l := OwnK.mono h hb
theorem NodesO.keep {w w' : World} {B p : Nat} {u : Value} {l : List Nd} (h : NodesO w B u l) (hg : w.grownBy w' (some p)) (hp : p < B) : NodesO w' B u l :=
  OwnK.keep h hg (by
    cases hq : u.ownBlock with
    | none => exact .inl rfl
    | some b =>
      have := (OwnK.lt h b hq).1
      refine .inr (fun e => ?_)
      have := Option.some.inj e
      omega)
/-- the node of a set -/
def setNd (x : Int) : Nd := ⟨1, 0, 0, x, 0, 0, 0, 0⟩
theorem ndC_length (x : Nd) : (ndC x).length = 8 := rfl
theorem ndC_one (x : Nd) : ∀ u ∈ ndC x, u.oneCell' = true := by
  intro u hu
  simp [ndC] at hu
  rcases hu with rfl | rfl | rfl | rfl | rfl | rfl | rfl | rfl <;> rfl
theorem ndCs_len (l : List Nd) : ∀ x ∈ l.map ndC, x.length = 8 := by
  intro x hx
  obtain ⟨y, -, rfl⟩ := List.mem_map.1 hx
  rfl
theorem ndCs_one (l : List Nd) : ∀ u ∈ (l.map ndC).flatten, u.oneCell' = true := by
  intro u hu
  obtain ⟨z, hz, hu⟩ := List.mem_flatten.1 hu
  obtain ⟨y, -, rfl⟩ := List.mem_map.1 hz
  exact ndC_one y u hu
set_option maxRecDepth 100000 in
theorem oneR {w : World} (x : Int) : Calls Try.prog 83 #[.agg (setA 0 x 0 0)] w fun e w' => ∃ u, e = .returned u ∧ NodesO w' w.heap.size u [setNd x] ∧ Below w.heap.size w w' := by
  have hA := below_alloc w (.cells #[.int .u64 0, .int .u64 x, .int .u64 0, .int .u64 0] 55)
  unfold setA
  go_enter Try.func83, Try.ntmps83
  go_wp2
  go_ret
  refine ⟨_, rfl, ?_, hA.trans ((below_alloc _ _).mono (by simp))⟩
  have h := ownK_lit 8 (w.alloc (.cells #[.int .u64 0, .int .u64 x, .int .u64 0, .int .u64 0] 55)) w.heap.size #[.int .i64 1, .int .i64 0, .int .u64 0, .int .u64 x, .int .u64 0, .int .u64 0, .int .i64 0, .int .i64 0] 100 [ndC (setNd x)] (by simp [ndC, setNd]) (by simp [ndC]) (by simp) (by simp)
  have e : (w.alloc (.cells #[.int .u64 0, .int .u64 x, .int .u64 0, .int .u64 0] 55)).heap.size = w.heap.size + 1 := by simp
  rw [e] at h
  simpa [NodesO] using h
set_option maxRecDepth 100000 in
theorem joinR {w : World} {v : Value} {ll : List (List Nd)} (h : TreesAt w v ll) (kd : Int) (hn : ll.length ≤ 1000) (hf : ll.flatten.length ≤ 100000) :
    Calls Try.prog 78 #[.agg #[.int .i64 kd, .int .i64 0, .int .u64 0, .int .u64 0, .int .u64 0, .int .u64 0, .int .i64 0, .int .i64 0], v] w fun e w' => ∃ u, e = .returned u ∧ NodesO w' w.heap.size u (⟨kd, ll.length, 0, 0, 0, 0, 0, 0⟩ :: ll.flatten) ∧ Below w.heap.size w w' := by
  obtain ⟨oa, cap, b, off, rfl, hd, hc⟩ := h.open
  have hix := index_tree hd
  have hm := hd.len
  have HB := Lib.hid hd.hblk
  have HC := Lib.hid hc
  obtain ⟨n, hn0⟩ : ∃ n, n = ll.length := ⟨_, rfl⟩
  have HN := Lib.hid hn0
  rw [← hn0] at hix HB HC hm hn ⊢
  have hA := below_alloc w (.cells #[.int .i64 kd, .int .i64 n, .int .u64 0, .int .u64 0, .int .u64 0, .int .u64 0, .int .i64 0, .int .i64 0] 100)
  have hsz : (w.alloc (.cells #[.int .i64 kd, .int .i64 n, .int .u64 0, .int .u64 0, .int .u64 0, .int .u64 0, .int .i64 0, .int .i64 0] 100)).heap.size = w.heap.size + 1 := by simp
  have hB2 := below_alloc (w.alloc (.cells #[.int .i64 kd, .int .i64 n, .int .u64 0, .int .u64 0, .int .u64 0, .int .u64 0, .int .i64 0, .int .i64 0] 100)) (.cells #[.int .i64 kd, .int .i64 n, .int .u64 0, .int .u64 0, .int .u64 0, .int .u64 0, .int .i64 0, .int .i64 0] 100)
  have HB0 := Lib.hid (hA.trans (hB2.mono (by simp)))
  have ho := ownK_lit 8 (w.alloc (.cells #[.int .i64 kd, .int .i64 n, .int .u64 0, .int .u64 0, .int .u64 0, .int .u64 0, .int .i64 0, .int .i64 0] 100)) w.heap.size #[.int .i64 kd, .int .i64 n, .int .u64 0, .int .u64 0, .int .u64 0, .int .u64 0, .int .i64 0, .int .i64 0] 100 [ndC ⟨kd, n, 0, 0, 0, 0, 0, 0⟩] (by simp [ndC]) (by simp [ndC]) (by simp) (by simp)
  rw [hsz] at ho
  have HO0 := Lib.hid ho
  have HF := Lib.hid hf
  clear h hd hc hn0 hA hB2 ho hf hsz
  go_enter Try.func78, Try.ntmps78
  go_wp2
  generalize (w.alloc (.cells #[.int .i64 kd, .int .i64 n, .int .u64 0, .int .u64 0, .int .u64 0, .int .u64 0, .int .i64 0, .int .i64 0] 100)).alloc (.cells #[.int .i64 kd, .int .i64 n, .int .u64 0, .int .u64 0, .int .u64 0, .int .u64 0, .int .i64 0, .int .i64 0] 100) = w1 at *
  go_loopg [5, 6] n (fun gk ov iv wr => ∃ i : Nat, iv = .int .i64 i ∧ i ≤ n ∧ OwnK 8 wr w.heap.size 100 ov ((⟨kd, n, 0, 0, 0, 0, 0, 0⟩ :: (ll.take i).flatten : List Nd).map ndC) ∧ Below w.heap.size w wr ∧ gk = n - i)
  case atStart => exact ⟨0, rfl, Nat.zero_le _, by simpa using HO0.out, HB0.out, rfl⟩
  case round =>
    obtain ⟨i, rfl, hi, hown, hbel, rfl⟩ := hrel
    have HO := Lib.hid hown
    have HW := Lib.hid hbel
    have hsz := hbel.size
    clear hown hbel
    by_cases hlt : i < n
    · obtain ⟨u, hcu, hnu⟩ := HC.out i hlt
      have hb := HB.out (by omega)
      have hcell := (HW.out.cell (p := ⟨b, off + i, none⟩) hb).trans hcu
      have hbw : b < wr.heap.size := by omega
      have hix2 := fun W kd => hix W kd i (by omega) (by omega)
      simp only [Int.toNat_natCast] at hix2
      have HNU := Lib.hid ((hnu.up (HW.out)))
      have HT : Hid ((ll.take (i + 1)).flatten = (ll.take i).flatten ++ ll.getD i []) := Lib.hid (by
        have := HN.out
        rw [List.take_succ_eq_append_getElem (by omega), List.flatten_append]
        simp [List.getD, show i < ll.length by omega])
      have HL : Hid (((ll.take i).flatten ++ ll.getD i []).length ≤ 100000) := Lib.hid (by
        rw [← HT.out]
        have h2 := HF.out
        have h3 : (ll.take (i + 1)).flatten.length ≤ ll.flatten.length := by
          conv => rhs; rw [← List.take_append_drop (i + 1) ll, List.flatten_append, List.length_append]
          omega
        omega)
      have hul : u.oneCell' = true := by obtain ⟨oa, cap, b, off, rfl, -⟩ := HNU.out; rfl
      clear hcu hnu
      generalize ll.getD i [] = t at *
      generalize (ll.take i).flatten = fl at *
      go_wp2_with (at_builtin; refine wpList_appK 8 rfl (.tmp 18) (.tmp 22) 48 rfl w.heap.size 100 (.agg #[.int .i64 0, .int .i64 0, .int .u64 0, .int .u64 0, .int .u64 0, .int .u64 0, .int .i64 0, .int .i64 0]) 64 Try.underlying48 (by kernel_rfl) rfl (by decide) (by decide) u5 _ rfl HO.out u (t.map ndC) rfl HNU.out (ndCs_len _) (ndCs_one _) (by have := HL.out; simp at this ⊢; omega) (by omega) ?_; intro v' w5 hown1 hg1 hk1; have HO1 := Lib.hid hown1; have HG1 := Lib.hid hg1; clear hown1 hg1 hk1)
      go_roundg (n - (i + 1))
      case measure => omega
      case rel =>
        refine ⟨i + 1, by go_num, by omega, ?_, HW.out.grown HG1.out hsz (fun k hk => (HO.out.lt k hk).1), rfl⟩
        rw [HT.out]
        simpa using HO1.out
    · have hie : i = n := by omega
      subst hie
      go_wp2
      go_ret
      refine ⟨u5, rfl, ?_, HW.out⟩
      have h := HO.out
      rw [HN.out, List.take_length] at h
      rw [HN.out]; exact h
end Go.Cm

/- The document's parser: what is not there; special; the atom of one letter. Conditions: none. -/
namespace Go.Cm
open Go.RowKit Go.Proofs

theorem isNo {w : World} {p : Nat} {s : ByteArray} {at_ : Nat} {o : Option Int} (h : RowB w p s at_) (ho : Nxt s at_ o) (c : Int) (hc : o ≠ some c) :
    Calls Try.prog 76 #[.pointer (some ⟨p, 0, none⟩), .int .u8 c] w fun e w' => e = .returned (.bool false) ∧ ∃ x, w' = ext w x := by
  have := isR h ho c
  rwa [decide_eq_false hc] at this
set_option maxRecDepth 100000 in
theorem takeNo {w : World} {p : Nat} {s : ByteArray} {at_ : Nat} {o : Option Int} (h : RowB w p s at_) (ho : Nxt s at_ o) (c : Int) (hc : o ≠ some c) :
    Calls Try.prog 63 #[.pointer (some ⟨p, 0, none⟩), .int .u8 c] w fun e w' => e = .returned (.bool false) ∧ ∃ x, w' = ext w x := by
  have HIS := Lib.hid (isNo h ho c hc)
  clear h ho hc
  go_enter Try.func63, Try.ntmps63
  go_wp2_with ((with_reducible go_at_call 76); refine HIS.out.mono ?_; rintro en w1 ⟨rfl, x1, rfl⟩)
  go_ret
  exact ⟨rfl, _, rfl⟩
def spL : List Int := [92, 91, 93, 40, 41, 123, 125, 42, 43, 63, 124, 46]
theorem spec_at (j : Nat) (hj : j < 12) : ∃ b : Int, b ≠ 97 ∧ b ≠ 98 ∧ ∀ W : World, (Instr.index 9 (.string ⟨#[92, 91, 93, 40, 41, 123, 125, 42, 43, 63, 124, 46]⟩) (.int .i64 j)).run Try.prog W = .ok (.int .u8 b) W := by
  rcases j with _ | _ | _ | _ | _ | _ | _ | _ | _ | _ | _ | _ | j
  · exact ⟨92, by decide, by decide, fun W => by kernel_rfl⟩
  · exact ⟨91, by decide, by decide, fun W => by kernel_rfl⟩
  · exact ⟨93, by decide, by decide, fun W => by kernel_rfl⟩
  · exact ⟨40, by decide, by decide, fun W => by kernel_rfl⟩
  · exact ⟨41, by decide, by decide, fun W => by kernel_rfl⟩
  · exact ⟨123, by decide, by decide, fun W => by kernel_rfl⟩
  · exact ⟨125, by decide, by decide, fun W => by kernel_rfl⟩
  · exact ⟨42, by decide, by decide, fun W => by kernel_rfl⟩
  · exact ⟨43, by decide, by decide, fun W => by kernel_rfl⟩
  · exact ⟨63, by decide, by decide, fun W => by kernel_rfl⟩
  · exact ⟨124, by decide, by decide, fun W => by kernel_rfl⟩
  · exact ⟨46, by decide, by decide, fun W => by kernel_rfl⟩
  · omega
set_option maxRecDepth 100000 in
theorem specialR {w : World} {c : Int} (hc : c = 97 ∨ c = 98) :
    Calls Try.prog 88 #[.int .u8 c] w fun e w' => e = .returned (.bool false) ∧ ∃ x, w' = ext w x := by
  have HC := Lib.hid hc
  have HS := Lib.hid spec_at
  clear hc
  go_enter Try.func88, Try.ntmps88
  go_wp2
  go_loopg [4] 12 (fun gk iv wr => ∃ i : Nat, iv = .int .i64 i ∧ i ≤ 12 ∧ Below w.heap.size w wr ∧ gk = 12 - i)
  case atStart => exact ⟨0, rfl, Nat.zero_le _, Below.refl _ _, rfl⟩
  case round =>
    obtain ⟨i, rfl, hi, hbel, rfl⟩ := hrel
    have HW := Lib.hid hbel
    clear hbel
    by_cases hlt : i < 12
    · obtain ⟨b, hb1, hb2, hix⟩ := HS.out i hlt
      have hbc : (b == c) = false := by
        rcases HC.out with rfl | rfl <;> simp <;> assumption
      clear hb1 hb2
      go_wp2
      go_roundg (12 - (i + 1))
      case measure => omega
      case rel => exact ⟨i + 1, by go_num, by omega, HW.out, rfl⟩
    · go_wp2
      go_ret
      exact ⟨rfl, ex_ext HW.out⟩
/-- a letter at a place of a row -/
structure Let (s : ByteArray) (at_ : Nat) (c x : Int) (t : ByteArray) : Prop where
  hc : c = 97 ∨ c = 98
  nxt : Nxt s at_ (some c)
  one : One c x
  sz : t.size = 1
  byt : ByteAt t 0 c
  cut : ∀ W : World, (Instr.sliceAt 9 (.string s) (some (.int .i64 at_)) (some (.int .i64 ((at_ : Int) + 1))) none).run Try.prog W = .ok (.string t) W
set_option maxRecDepth 100000 in
set_option maxHeartbeats 4000000 in
theorem atomR {w : World} {p : Nat} {s : ByteArray} {at_ : Nat} {c x : Int} {t : ByteArray} (h : RowB w p s at_) (hl : Let s at_ c x t) :
    Calls Try.prog 81 #[.pointer (some ⟨p, 0, none⟩)] w fun e w' => ∃ u, e = .returned u ∧ NodesO w' w.heap.size u [setNd x] ∧ RowB w' p s (at_ + 1) ∧ w.grownBy w' (some p) := by
  have HR0 := Lib.hid h
  have hcut := hl.cut
  have hix := hl.nxt.2.2.2
  have hat := hl.nxt.2.1
  have HT := Lib.hid (fun (w' : World) (hh : RowB w' p s at_) (q : Int) (hq : (some c : Option Int) ≠ some q) => takeNo hh hl.nxt q hq)
  have HI := Lib.hid (fun (w' : World) (hh : RowB w' p s at_) (q : Int) (hq : (some c : Option Int) ≠ some q) => isNo hh hl.nxt q hq)
  have HSP := Lib.hid (fun (w' : World) => specialR (w := w') hl.hc)
  have HOF := Lib.hid (fun (w' : World) => ofR (w := w') hl.one hl.sz hl.byt)
  have HC := Lib.hid hl.hc
  have c1 := h.c1
  have hpl := h.lt
  clear h hl
  go_enter Try.func81, Try.ntmps81
  go_wp2_with (first
    | ((with_reducible go_at_call 63); with_reducible refine (HT.out _ HR2.out _ (by rcases HC.out with rfl | rfl <;> decide)).mono ?_; rintro en w3 ⟨rfl, x3, rfl⟩; have HR3 := Lib.hid (HR2.out.up (ext_below _ x3)))
    | ((with_reducible go_at_call 63); with_reducible refine (HT.out _ HR1.out _ (by rcases HC.out with rfl | rfl <;> decide)).mono ?_; rintro en w2 ⟨rfl, x2, rfl⟩; have HR2 := Lib.hid (HR1.out.up (ext_below _ x2)))
    | ((with_reducible go_at_call 63); with_reducible refine (HT.out _ HR0.out _ (by rcases HC.out with rfl | rfl <;> decide)).mono ?_; rintro en w1 ⟨rfl, x1, rfl⟩; have HR1 := Lib.hid (HR0.out.up (ext_below _ x1)))
    | ((with_reducible go_at_call 76); with_reducible refine (HI.out _ HR3.out _ (by rcases HC.out with rfl | rfl <;> decide)).mono ?_; rintro en w4 ⟨rfl, x4, rfl⟩; have HR4 := Lib.hid (HR3.out.up (ext_below _ x4))))
  have HB4 := Lib.hid ((((ext_below w x1).trans ((ext_below _ x2).mono (by have := (ext_below w x1).size; omega))).trans ((ext_below _ x3).mono (by have := (ext_below w x1).size; have := (ext_below (ext w x1) x2).size; omega))).trans ((ext_below _ x4).mono (by have := (ext_below w x1).size; have := (ext_below (ext w x1) x2).size; have := (ext_below (ext (ext w x1) x2) x3).size; omega)))
  clear HR0 HR1 HR2 HR3 c1
  generalize ext (ext (ext (ext w x1) x2) x3) x4 = w4 at *
  have c0 := HR4.out.c0
  have c1 := HR4.out.c1
  have l4 := HR4.out.lt
  refine wp_region_ext (by kernel_rfl) (by kernel_rfl) ?_
  repeat (go_big_quiet_step ((go_at_call 88; with_reducible exact calls_in (HSP.out _))))
  refine wpQuiet_nil ?_
  rintro w' ⟨x5, rfl⟩
  have HR5 := Lib.hid (HR4.out.up (ext_below _ x5))
  have HB5 := Lib.hid (HB4.out.trans ((ext_below _ x5).mono (by have := HB4.out.size; omega)))
  clear HR4 HB4 c0 c1 l4
  generalize ext w4 x5 = w5 at *
  have c0 := HR5.out.c0
  have c1 := HR5.out.c1
  have f1 := HR5.out.free 1
  have l5 := HR5.out.lt
  have hst := HR5.out.set (at_ + 1)
  have e : ((at_ + 1 : Nat) : Int) = (at_ : Int) + 1 := by push_cast; rfl
  rw [e] at hst
  have HST := Lib.hid hst
  clear hst e
  go_wp2_with (first
    | ((with_reducible go_at_call 86); refine (HOF.out _).mono ?_; rintro en w6 ⟨rfl, x6, rfl⟩)
    | ((with_reducible go_at_call 83); refine (oneR x).mono ?_; rintro en w7 ⟨u, rfl, hnu, hb7⟩; have HNU := Lib.hid hnu; have HB7 := Lib.hid hb7; clear hnu hb7))
  go_ret
  have hs5 := HB5.out.size
  have hs6 := HST.out.2.size
  have hs7 := (ext_below (w5.setCell ⟨p, 1, none⟩ (.int .i64 ((at_ : Int) + 1))) x6).size
  refine ⟨u, rfl, HNU.out.mono (by omega), ((HST.out.1.up (ext_below _ x6)).up HB7.out), ?_⟩
  exact grown_trans (grown_trans (grown_trans (grown_below HB5.out _) HST.out.2) (grown_below (ext_below _ x6) _)) (grown_below HB7.out _)
end Go.Cm

/- The document's parser: rep, many, cat. Conditions: none. -/
namespace Go.Cm
open Go.RowKit Go.Proofs

theorem NodesAt.form {w : World} {v : Value} {l : List Nd} (h : NodesAt w v l) : ∃ oa cap, v = .slice oa l.length cap := by
  obtain ⟨oa, cap, b, off, hv, -, -⟩ := h.open
  exact ⟨oa, cap, hv⟩
set_option maxRecDepth 100000 in
set_option maxHeartbeats 4000000 in
theorem repR {w : World} {p : Nat} {s : ByteArray} {at_ at2 : Nat} {c x : Int} {t : ByteArray} {o : Option Int} (h : RowB w p s at_) (hl : Let s at_ c x t) (ha : at2 = at_ + 1) (ho : Nxt s at2 o) (ho2 : o = none ∨ o = some 124) :
    Calls Try.prog 77 #[.pointer (some ⟨p, 0, none⟩)] w fun e w' => ∃ u, e = .returned u ∧ NodesO w' w.heap.size u [setNd x] ∧ RowB w' p s at2 ∧ w.grownBy w' (some p) := by
  have HA := Lib.hid (atomR h hl)
  rw [← ha] at HA
  have HT := Lib.hid (fun (w' : World) (hh : RowB w' p s at2) (q : Int) (hq : o ≠ some q) => takeNo hh ho q hq)
  have HI := Lib.hid (fun (w' : World) (hh : RowB w' p s at2) (q : Int) (hq : o ≠ some q) => isNo hh ho q hq)
  have HO := Lib.hid ho2
  have hpl := h.lt
  clear h hl ho ha ho2
  go_enter Try.func77, Try.ntmps77
  go_wp2_with ((with_reducible go_at_call 81); refine HA.out.mono ?_; rintro en w0 ⟨u, rfl, hnu, hr, hg⟩; have HR0 := Lib.hid hr; have HN0 := Lib.hid hnu; have HG0 := Lib.hid hg; clear hnu hr hg)
  go_loopg [3] 1 (fun gk xv wr => xv = u ∧ wr = w0 ∧ gk = 1)
  case atStart => exact ⟨rfl, rfl, rfl⟩
  case round =>
    obtain ⟨rfl, rfl, rfl⟩ := hrel
    have c2 := HR0.out.c2
    have l0 := HR0.out.lt
    go_wp2_with (first
      | ((with_reducible go_at_call 63); with_reducible refine (HT.out _ HR2.out _ (by rcases HO.out with rfl | rfl <;> decide)).mono ?_; rintro en w3 ⟨rfl, x3, rfl⟩; have HR3 := Lib.hid (HR2.out.up (ext_below _ x3)); have HN3 := Lib.hid (HN2.out.up (ext_below _ x3)))
      | ((with_reducible go_at_call 63); with_reducible refine (HT.out _ HR1.out _ (by rcases HO.out with rfl | rfl <;> decide)).mono ?_; rintro en w2 ⟨rfl, x2, rfl⟩; have HR2 := Lib.hid (HR1.out.up (ext_below _ x2)); have HN2 := Lib.hid (HN1.out.up (ext_below _ x2)))
      | ((with_reducible go_at_call 63); with_reducible refine (HT.out _ HR0.out _ (by rcases HO.out with rfl | rfl <;> decide)).mono ?_; rintro en w1 ⟨rfl, x1, rfl⟩; have HR1 := Lib.hid (HR0.out.up (ext_below _ x1)); have HN1 := Lib.hid (HN0.out.up (ext_below _ x1)))
      | ((with_reducible go_at_call 76); with_reducible refine (HI.out _ HR3.out _ (by rcases HO.out with rfl | rfl <;> decide)).mono ?_; rintro en w4 ⟨rfl, x4, rfl⟩; have HR4 := Lib.hid (HR3.out.up (ext_below _ x4)); have HN4 := Lib.hid (HN3.out.up (ext_below _ x4))))
    go_ret
    exact ⟨_, rfl, HN4.out, HR4.out, grown_trans (grown_trans (grown_trans (grown_trans HG0.out (grown_below (ext_below _ x1) _)) (grown_below (ext_below _ x2) _)) (grown_below (ext_below _ x3) _)) (grown_below (ext_below _ x4) _)⟩
theorem NodesO.form {w : World} {B : Nat} {v : Value} {l : List Nd} (h : NodesO w B v l) : ∃ oa cap, v = .slice oa l.length cap := h.at.form
set_option maxRecDepth 100000 in
theorem manyOne {w : World} {B : Nat} {v : Value} {ou : Option Addr} {lu cu : Nat} (h : Own w B 48 v [.slice ou lu cu]) (kd : Int) :
    Calls Try.prog 64 #[.int .i64 kd, v] w fun e w' => e = .returned (.slice ou lu cu) ∧ Below w.heap.size w w' := by
  obtain ⟨oa, cap, b, off, rfl, hd, hc⟩ := h.sl
  have hix := fun W => index_tree hd W .i64 0 (by decide) (by simp)
  have hcu := hc 0 (by simp)
  have hb := hd.hblk (by simp)
  clear h hd hc
  simp only [List.length_cons, List.length_nil, Nat.zero_add, Nat.add_zero, Int.toNat_zero, List.getD_cons_zero] at hix hcu ⊢
  go_enter Try.func64, Try.ntmps64
  go_wp2
  go_ret
  exact ⟨rfl, Below.refl _ _⟩
set_option maxRecDepth 100000 in
theorem manyTwo {w : World} {v : Value} {ll : List (List Nd)} (h : TreesAt w v ll) (kd : Int) (h2 : ll.length = 2) (hf : ll.flatten.length ≤ 100000) :
    Calls Try.prog 64 #[.int .i64 kd, v] w fun e w' => ∃ u, e = .returned u ∧ NodesO w' w.heap.size u (⟨kd, 2, 0, 0, 0, 0, 0, 0⟩ :: ll.flatten) ∧ Below w.heap.size w w' := by
  have HJ := joinR h kd (by omega) hf
  obtain ⟨oa, cap, b, off, rfl, hd, hc⟩ := h.open
  rw [h2] at HJ ⊢
  have HJ2 := Lib.hid HJ
  clear h hd hc HJ h2
  go_enter Try.func64, Try.ntmps64
  go_wp2_with ((with_reducible go_at_call 78); refine HJ2.out.mono ?_; rintro en w0 ⟨u, rfl, hnu, hg⟩; have HR0 := Lib.hid hg; have HN0 := Lib.hid hnu; clear hnu hg)
  go_ret
  exact ⟨u, rfl, HN0.out, HR0.out⟩
theorem below_of_grown {w w' : World} (h : w.grownBy w' none) : Below w.heap.size w w' := ⟨h.os, h.tape, h.output, h.size, fun k hk => h.block k hk (by simp)⟩
theorem trees_one {w : World} {B : Nat} {v u : Value} {l : List Nd} (h : Own w B 48 v [u]) (hu : NodesAt w u l) : TreesAt w v [l] :=
  ⟨[u], h.sl, rfl, fun i hi => by
    obtain rfl : i = 0 := by simp at hi; omega
    exact hu⟩
set_option maxRecDepth 100000 in
set_option maxHeartbeats 4000000 in
theorem catR {w : World} {p : Nat} {s : ByteArray} {at_ at2 : Nat} {c x : Int} {t : ByteArray} {o : Option Int} (h : RowB w p s at_) (hl : Let s at_ c x t) (ha : at2 = at_ + 1) (ho : Nxt s at2 o) (ho2 : o = none ∨ o = some 124) :
    Calls Try.prog 62 #[.pointer (some ⟨p, 0, none⟩)] w fun e w' => ∃ u, e = .returned u ∧ NodesO w' w.heap.size u [setNd x] ∧ RowB w' p s at2 ∧ w.grownBy w' (some p) := by
  have HR0 := Lib.hid h
  have HRE := Lib.hid (fun (w' : World) (hh : RowB w' p s at_) => repR hh hl ha ho ho2)
  have HI := Lib.hid (fun (w' : World) (hh : RowB w' p s at_) (q : Int) (hq : (some c : Option Int) ≠ some q) => isNo hh hl.nxt q hq)
  have HI2 := Lib.hid (fun (w' : World) (hh : RowB w' p s at2) (q : Int) => isR hh ho q)
  have HC := Lib.hid hl.hc
  have HO := Lib.hid ho
  have HOO := Lib.hid ho2
  have hat := hl.nxt.2.1
  have hat2 := ho.2.1
  have HLT := Lib.hid hl.nxt.2.2.1
  have hpl := h.lt
  clear h hl ho ha ho2
  go_enter Try.func62, Try.ntmps62
  go_wp2
  go_loopg [3] 1 (fun gk kv wr => (kv = .slice none 0 0 ∧ wr = w ∧ gk = 1) ∨ (∃ u, Own wr w.heap.size 48 kv [u] ∧ NodesO wr w.heap.size u [setNd x] ∧ RowB wr p s at2 ∧ w.grownBy wr (some p) ∧ gk = 0))
  case atStart => exact .inl ⟨rfl, rfl, rfl⟩
  case round =>
    rcases hrel with ⟨rfl, rfl, rfl⟩ | ⟨u, hown, hnu, hrb, hgr, rfl⟩
    · have c0 := HR0.out.c0
      have c1 := HR0.out.c1
      have c2 := HR0.out.c2
      have hlt2 : decide (at_ < s.size) = true := decide_eq_true HLT.out
      go_wp2
      refine wp_region_ext (by kernel_rfl) (by kernel_rfl) ?_
      repeat (go_big_quiet_step ((go_at_call 76; with_reducible exact calls_in (HI.out _ (HR0.out.up (by repeat (first | exact Below.refl _ _ | assumption | refine b_drewN ?_ _ | refine Below.drew ?_ | refine b_ext' ?_ _ | refine b_alloc' ?_ _))) _ (by rcases HC.out with rfl | rfl <;> decide)))))
      refine wpQuiet_nil ?_
      rintro w' ⟨x1, rfl⟩
      have HR1 := Lib.hid (HR0.out.up (ext_below _ x1))
      have HB1 := Lib.hid (ext_below wr x1)
      have hs1 := HB1.out.size
      clear c0 c1 c2 hlt2
      generalize ext wr x1 = w1 at *
      go_wp2_with (first
        | ((with_reducible go_at_call 77); refine (HRE.out _ HR1.out).mono ?_; rintro en w2 ⟨u, rfl, hnu, hrb, hgr⟩; obtain ⟨ou, cu, rfl⟩ := hnu.form; have HNU := Lib.hid hnu; have HR2 := Lib.hid hrb; have HG2 := Lib.hid hgr; have hs2 := hgr.size; clear hnu hrb hgr; simp only [List.length_cons, List.length_nil, Nat.zero_add] at HNU ⊢; have HB3 := Lib.hid (below_alloc w2 (.cells #[.slice ou 1 cu] 48)))
        | (at_builtin; go_loud (refine wpList_app rfl (.tmp 31) (.tmp 34) 39 rfl wr.heap.size 48 (.slice none 0 0) 24 Try.underlying39 (by kernel_rfl) rfl (by decide) (.slice none 0 0) [] rfl (Own.nil _ _ _) (.slice (some ⟨w2.heap.size, 0, none⟩) 1 1) [.slice ou 1 cu] rfl (by simpa using sl_lit w2 #[.slice ou 1 cu] 48 (by simp)) (by intro z hz; rw [List.mem_singleton] at hz; rw [hz]; rfl) (by simp) (Nat.le_trans (Nat.le_trans hs1 hs2) HB3.out.size) ?_); intro v' w5 hown1 hg1 hk1; have HO1 := Lib.hid hown1; have HG1 := Lib.hid hg1; clear hown1 hg1 hk1))
      go_roundg 0
      case measure => omega
      case rel =>
        refine .inr ⟨.slice ou 1 cu, by simpa using HO1.out, ?_, ?_, ?_, rfl⟩
        · exact ((HNU.out.mono hs1).up HB3.out).up (below_of_grown HG1.out)
        · exact (HR2.out.up HB3.out).up (below_of_grown HG1.out)
        · exact grown_trans (grown_trans (grown_trans (grown_below HB1.out _) HG2.out) (grown_below HB3.out _)) (grown_below (below_of_grown HG1.out) _)
    · have HOW := Lib.hid hown
      have HNU := Lib.hid hnu
      have HRB := Lib.hid hrb
      have HGR := Lib.hid hgr
      have hsw := hgr.size
      have c0 := HRB.out.c0
      have c1 := HRB.out.c1
      have c2 := HRB.out.c2
      have hpw := HRB.out.lt
      clear hown hnu hrb hgr HR0 HRE HI HC HLT hat
      rcases HOO.out with rfl | rfl
      · have hlt2 : decide (at2 < s.size) = false := by have := HO.out.2.2; simp; omega
        go_wp2
        refine wp_region_ext (by kernel_rfl) (by kernel_rfl) ?_
        repeat (go_big_quiet_step (fail))
        refine wpQuiet_nil ?_
        rintro w' ⟨x1, rfl⟩
        clear c0 c1 c2
        have hb1 := ext_below wr x1
        have HR1 := Lib.hid (HRB.out.up hb1)
        have HG1 := Lib.hid (grown_trans HGR.out (grown_below hb1 _))
        obtain ⟨ou, cu, rfl⟩ := HNU.out.form
        have HT1 := Lib.hid (HOW.out.up hb1)
        have HN1 := Lib.hid (HNU.out.up hb1)
        obtain ⟨oa, cap, b, off, rfl, -, -⟩ := HT1.out.sl
        simp only [List.length_cons, List.length_nil, Nat.zero_add] at HT1 HN1 ⊢
        clear hb1 HOW HNU HRB HGR
        generalize ext wr x1 = w1 at *
        go_wp2_with ((with_reducible go_at_call 64); refine (manyOne HT1.out _).mono ?_; rintro en w2 ⟨rfl, hb⟩; have HB2 := Lib.hid hb; clear hb)
        go_ret
        exact ⟨_, rfl, HN1.out.up HB2.out, HR1.out.up HB2.out, grown_trans HG1.out (grown_below HB2.out _)⟩
      · have hlt2 : decide (at2 < s.size) = true := by have := HO.out.2.2.1; simp; omega
        go_wp2
        refine wp_region_ext (by kernel_rfl) (by kernel_rfl) ?_
        repeat (go_big_quiet_step ((go_at_call 76; with_reducible exact calls_in (HI2.out _ (HRB.out.up (by repeat (first | exact Below.refl _ _ | assumption | refine b_drewN ?_ _ | refine Below.drew ?_ | refine b_ext' ?_ _ | refine b_alloc' ?_ _))) _))))
        refine wpQuiet_nil ?_
        rintro w' ⟨x1, rfl⟩
        clear c0 c1 c2
        have hb1 := ext_below wr x1
        have HR1 := Lib.hid (HRB.out.up hb1)
        have HG1 := Lib.hid (grown_trans HGR.out (grown_below hb1 _))
        obtain ⟨ou, cu, rfl⟩ := HNU.out.form
        have HT1 := Lib.hid (HOW.out.up hb1)
        have HN1 := Lib.hid (HNU.out.up hb1)
        obtain ⟨oa, cap, b, off, rfl, -, -⟩ := HT1.out.sl
        simp only [List.length_cons, List.length_nil, Nat.zero_add] at HT1 HN1 ⊢
        clear hb1 HOW HNU HRB HGR
        generalize ext wr x1 = w1 at *
        go_wp2_with ((with_reducible go_at_call 64); refine (manyOne HT1.out _).mono ?_; rintro en w2 ⟨rfl, hb⟩; have HB2 := Lib.hid hb; clear hb)
        go_ret
        exact ⟨_, rfl, HN1.out.up HB2.out, HR1.out.up HB2.out, grown_trans HG1.out (grown_below HB2.out _)⟩
end Go.Cm

/- The document's parser: alt, and Parse of 'b' and of 'a|b'. Conditions: none. -/
namespace Go.Cm
open Go.RowKit Go.Proofs

/-- a change of a block that is new does not show -/
theorem grown_row {w x y : World} {p q : Nat} (h : w.grownBy x (some p)) (k : x.grownBy y (some q)) (hq : w.heap.size ≤ q) : w.grownBy y (some p) :=
  ⟨k.os.trans h.os, k.tape.trans h.tape, k.output.trans h.output, Nat.le_trans h.size k.size, fun z hz hne => by
    rw [k.block z (Nat.lt_of_lt_of_le hz h.size) (by intro e; have := Option.some.inj e; omega), h.block z hz hne]⟩
theorem takeYes {w : World} {p : Nat} {s : ByteArray} {at_ at2 : Nat} {c : Int} (h : RowB w p s at_) (ho : Nxt s at_ (some c)) (h2 : at2 = at_ + 1) :
    Calls Try.prog 63 #[.pointer (some ⟨p, 0, none⟩), .int .u8 c] w fun e w' => e = .returned (.bool true) ∧ RowB w' p s at2 ∧ w.grownBy w' (some p) := by
  have := takeR h ho c
  rw [decide_eq_true rfl, if_pos rfl] at this
  rw [h2]; exact this
theorem NodesO.keepB {w w' : World} {B q : Nat} {u : Value} {l : List Nd} (h : NodesO w B u l) (hg : w.grownBy w' (some q)) (hq : ∀ b, u.ownBlock = some b → b ≠ q) : NodesO w' B u l :=
  OwnK.keep h hg (by
    cases hu : u.ownBlock with
    | none => exact .inl rfl
    | some b => exact .inr (fun e => hq b hu (Option.some.inj e)))
theorem NodesO.lt {w : World} {B : Nat} {u : Value} {l : List Nd} (h : NodesO w B u l) : ∀ b, u.ownBlock = some b → B ≤ b ∧ b < w.heap.size := OwnK.lt h
theorem trees_two {w : World} {B : Nat} {v u u2 : Value} {l l2 : List Nd} (h : Own w B 48 v [u, u2]) (hu : NodesAt w u l) (hu2 : NodesAt w u2 l2) : TreesAt w v [l, l2] :=
  ⟨[u, u2], h.sl, rfl, fun i hi => by
    rcases i with _ | _ | i
    · exact hu
    · exact hu2
    · simp at hi; omega⟩
set_option maxRecDepth 100000 in
set_option maxHeartbeats 4000000 in
theorem altOne {w : World} {p : Nat} {s : ByteArray} {at_ at2 : Nat} {c x : Int} {t : ByteArray} (h : RowB w p s at_) (hl : Let s at_ c x t) (ha : at2 = at_ + 1) (ho : Nxt s at2 none) :
    Calls Try.prog 39 #[.pointer (some ⟨p, 0, none⟩)] w fun e w' => ∃ u, e = .returned u ∧ NodesO w' w.heap.size u [setNd x] ∧ RowB w' p s at2 ∧ w.grownBy w' (some p) := by
  have HC := Lib.hid (catR h hl ha ho (.inl rfl))
  have HT := Lib.hid (fun (w' : World) (hh : RowB w' p s at2) (q : Int) => takeNo hh ho q (by simp))
  have hpl := h.lt
  clear h hl ha ho
  go_enter Try.func39, Try.ntmps39
  go_wp2_with ((with_reducible go_at_call 62); refine HC.out.mono ?_; rintro en w1 ⟨u, rfl, hnu, hrb, hgr⟩; obtain ⟨ou, cu, rfl⟩ := hnu.form; have HNU := Lib.hid hnu; have HR1 := Lib.hid hrb; have HG1 := Lib.hid hgr; have hs1 := hgr.size; clear hnu hrb hgr; simp only [List.length_cons, List.length_nil, Nat.zero_add] at HNU ⊢; have HB2 := Lib.hid (below_alloc w1 (.cells #[.slice ou 1 cu] 48)))
  have HO2 := Lib.hid (own_lit w1 w.heap.size #[.slice ou 1 cu] 48 (by simp) hs1)
  have HN2 := Lib.hid (HNU.out.up HB2.out)
  simp only [List.size_toArray, List.length_cons, List.length_nil, Nat.zero_add] at HO2
  have HR2 := Lib.hid (HR1.out.up HB2.out)
  have HG2 := Lib.hid (grown_trans HG1.out (grown_below HB2.out _))
  generalize hw2 : w1.alloc (.cells #[.slice ou 1 cu] 48) = w2 at *
  clear hw2
  go_loopg [3] 1 (fun gk xv wr => xv = .slice (some ⟨w1.heap.size, 0, none⟩) 1 1 ∧ wr = w2 ∧ gk = 1)
  case atStart => exact ⟨rfl, rfl, rfl⟩
  case round =>
    obtain ⟨rfl, rfl, rfl⟩ := hrel
    go_wp2_with (first
      | ((with_reducible go_at_call 63); refine (HT.out _ HR2.out _).mono ?_; rintro en w3 ⟨rfl, x3, rfl⟩; have HB3 := Lib.hid (ext_below wr x3))
      | ((with_reducible go_at_call 64); refine (manyOne (HO2.out.up HB3.out) _).mono ?_; rintro en w4 ⟨rfl, hb⟩; have HB4 := Lib.hid hb; clear hb))
    go_ret
    exact ⟨_, rfl, (HN2.out.up HB3.out).up HB4.out, (HR2.out.up HB3.out).up HB4.out, grown_trans (grown_trans HG2.out (grown_below HB3.out _)) (grown_below HB4.out _)⟩
set_option maxRecDepth 100000 in
set_option maxHeartbeats 4000000 in
theorem altTwo {w : World} {p : Nat} {s : ByteArray} {at_ at2 at3 at4 : Nat} {c x c' x' : Int} {t t' : ByteArray} (h : RowB w p s at_) (hl : Let s at_ c x t) (ha : at2 = at_ + 1) (ho : Nxt s at2 (some 124)) (ha3 : at3 = at2 + 1) (hl2 : Let s at3 c' x' t') (ha4 : at4 = at3 + 1) (ho4 : Nxt s at4 none) :
    Calls Try.prog 39 #[.pointer (some ⟨p, 0, none⟩)] w fun e w' => ∃ u, e = .returned u ∧ NodesAt w' u [⟨4, 2, 0, 0, 0, 0, 0, 0⟩, setNd x, setNd x'] ∧ RowB w' p s at4 ∧ w.grownBy w' (some p) := by
  have HC := Lib.hid (catR h hl ha ho (.inr rfl))
  have HC2 := Lib.hid (fun (w' : World) (hh : RowB w' p s at3) => catR hh hl2 ha4 ho4 (.inl rfl))
  have HTY := Lib.hid (fun (w' : World) (hh : RowB w' p s at2) => takeYes hh ho ha3)
  have HT := Lib.hid (fun (w' : World) (hh : RowB w' p s at4) (q : Int) => takeNo hh ho4 q (by simp))
  have hpl := h.lt
  clear h hl ha ho hl2 ha3 ha4 ho4
  go_enter Try.func39, Try.ntmps39
  go_wp2_with ((with_reducible go_at_call 62); refine HC.out.mono ?_; rintro en w1 ⟨u, rfl, hnu, hrb, hgr⟩; obtain ⟨ou, cu, rfl⟩ := hnu.form; have HNU := Lib.hid hnu; have HR1 := Lib.hid hrb; have HG1 := Lib.hid hgr; have hs1 := hgr.size; clear hnu hrb hgr; simp only [List.length_cons, List.length_nil, Nat.zero_add] at HNU ⊢; have HB2 := Lib.hid (below_alloc w1 (.cells #[.slice ou 1 cu] 48)))
  have HO2 := Lib.hid (own_lit w1 w.heap.size #[.slice ou 1 cu] 48 (by simp) hs1)
  have HN2 := Lib.hid (HNU.out.up HB2.out)
  simp only [List.size_toArray, List.length_cons, List.length_nil, Nat.zero_add] at HO2
  have HR2 := Lib.hid (HR1.out.up HB2.out)
  have HG2 := Lib.hid (grown_trans HG1.out (grown_below HB2.out _))
  have hs2 := HB2.out.size
  have hs2s : w1.heap.size < (w1.alloc (.cells #[.slice ou 1 cu] 48)).heap.size := by simp
  generalize hw2 : w1.alloc (.cells #[.slice ou 1 cu] 48) = w2 at *
  clear hw2
  go_loopg [3] 1 (fun gk xv wr => (xv = .slice (some ⟨w1.heap.size, 0, none⟩) 1 1 ∧ wr = w2 ∧ gk = 1) ∨ (∃ o2 c2, Own wr w.heap.size 48 xv [.slice ou 1 cu, .slice o2 1 c2] ∧ NodesO wr w.heap.size (.slice ou 1 cu) [setNd x] ∧ NodesO wr w.heap.size (.slice o2 1 c2) [setNd x'] ∧ RowB wr p s at4 ∧ w.grownBy wr (some p) ∧ gk = 0))
  case atStart => exact .inl ⟨rfl, rfl, rfl⟩
  case round =>
    rcases hrel with ⟨rfl, rfl, rfl⟩ | ⟨o2, c2, hown, hn1, hn2, hrb, hgr, rfl⟩
    · go_wp2_with (first
        | ((with_reducible go_at_call 63); refine (HTY.out _ HR2.out).mono ?_; rintro en w3 ⟨rfl, hrb, hgr⟩; have HR3 := Lib.hid hrb; have hs3 := hgr.size; have HG3 := Lib.hid (grown_trans HG2.out hgr); have HN3 := Lib.hid (HN2.out.keep hgr hpl); have HO3 := Lib.hid (HO2.out.keep hgr (.inr (by simp [Value.ownBlock]; omega))); clear hrb hgr)
        | ((with_reducible go_at_call 62); refine (HC2.out _ HR3.out).mono ?_; rintro en w4 ⟨u2, rfl, hnu, hrb, hgr⟩; obtain ⟨o2, c2, rfl⟩ := hnu.form; have HNU2 := Lib.hid hnu; have HR4 := Lib.hid hrb; have hs4 := hgr.size; have HG4 := Lib.hid (grown_trans HG3.out hgr); have HN4 := Lib.hid (HN3.out.keep hgr hpl); have HO4 := Lib.hid (HO3.out.keep hgr (.inr (by simp [Value.ownBlock]; omega))); clear hnu hrb hgr; simp only [List.length_cons, List.length_nil, Nat.zero_add] at HNU2 ⊢; have HB5 := Lib.hid (below_alloc w4 (.cells #[.slice o2 1 c2] 48)); have hs5 := HB5.out.size)
        | (at_builtin; go_loud (refine wpList_app rfl (.tmp 9) (.tmp 12) 39 rfl w.heap.size 48 (.slice none 0 0) 24 Try.underlying39 (by kernel_rfl) rfl (by decide) (.slice (some ⟨w1.heap.size, 0, none⟩) 1 1) [.slice ou 1 cu] rfl (HO4.out.up HB5.out) (.slice (some ⟨w4.heap.size, 0, none⟩) 1 1) [.slice o2 1 c2] rfl (by simpa using sl_lit w4 #[.slice o2 1 c2] 48 (by simp)) (by intro z hz; rw [List.mem_singleton] at hz; rw [hz]; rfl) (by simp) (Nat.le_trans (Nat.le_trans hs1 hs2) (Nat.le_trans (Nat.le_trans hs3 hs4) hs5)) ?_); intro v' w5 hown1 hg1 hk1; have HO5 := Lib.hid hown1; have HG5 := Lib.hid hg1; clear hown1 hg1 hk1))
      go_roundg 0
      case measure => omega
      case rel =>
        have hu1 : ∀ b, (Value.slice ou 1 cu).ownBlock = some b → b ≠ w1.heap.size := fun b hb => by have := (HNU.out.lt b hb).2; omega
        have hu2 : ∀ b, (Value.slice o2 1 c2).ownBlock = some b → b ≠ w1.heap.size := fun b hb => by have := (HNU2.out.lt b hb).1; omega
        refine .inr ⟨o2, c2, by simpa using HO5.out, ?_, ?_, ?_, ?_, rfl⟩
        · exact (HN4.out.up HB5.out).keepB HG5.out hu1
        · exact ((HNU2.out.mono (by omega)).up HB5.out).keepB HG5.out hu2
        · exact ⟨(HR4.out.up HB5.out).own.keep HG5.out (.inr (by simp [Value.ownBlock]; omega))⟩
        · exact grown_row (grown_trans HG4.out (grown_below HB5.out _)) HG5.out (by omega)
    · have HOW := Lib.hid hown
      have HNA := Lib.hid hn1
      have HNB := Lib.hid hn2
      have HRB := Lib.hid hrb
      have HGR := Lib.hid hgr
      obtain ⟨oa, cap, b, off, rfl, -, -⟩ := hown.sl
      simp only [List.length_cons, List.length_nil, Nat.zero_add] at HOW ⊢
      clear hown hn1 hn2 hrb hgr
      go_wp2_with (first
        | ((with_reducible go_at_call 63); refine (HT.out _ HRB.out _).mono ?_; rintro en w3 ⟨rfl, x3, rfl⟩; have HB3 := Lib.hid (ext_below wr x3))
        | ((with_reducible go_at_call 64); refine (manyTwo (trees_two (HOW.out.up HB3.out) (HNA.out.up HB3.out).at (HNB.out.up HB3.out).at) 4 rfl (by simp)).mono ?_; rintro en w4 ⟨u3, rfl, hn, hb⟩; have HN4 := Lib.hid hn; have HB4 := Lib.hid hb; clear hn hb))
      go_ret
      exact ⟨_, rfl, by simpa using HN4.out.at, (HRB.out.up HB3.out).up HB4.out, grown_trans (grown_trans HGR.out (grown_below HB3.out _)) (grown_below HB4.out _)⟩


theorem rowB_new (w : World) (s : ByteArray) : RowB (w.alloc (.cells #[.string s, .int .i64 0, .int .i64 0, .int .i64 0] 88)) w.heap.size s 0 :=
  ⟨own_lit w w.heap.size #[.string s, .int .i64 0, .int .i64 0, .int .i64 0] 88 (by simp) (Nat.le_refl _)⟩
/-- what a text is read as, from its row on -/
def ReadAs (s : ByteArray) (l : List Nd) : Prop := ∀ w p, RowB w p s 0 →
    Calls Try.prog 39 #[.pointer (some ⟨p, 0, none⟩)] w fun e w' => ∃ u, e = .returned u ∧ NodesAt w' u l ∧ RowB w' p s s.size ∧ w.grownBy w' (some p)
set_option maxRecDepth 100000 in
set_option maxHeartbeats 4000000 in
theorem parseR {w : World} {s : ByteArray} {l : List Nd} (h : ReadAs s l) (hs : s.size ≤ 512) (hl : l.length ≤ 400) :
    Calls Try.prog 19 #[.string s] w fun e w' => ∃ u, e = .returned (.tuple #[u, .int .i64 0, .int .i64 0]) ∧ NodesAt w' u l ∧ Below w.heap.size w w' := by
  have HA := Lib.hid (h _ _ (rowB_new w s))
  have HB0 := Lib.hid (below_alloc w (.cells #[.string s, .int .i64 0, .int .i64 0, .int .i64 0] 88))
  clear h
  go_enter Try.func19, Try.ntmps19
  go_wp2_with ((with_reducible go_at_call 39); refine HA.out.mono ?_; rintro en w2 ⟨u, rfl, hnu, hrb, hgr⟩; obtain ⟨ou, cu, rfl⟩ := hnu.form; have HNU := Lib.hid hnu; have HR1 := Lib.hid hrb; have HG1 := Lib.hid hgr; have c1 := hrb.c1; have c2 := hrb.c2; have hlw := hrb.lt; clear hnu hrb hgr)
  go_ret3
  exact ⟨_, rfl, HNU.out, HB0.out.grown HG1.out HB0.out.size (fun k hk => by cases hk; exact Nat.le_refl _)⟩
end Go.Cm

/- The document's parser at 'a|b' and at 'b'. Conditions: none. -/
namespace Go.Cm
open Go.RowKit Go.Proofs

def txA : ByteArray := ⟨#[97]⟩
def txB : ByteArray := ⟨#[98]⟩
def txAB : ByteArray := ⟨#[97, 124, 98]⟩
theorem nxt_of {s : ByteArray} {at_ : Nat} {x : Int} (h1 : s.size ≤ 1000) (h2 : at_ < s.size) (h3 : ∀ W : World, (Instr.index 9 (.string s) (.int .i64 at_)).run Try.prog W = .ok (.int .u8 x) W) : Nxt s at_ (some x) := ⟨h1, by omega, h2, h3⟩
theorem letB : Let txB 0 98 17179869184 txB where
  hc := .inr rfl
  nxt := nxt_of (by decide) (by decide) (fun W => by kernel_rfl)
  one := fun w => withB
  sz := rfl
  byt := ⟨by decide, fun W => by kernel_rfl⟩
  cut := fun W => by kernel_rfl
theorem letA0 : Let txAB 0 97 8589934592 txA where
  hc := .inl rfl
  nxt := nxt_of (by decide) (by decide) (fun W => by kernel_rfl)
  one := fun w => withA
  sz := rfl
  byt := ⟨by decide, fun W => by kernel_rfl⟩
  cut := fun W => by kernel_rfl
theorem letB2 : Let txAB 2 98 17179869184 txB where
  hc := .inr rfl
  nxt := nxt_of (by decide) (by decide) (fun W => by kernel_rfl)
  one := fun w => withB
  sz := rfl
  byt := ⟨by decide, fun W => by kernel_rfl⟩
  cut := fun W => by kernel_rfl
def treeAB : List Nd := [⟨4, 2, 0, 0, 0, 0, 0, 0⟩, setNd 8589934592, setNd 17179869184]
def treeB : List Nd := [setNd 17179869184]
theorem readB : ReadAs txB treeB := fun w p h => by
  have := altOne h letB (at2 := 1) rfl ⟨by decide, by decide, by decide⟩
  refine this.mono ?_
  rintro e w' ⟨u, rfl, hn, hr, hg⟩
  exact ⟨u, rfl, hn.at, hr, hg⟩
theorem readAB : ReadAs txAB treeAB := fun w p h =>
  altTwo h letA0 (at2 := 1) rfl (nxt_of (by decide) (by decide) (fun W => by kernel_rfl)) (at3 := 2) rfl letB2 (at4 := 3) rfl ⟨by decide, by decide, by decide⟩
theorem parseB {w : World} : Calls Try.prog 19 #[.string txB] w fun e w' => ∃ u, e = .returned (.tuple #[u, .int .i64 0, .int .i64 0]) ∧ NodesAt w' u treeB ∧ Below w.heap.size w w' := parseR readB (by decide) (by decide)
theorem parseAB {w : World} : Calls Try.prog 19 #[.string txAB] w fun e w' => ∃ u, e = .returned (.tuple #[u, .int .i64 0, .int .i64 0]) ∧ NodesAt w' u treeAB ∧ Below w.heap.size w w' := parseR readAB (by decide) (by decide)
end Go.Cm
