/- Texts of this claim, joined: walks of small functions and plain facts about them. Conditions: as each says. -/
import Derived.Test.YtfnkhcibcffcmaaGE
import Derived.Test.YtfnkhcibcffcmaaGC
import Derived.Test.YtfnkhcibcffcmaaGB
import Derived.Deep.DeepCutAuto
import Derived.Deep.CutRange
/- The walk of the maker's tree. Conditions: none. -/
namespace Go.Cm
open Go.RowKit Go.Proofs

theorem NodesB.noS {w : World} {b : Nat} {v : Value} {l : List Nd} (h : NodesB w b v l) : b < w.heap.size := h.lt
theorem Parts.upP {w w' : World} {B b : Nat} {u : Value} {vs : List Value} {tl : List (List Nd)} (h : Parts w B b u vs tl) (hb : Below w.heap.size w w') : Parts w' B b u vs tl := ⟨h.own.up hb, h.len, fun i hi => (h.rows i hi).up hb⟩
theorem Parts.keepP {w w' : World} {B b : Nat} {u : Value} {vs : List Value} {tl : List (List Nd)} {row : Option Nat} (h : Parts w B b u vs tl) (hg : w.grownBy w' row) (hu : ∀ z, u.ownBlock = some z → row ≠ some z) (hb : row ≠ some b) : Parts w' B b u vs tl :=
  ⟨h.own.keep hg (ne_of_row hu), h.len, fun i hi => (h.rows i hi).gw (S := fun k => some k = row) (S1 := fun k => some k = row) ⟨⟨hg.os, hg.tape, hg.output, hg.size, fun k hk hn => hg.block k hk hn⟩, fun _ h => .inl h⟩ (fun e => hb e.symm)⟩
theorem Parts.monoP {w : World} {B B' b : Nat} {u : Value} {vs : List Value} {tl : List (List Nd)} (h : Parts w B b u vs tl) (hB : B' ≤ B) : Parts w B' b u vs tl := ⟨h.own.mono hB, h.len, h.rows⟩
theorem ndV_one (x : Nd) : ∀ u ∈ (ndV x).toList, u.oneCell' = true := by
  intro u hu
  simp at hu
  rcases hu with rfl | rfl | rfl | rfl | rfl | rfl | rfl | rfl <;> rfl

/-- a world in which only blocks of S were written to -/
noncomputable def wrt (S : Nat → Prop) (w x : World) : World := @ite _ (Fx S w x) (Classical.propDecidable _) x w
theorem wrt_fx (S : Nat → Prop) (w x : World) : Fx S w (wrt S w x) := by
  unfold wrt
  split
  · assumption
  · exact Fx.refl _ _
theorem ex_wrt {S : Nat → Prop} {w x : World} (h : Fx S w x) : ∃ y, x = wrt S w y := ⟨x, by unfold wrt; rw [if_pos h]⟩
@[go_sem] theorem cell?_wrt (S : Nat → Prop) (w x : World) (b o : Nat) (h : b < w.heap.size) (hn : ¬ S b) : (wrt S w x).cell? ⟨b, o, none⟩ = w.cell? ⟨b, o, none⟩ := World.cell?_of_block (w := w) ((wrt_fx S w x).block b h hn)

theorem FixC.keepO {S : Nat → Prop} {w w' : World} {p : Nat} {C : Array Value} (h : FixC w S p C) {row : Option Nat} (hg : w.grownBy w' row) (hr : ∀ z, row = some z → z ≠ p) : FixC w' S p C :=
  ⟨fun i hi => (World.cell?_of_block (w := w) (hg.block p h.lt (fun e => hr p e.symm rfl))).trans (h.c i hi), Nat.lt_of_lt_of_le h.lt hg.size, h.no⟩
theorem LB.keepO {S : Nat → Prop} {w w' : World} {p : Nat} {f l : Int} (h : LB w S p f l) {row : Option Nat} (hg : w.grownBy w' row) (hr : ∀ z, row = some z → z ≠ p) : LB w' S p f l := ⟨h.box.keep hg (fun e => hr p e rfl), h.no⟩
theorem NodesB.keepO {w w' : World} {b : Nat} {v : Value} {l : List Nd} (h : NodesB w b v l) {row : Option Nat} (hg : w.grownBy w' row) (hr : ∀ z, row = some z → z ≠ b) : NodesB w' b v l :=
  h.gw (S := fun k => row = some k) (S1 := fun k => row = some k) ⟨⟨hg.os, hg.tape, hg.output, hg.size, fun k hk hn => hg.block k hk (fun e => hn e.symm)⟩, fun _ h => .inl h⟩ (fun e => hr b e rfl)
theorem MkW.keepO {w w' : World} {S : Nat → Prop} {g q : Nat} {ll : List (List Ed)} {rl : List Int} {F : Int} (h : MkW w S g q ll rl F) {row : Option Nat} (hg : w.grownBy w' row) (hr : ∀ z, row = some z → ¬ S z ∧ z ≠ q) : MkW w' S g q ll rl F := by
  cases row with
  | none =>
    obtain ⟨ve, vs, vr, h1, rfl⟩ := h
    exact ⟨ve, vs, vr, h1.keep hg (fun _ _ _ e => by cases e), rfl⟩
  | some p => exact h.keep hg (hr p rfl).1 (hr p rfl).2
theorem Gw.newO {S S1 : Nat → Prop} {w w1 w2 : World} (h : Gw S w S1 w1) {row : Option Nat} (hg : w1.grownBy w2 row) (hr : ∀ z, row = some z → w.heap.size ≤ z) : Gw S w S1 w2 := by
  cases row with
  | none => exact h.trans (gw_grown hg (fun k e => by cases e) (fun k h => .inl h))
  | some p => exact h.new hg (hr p rfl)
theorem OwnK.gw {S S1 : Nat → Prop} {k : Nat} {w w1 : World} (h : Gw S w S1 w1) {B E : Nat} {v : Value} {l : List (List Value)} (ho : OwnK k w B E v l) (hv : ∀ z, v.ownBlock = some z → ¬ S z) : OwnK k w1 B E v l := by
  refine ⟨⟨ho.1.1, ho.1.2.imp id ?_⟩, ho.2⟩
  rintro ⟨g, cap, cur, rfl, h2, h3, h4⟩
  exact ⟨g, cap, cur, rfl, h2, by rw [h.fx.block g (Array.getElem?_eq_some_iff.1 h3).1 (hv g rfl)]; exact h3, h4⟩

theorem nodeS_8 (x : Nd) (K : St → List Pc × St) (s : St) (h : x.kd = 8) : nodeS x K s = repS x (fun s => headP (K s)) s := by unfold nodeS; rw [if_neg (by omega), if_pos h]
theorem nodeS_loop (x : Nd) (K : St → List Pc × St) (s : St) (h : x.kd = 5 ∨ x.kd = 6 ∨ x.kd = 7) : nodeS x K s = (aroundP (K s).2, loopS (decide (x.kd ≠ 6)) (decide (x.kd ≠ 7)) (headP (K s)).1 (K s).2) := by unfold nodeS; rw [if_neg (by omega), if_neg (by omega), if_pos h]
theorem nodeS_cat (x : Nd) (K : St → List Pc × St) (s : St) (h : x.kd = 3) : nodeS x K s = (chainP (K s).1, chainS (K s).1 (K s).1.length (K s).2) := by unfold nodeS; rw [if_neg (by omega), if_neg (by omega), if_neg (by omega), if_pos h]
theorem nodeS_alt (x : Nd) (K : St → List Pc × St) (s : St) (h : x.kd = 4) : nodeS x K s = (aroundP (K s).2, altS (aroundP (K s).2) (K s).1 (K s).1.length (two (K s).2)) := by unfold nodeS; rw [if_neg (by omega), if_neg (by omega), if_neg (by omega), if_neg (by omega)]
theorem unodeN_8 (x : Nd) (u : Nat) (h : x.kd = 8) : unodeN x u = 2 + (timesN x).toNat * u := by unfold unodeN; rw [if_neg (by omega), if_neg (by omega), if_pos h]
theorem unodeN_2 (x : Nd) (u : Nat) (h : x.kd = 4 ∨ x.kd = 5 ∨ x.kd = 6 ∨ x.kd = 7) : unodeN x u = u + 2 := by unfold unodeN; rw [if_neg (by omega), if_pos h]
theorem unodeN_3 (x : Nd) (u : Nat) (h : x.kd = 3) : unodeN x u = u := by unfold unodeN; rw [if_neg (by omega), if_neg (by omega), if_neg (by omega)]

/-- what the kids' closure reads -/
structure KJ (g a p6 bo b : Nat) (u : Value) (vs : List Value) (tl : List (List Nd)) (S : Nat → Prop) (w : World) : Prop where
  va : FixC w S a #[.pointer (some ⟨g, 0, none⟩)]
  vb : FixC w S p6 #[u]
  out : FixC w S bo vs.toArray
  nb : ¬ S b
  rows : ∀ i, i < tl.length → NodesB w b (vs.getD i undef) (tl.getD i [])
theorem KJ.gw {g a p6 bo b : Nat} {u : Value} {vs : List Value} {tl : List (List Nd)} (S : Nat → Prop) (w : World) (S' : Nat → Prop) (w' : World) (hp : 0 < tl.length) (h : KJ g a p6 bo b u vs tl S w) (hg : Gw S w S' w') : KJ g a p6 bo b u vs tl S' w' :=
  ⟨h.va.gw hg, h.vb.gw hg, h.out.gw hg, hg.out (h.rows 0 hp).lt h.nb, fun i hi => (h.rows i hi).gw hg h.nb⟩
theorem KJ.up {g a p6 bo b : Nat} {u : Value} {vs : List Value} {tl : List (List Nd)} (S : Nat → Prop) (w w' : World) (h : KJ g a p6 bo b u vs tl S w) (hb : Below w.heap.size w w') : KJ g a p6 bo b u vs tl S w' :=
  ⟨h.va.up hb, h.vb.up hb, h.out.up hb, h.nb, fun i hi => (h.rows i hi).up hb⟩

theorem KJ.keepO {g a p6 bo b : Nat} {u : Value} {vs : List Value} {tl : List (List Nd)} {S : Nat → Prop} {w w' : World} (h : KJ g a p6 bo b u vs tl S w) {row : Option Nat} (hg : w.grownBy w' row) (h1 : ∀ z, row = some z → z ≠ a ∧ z ≠ p6 ∧ z ≠ bo ∧ z ≠ b) : KJ g a p6 bo b u vs tl S w' :=
  ⟨h.va.keepO hg (fun z hz => (h1 z hz).1), h.vb.keepO hg (fun z hz => (h1 z hz).2.1), h.out.keepO hg (fun z hz => (h1 z hz).2.2.1), h.nb, fun i hi => (h.rows i hi).keepO hg (fun z hz => (h1 z hz).2.2.2)⟩

set_option maxRecDepth 100000 in
set_option maxHeartbeats 4000000 in
/-- the closure that lays the only kid -/
theorem tree1M {g q a p6 bo b cu : Nat} {u0 : Value} {vs : List Value} {y : Nd} {ky : Fo} {F : Int}
    (hT : ∀ (w : World) (S : Nat → Prop) (s : St), NodesB w b u0 (y :: flat ky) → ¬ S b → MkT w S g q s F → s.e.length + unodeN y (usz ky) ≤ 4000 → s.r.length + unodeN y (usz ky) ≤ 4000 → tot s.e + 2 * unodeN y (usz ky) ≤ 90000 →
      ∀ n m : Nat, n = (nodeS y (fun s => layF ky s) s).1.f → m = (nodeS y (fun s => layF ky s) s).1.l → Calls Try.prog 36 #[.pointer (some ⟨g, 0, none⟩), u0] w fun e w' => e = .returned (.agg #[.int .i64 n, .int .i64 m]) ∧ ∃ S', MkT w' S' g q (nodeS y (fun s => layF ky s) s).2 F ∧ Gw S w S' w')
    {w : World} {S : Nat → Prop} {s : St} (hj : KJ g a p6 bo b (.slice (some ⟨bo, 0, none⟩) 1 cu) vs [y :: flat ky] S w) (hvs : vs = [u0]) (hcu : 1 ≤ cu) (hcu2 : cu ≤ maxLen) (h : MkT w S g q s F) (hl : s.e.length + unodeN y (usz ky) ≤ 4000) (hr : s.r.length + unodeN y (usz ky) ≤ 4000) (ht : tot s.e + 2 * unodeN y (usz ky) ≤ 90000)
    (n m : Nat) (hn : n = (nodeS y (fun s => layF ky s) s).1.f) (hm : m = (nodeS y (fun s => layF ky s) s).1.l) :
    Calls Try.prog 58 #[.pointer (some ⟨a, 0, none⟩), .pointer (some ⟨p6, 0, none⟩)] w fun e w' => e = .returned (.agg #[.int .i64 n, .int .i64 m]) ∧ ∃ S', MkT w' S' g q (nodeS y (fun s => layF ky s) s).2 F ∧ Gw S w S' w' := by
  subst hvs
  have hno := h.no (Nat.le_refl _)
  have hgq := h.gq
  have hac : w.cell? ⟨a, 0, none⟩ = some (.pointer (some ⟨g, 0, none⟩)) := hj.va.c 0 (show 0 < 1 by decide)
  have hal := hj.va.lt
  have h6c : w.cell? ⟨p6, 0, none⟩ = some (.slice (some ⟨bo, 0, none⟩) 1 cu) := hj.vb.c 0 (show 0 < 1 by decide)
  have h6l := hj.vb.lt
  have hoc : w.cell? ⟨bo, 0, none⟩ = some u0 := hj.out.c 0 (show 0 < 1 by decide)
  have hol := hj.out.lt
  have hdo : Hd w (some ⟨bo, 0, none⟩) 1 cu bo 0 := ⟨fun _ => rfl, hcu, hcu2, by decide, fun _ => hol⟩
  have hix : ∀ W : World, (Instr.indexAt 39 (.slice (some ⟨bo, 0, none⟩) 1 cu) (.int .i64 0)).run Try.prog W = .ok (.pointer (some ⟨bo, 0, none⟩)) W := fun W => by
    have := index_tree hdo W .i64 0 (by omega) (by omega)
    simpa using this
  have hr0 : NodesB w b u0 (y :: flat ky) := hj.rows 0 (by simp)
  have hlW : Below w.heap.size w (w.alloc (.cells #[.int .i64 0, .int .i64 0] 82)).drew := b_drew1 (below_alloc w _)
  have HCL := Lib.hid (hT _ S s (hr0.up hlW) hj.nb (h.up hlW) hl hr ht n m hn hm)
  have HGW := Lib.hid (gw_below S hlW)
  have HPB := Lib.hid ((LB.mk (pcB_new w 0 0) hno : LB _ S w.heap.size 0 0).up (drew_b _))
  clear hT hj h hl hr ht hn hm hdo hr0 hlW
  go_enter Try.func58, Try.ntmps58
  go_wp2
  refine wp_region_tailg [0,1,2,3] [] [4,5] (by kernel_rfl) (by kernel_rfl) ?_
  simp only [pick, List.map_cons, List.map_nil, List.getD_cons_zero, List.getD_cons_succ]
  repeat (go_big_quiet_step (fail))
  refine wpQuiet_nil ?_
  unfold wpAct
  unfold wpAct
  go_wp2_with ((with_reducible go_at_call 36); refine HCL.out.mono ?_; rintro en w1 ⟨rfl, S1, hm1, hg1⟩; have HM1 := Lib.hid hm1; have HG1 := Lib.hid (HGW.out.trans hg1); have HP1 := Lib.hid (HPB.out.gw hg1); clear hm1 hg1)
  refine ⟨trivial, ?_⟩
  have P4a := HP1.out.box.c0
  have P4b := HP1.out.box.c1
  have P4l := HP1.out.box.lt
  have P4f := HP1.out.box.free 0
  have P4g := HP1.out.box.free 1
  have HST := Lib.hid (HP1.out.box.set n m)
  unfold wpAct
  go_wp2
  refine ⟨trivial, ?_⟩
  unfold wpAct
  go_wp2
  refine ret_cell rfl rfl rfl HST.out.1.load ?_
  exact ⟨rfl, S1, HM1.out.keep HST.out.2 HP1.out.no (by omega), HG1.out.new HST.out.2 (Nat.le_refl _)⟩

set_option maxRecDepth 100000 in
set_option maxHeartbeats 8000000 in
theorem treeM (N : Nat) : ∀ (w : World) (S : Nat → Prop) (g q : Nat) (s : St) (F : Int) (v : Value) (b : Nat) (x : Nd) (k : Fo), (flat k).length < N → NodesB w b v (x :: flat k) → ¬ S b → (flat k).length < 400 → x.n = cnt k → wf k → okN x → allF okN k → MkT w S g q s F → s.e.length + unodeN x (usz k) ≤ 4000 → s.r.length + unodeN x (usz k) ≤ 4000 → tot s.e + 2 * unodeN x (usz k) ≤ 90000 →
    ∀ n m : Nat, n = (nodeS x (fun s => layF k s) s).1.f → m = (nodeS x (fun s => layF k s) s).1.l → Calls Try.prog 36 #[.pointer (some ⟨g, 0, none⟩), v] w fun e w' => e = .returned (.agg #[.int .i64 n, .int .i64 m]) ∧ ∃ S', MkT w' S' g q (nodeS x (fun s => layF k s) s).2 F ∧ Gw S w S' w' := by
  induction N with
  | zero => intro w S g q s F v b x k h; omega
  | succ N ih =>
  intro w S g q s F v b x k hN hnb hbS h400 hxn hwk hox hak h hl hr htot n m hn hm
  have HIH := Lib.hid ih
  have hno := h.no (Nat.le_refl _)
  have hno1 := h.no (Nat.le_succ _)
  have hgq := h.gq
  have hA : Below w.heap.size w ((w.alloc (.cells #[.pointer (some ⟨g, 0, none⟩)] 75)).alloc (.cells #[.int .i64 0, .int .i64 0] 82)) := (below_alloc w _).trans ((below_alloc _ _).mono (by simp))
  have HMA := Lib.hid (h.up hA)
  have HGA := Lib.hid (gw_below S hA)
  have HNA := Lib.hid (hnb.up hA)
  have HFA := Lib.hid ((fixC_new w S #[.pointer (some ⟨g, 0, none⟩)] 75 hno).up (below_alloc _ (.cells #[.int .i64 0, .int .i64 0] 82)))
  have HPA : Hid (LB ((w.alloc (.cells #[.pointer (some ⟨g, 0, none⟩)] 75)).alloc (.cells #[.int .i64 0, .int .i64 0] 82)) S (w.heap.size + 1) 0 0) := Lib.hid ⟨by
    have h := pcB_new (w.alloc (.cells #[.pointer (some ⟨g, 0, none⟩)] 75)) 0 0
    simpa using h, hno1⟩
  have hszA : ((w.alloc (.cells #[.pointer (some ⟨g, 0, none⟩)] 75)).alloc (.cells #[.int .i64 0, .int .i64 0] 82)).heap.size = w.heap.size + 2 := by simp
  have hblt := hnb.lt
  have HLY := Lib.hid (lay_ok k hwk hak)
  have HXN := Lib.hid hxn
  have HWK := Lib.hid hwk
  have HOX := Lib.hid hox
  have HAK := Lib.hid hak
  have HKD := Lib.hid (okN_kd hox)
  have HN := Lib.hid hn
  have HMM := Lib.hid hm
  have HB := Lib.hid (And.intro hl (And.intro hr htot))
  obtain ⟨Z, hZ⟩ : ∃ Z, Z = (nodeS x (fun s => layF k s) s) := ⟨_, rfl⟩
  have HZ := Lib.hid hZ
  rw [← hZ] at HN HMM ⊢
  clear ih h hnb hxn hwk hox hak hn hm hl hr htot hA hZ
  go_enter Try.func36, Try.ntmps36
  go_upto_region 1 with fail
  generalize ((w.alloc (.cells #[.pointer (some ⟨g, 0, none⟩)] 75)).alloc (.cells #[.int .i64 0, .int .i64 0] 82)) = wr at *
  go_cut [5, 6] (fun s5 s6 wx => ∃ (p5 p6 : Nat) (u : Value) (vs : List Value), s5 = .pointer (some ⟨p5, 0, none⟩) ∧ s6 = .pointer (some ⟨p6, 0, none⟩) ∧ wr.heap.size ≤ p5 ∧ wr.heap.size ≤ p6 ∧ Own wx 0 100 (.slice (some ⟨p5, 0, none⟩) 8 8) (ndC x) ∧ Own wx 0 39 (.slice (some ⟨p6, 0, none⟩) 1 1) [u] ∧ Parts wx wr.heap.size b u vs (treesOf k) ∧ Below wr.heap.size wr wx)
  case first =>
    obtain ⟨oa, cap, b', off, rfl, hd, hc⟩ := HNA.out.at_.open
    have hix0 : ∀ W : World, (Instr.indexAt 48 (.slice oa (x :: flat k).length cap) (.int .i64 0)).run Try.prog W = .ok (.pointer (some ⟨b', off, none⟩)) W := fun (W : World) => by
      have := index_node hd W .i64 0 (by omega) (by simp)
      simpa using this
    have hbl := hd.hblk (by simp)
    have HCQ : Hid (∀ w', (∃ y, w' = ext wr y) → ∀ c, c < 8 → w'.cell? ⟨b', off + c, none⟩ = some ((ndV x).getD c undef)) := Lib.hid (by
      rintro w' ⟨y, rfl⟩ c hcl
      rw [cell?_ext _ _ _ _ hbl]
      have := hc 0 (by simp) c hcl
      rw [Nat.zero_mul, Nat.add_zero, ndC_get] at this
      exact this)
    have hxl : (x :: flat k).length ≤ 400 := by simp; omega
    clear hd hc
    generalize (x :: flat k).length = ln at *
    have C0 : Hid (Below wr.heap.size wr wr.drew) := Lib.hid (below_drewN wr 1)
    have hbr : b < wr.heap.size := by omega
    clear hszA
    refine wp_region_scr (C := fun w' => ∃ x, w' = ext wr x) (.q 0 (.q 1 (.q 2 (.q 3 (.br 4 (.br 5 (.br 6 (.br 7 (.br 8 .done .no) .no) .no) (.br 6 (.br 5 (.br 7 (.br 8 .done .no) .no) .no) .no)) (.br 5 (.br 4 (.br 6 (.br 7 (.br 8 .done .no) .no) .no) (.br 6 (.br 4 (.br 7 (.br 8 .done .no) .no) .no) .no)) (.br 6 (.br 4 (.br 5 (.br 7 (.br 8 .done .no) .no) .no) (.br 5 (.br 4 (.br 7 (.br 8 .done .no) .no) .no) .no)) .no))))))) (by kernel_rfl) (by kernel_rfl) (ex_ext C0.out) ?_
    (unfold wpScr; simp only [pick, List.map_cons, List.map_nil, List.getD_cons_zero])
    repeat (go_big_quiet_step (fail))
    refine wpQuiet_nil ?_
    (unfold wpScr; simp only [pick, List.map_cons, List.map_nil, List.getD_cons_zero, List.getD_cons_succ])
    repeat (go_big_quiet_step (fail))
    refine wpQuiet_nil ?_
    (unfold wpScr; simp only [pick, List.map_cons, List.map_nil, List.getD_cons_zero, List.getD_cons_succ])
    repeat (first | (go_big_quiet_want; refine quiet_load_cells 100 8 _ rfl b' off rfl (ndV x) rfl HCQ.out _ Try.underlying100 rfl (by kernel_rfl) ?_; go_simp; go_big_quiet_on) | go_big_quiet_step (fail))
    refine wpQuiet_nil ?_
    (unfold wpScr; simp only [pick, List.map_cons, List.map_nil, List.getD_cons_zero, List.getD_cons_succ])
    repeat (go_big_quiet_step (fail))
    refine wpQuiet_nil ?_
    (unfold wpScr; simp only [pick, List.map_cons, List.map_nil, List.getD_cons_zero, List.getD_cons_succ])
    refine ⟨?_, ?_⟩
    · unfold wpAct
      go_wp2_with ((with_reducible go_at_call 55); refine (kidsP (HNA.out.up C0.out) h400 HXN.out HWK.out).mono ?_; rintro en w4 ⟨u, vs, rfl, hP, hbK⟩; have HPK := Lib.hid hP; have B4 := Lib.hid hbK; have C4 := Lib.hid (below_up C0.out hbK); have Z4 := Lib.hid hbK.size; clear hP hbK)
      refine ⟨ex_ext C4.out, ?_⟩
      unfold wpAct
      (unfold wpScr; simp only [pick, List.map_cons, List.map_nil, List.getD_cons_zero, List.getD_cons_succ])
      refine ⟨?_, ?_⟩
      · unfold wpAct
        go_wp2
        have F5 := Lib.hid ((by simpa using own_lit w4 0 #[.int .i64 0, .int .i64 0, .int .u64 0, .int .u64 0, .int .u64 0, .int .u64 0, .int .i64 0, .int .i64 0] 100 (by simp) (Nat.zero_le _) : Own (w4.alloc (.cells #[.int .i64 0, .int .i64 0, .int .u64 0, .int .u64 0, .int .u64 0, .int .u64 0, .int .i64 0, .int .i64 0] 100)) 0 100 (.slice (some ⟨w4.heap.size, 0, none⟩) 8 8) [.int .i64 0, .int .i64 0, .int .u64 0, .int .u64 0, .int .u64 0, .int .u64 0, .int .i64 0, .int .i64 0]))
        have B5 := Lib.hid (below_alloc w4 (.cells #[.int .i64 0, .int .i64 0, .int .u64 0, .int .u64 0, .int .u64 0, .int .u64 0, .int .i64 0, .int .i64 0] 100))
        have C5 := Lib.hid (below_up C4.out B5.out)
        refine ⟨ex_ext C5.out, ?_⟩
        have Z5 : Hid ((w4.alloc (.cells #[.int .i64 0, .int .i64 0, .int .u64 0, .int .u64 0, .int .u64 0, .int .u64 0, .int .i64 0, .int .i64 0] 100)).heap.size = (w4).heap.size + 1) := Lib.hid (by simp)
        obtain ⟨p5, hp5⟩ : ∃ p5, p5 = w4.heap.size := ⟨_, rfl⟩
        have HP5 := Lib.hid hp5
        rw [← hp5] at ⊢
        rw [show w4.heap.size = p5 from hp5.symm] at F5
        clear hp5
        generalize w4.alloc (.cells #[.int .i64 0, .int .i64 0, .int .u64 0, .int .u64 0, .int .u64 0, .int .u64 0, .int .i64 0, .int .i64 0] 100) = w5 at *
        unfold wpAct
        (unfold wpScr; simp only [pick, List.map_cons, List.map_nil, List.getD_cons_zero, List.getD_cons_succ])
        refine ⟨?_, ?_⟩
        · unfold wpAct
          go_wp2
          have F6 := Lib.hid ((by simpa using own_lit w5 0 #[.slice none 0 0] 39 (by simp) (Nat.zero_le _) : Own (w5.alloc (.cells #[.slice none 0 0] 39)) 0 39 (.slice (some ⟨w5.heap.size, 0, none⟩) 1 1) [.slice none 0 0]))
          have B6 := Lib.hid (below_alloc w5 (.cells #[.slice none 0 0] 39))
          have C6 := Lib.hid (below_up C5.out B6.out)
          refine ⟨ex_ext C6.out, ?_⟩
          have Z6 : Hid ((w5.alloc (.cells #[.slice none 0 0] 39)).heap.size = (w5).heap.size + 1) := Lib.hid (by simp)
          obtain ⟨p6, hp6⟩ : ∃ p6, p6 = w5.heap.size := ⟨_, rfl⟩
          have HP6 := Lib.hid hp6
          rw [← hp6] at ⊢
          rw [show w5.heap.size = p6 from hp6.symm] at F6
          clear hp6
          generalize w5.alloc (.cells #[.slice none 0 0] 39) = w6 at *
          unfold wpAct
          (unfold wpScr; simp only [pick, List.map_cons, List.map_nil, List.getD_cons_zero, List.getD_cons_succ])
          refine ⟨?_, by unfold wpScr; trivial⟩
          unfold wpAct
          have hkk := HPK.out.own.lt
          have q4 := Z4.out
          have q5 := Z5.out
          have q6 := Z6.out
          have q7 := HP5.out
          have q8 := HP6.out
          have q9 : wr.drew.heap.size = wr.heap.size := rfl
          have h5r : wr.heap.size ≤ p5 := by omega
          have h6r : wr.heap.size ≤ p6 := by omega
          have O5 := Lib.hid (F5.out.up B6.out)
          have O6 := Lib.hid F6.out
          have OP := Lib.hid (((HPK.out).upP B5.out).upP B6.out)
          have h56 : p5 ≠ p6 := by omega
          have hk5 : ∀ z, u.ownBlock = some z → z ≠ p5 := fun z hz => by have := hkk z hz; omega
          have hk6 : ∀ z, u.ownBlock = some z → z ≠ p6 := fun z hz => by have := hkk z hz; omega
          have hBk : wr.heap.size ≤ wr.drew.heap.size := by omega
          have hbp5 : b ≠ p5 := by omega
          have hbp6 : b ≠ p6 := by omega
          clear q4 q5 q6 q7 q8 q9 hkk Z4 Z5 Z6 HP5 HP6
          generalize w6 = wz at *
          have CZ := C6
          go_wp2_with (refine wpList_store_agg rfl 100 _ _ rfl 0 100 p5 8 8 rfl (ndV x) rfl (by kernel_rfl) _ O5.out (Nat.le_refl 8) (ndV_one x) ?_; intro wF hF hgF; have HF := Lib.hid hF; have HGF := Lib.hid hgF; clear hF hgF)
          have CF : Hid (Below wr.heap.size wr wF) := Lib.hid (CZ.out.grown HGF.out CZ.out.size (fun j hj => by cases hj; omega))
          refine ⟨ex_ext CF.out, ?_⟩
          have O6F := Lib.hid (O6.out.keep HGF.out (.inr (fun e => h56 (Option.some.inj e).symm)))
          have OPF := Lib.hid (OP.out.keepP HGF.out (fun z hz e => hk5 z hz (Option.some.inj e).symm) (fun e => hbp5 (Option.some.inj e).symm))
          obtain ⟨ou, cu, gu, hu, -⟩ := OPF.out.own.cases
          obtain ⟨lu, hlu⟩ : ∃ lu, lu = vs.length := ⟨_, rfl⟩
          rw [← hlu] at hu
          subst hu
          have HST := Lib.hid (O6F.out.store 0 (.slice ou lu cu))
          have h6c : wF.cell? ⟨p6, 0, none⟩ = some (.slice none 0 0) := O6F.out.cell (by simp)
          have h6f := O6F.out.free 0
          have h6l := O6F.out.blk.2
          clear hlu
          unfold wpAct
          (unfold wpScr; simp only [pick, List.map_cons, List.map_nil, List.getD_cons_zero, List.getD_cons_succ])
          refine ⟨?_, by unfold wpScr; trivial⟩
          unfold wpAct
          go_wp2
          have CG : Hid (Below wr.heap.size wr (wF.setCell ⟨p6, 0, none⟩ (.slice ou lu cu))) := Lib.hid (CF.out.grown HST.out.2 CF.out.size (fun j hj => by cases hj; omega))
          refine ⟨ex_ext CG.out, ?_⟩
          unfold wpAct
          unfold wpScr
          intro hz9 hz8; clear hz8 hz9
          go_wp2
          go_meet
          case rel => exact ⟨p5, p6, .slice ou lu cu, vs, rfl, rfl, by omega, by omega, by have := HF.out; exact this.keep HST.out.2 (.inr (fun e => h56 (Option.some.inj e))), HST.out.1, (OPF.out.keepP HST.out.2 (fun z hz e => hk6 z hz (Option.some.inj e).symm) (fun e => by have := Option.some.inj e; omega)).monoP (by omega), CG.out⟩
        unfold wpScr
        trivial
      (unfold wpScr; simp only [pick, List.map_cons, List.map_nil, List.getD_cons_zero, List.getD_cons_succ])
      refine ⟨?_, ?_⟩
      · unfold wpAct
        go_wp2
        have F6 := Lib.hid ((by simpa using own_lit w4 0 #[.slice none 0 0] 39 (by simp) (Nat.zero_le _) : Own (w4.alloc (.cells #[.slice none 0 0] 39)) 0 39 (.slice (some ⟨w4.heap.size, 0, none⟩) 1 1) [.slice none 0 0]))
        have B6 := Lib.hid (below_alloc w4 (.cells #[.slice none 0 0] 39))
        have C6 := Lib.hid (below_up C4.out B6.out)
        refine ⟨ex_ext C6.out, ?_⟩
        have Z6 : Hid ((w4.alloc (.cells #[.slice none 0 0] 39)).heap.size = (w4).heap.size + 1) := Lib.hid (by simp)
        obtain ⟨p6, hp6⟩ : ∃ p6, p6 = w4.heap.size := ⟨_, rfl⟩
        have HP6 := Lib.hid hp6
        rw [← hp6] at ⊢
        rw [show w4.heap.size = p6 from hp6.symm] at F6
        clear hp6
        generalize w4.alloc (.cells #[.slice none 0 0] 39) = w6 at *
        unfold wpAct
        (unfold wpScr; simp only [pick, List.map_cons, List.map_nil, List.getD_cons_zero, List.getD_cons_succ])
        refine ⟨?_, ?_⟩
        · unfold wpAct
          go_wp2
          have F5 := Lib.hid ((by simpa using own_lit w6 0 #[.int .i64 0, .int .i64 0, .int .u64 0, .int .u64 0, .int .u64 0, .int .u64 0, .int .i64 0, .int .i64 0] 100 (by simp) (Nat.zero_le _) : Own (w6.alloc (.cells #[.int .i64 0, .int .i64 0, .int .u64 0, .int .u64 0, .int .u64 0, .int .u64 0, .int .i64 0, .int .i64 0] 100)) 0 100 (.slice (some ⟨w6.heap.size, 0, none⟩) 8 8) [.int .i64 0, .int .i64 0, .int .u64 0, .int .u64 0, .int .u64 0, .int .u64 0, .int .i64 0, .int .i64 0]))
          have B5 := Lib.hid (below_alloc w6 (.cells #[.int .i64 0, .int .i64 0, .int .u64 0, .int .u64 0, .int .u64 0, .int .u64 0, .int .i64 0, .int .i64 0] 100))
          have C5 := Lib.hid (below_up C6.out B5.out)
          refine ⟨ex_ext C5.out, ?_⟩
          have Z5 : Hid ((w6.alloc (.cells #[.int .i64 0, .int .i64 0, .int .u64 0, .int .u64 0, .int .u64 0, .int .u64 0, .int .i64 0, .int .i64 0] 100)).heap.size = (w6).heap.size + 1) := Lib.hid (by simp)
          obtain ⟨p5, hp5⟩ : ∃ p5, p5 = w6.heap.size := ⟨_, rfl⟩
          have HP5 := Lib.hid hp5
          rw [← hp5] at ⊢
          rw [show w6.heap.size = p5 from hp5.symm] at F5
          clear hp5
          generalize w6.alloc (.cells #[.int .i64 0, .int .i64 0, .int .u64 0, .int .u64 0, .int .u64 0, .int .u64 0, .int .i64 0, .int .i64 0] 100) = w5 at *
          unfold wpAct
          (unfold wpScr; simp only [pick, List.map_cons, List.map_nil, List.getD_cons_zero, List.getD_cons_succ])
          refine ⟨?_, by unfold wpScr; trivial⟩
          unfold wpAct
          have hkk := HPK.out.own.lt
          have q4 := Z4.out
          have q5 := Z5.out
          have q6 := Z6.out
          have q7 := HP5.out
          have q8 := HP6.out
          have q9 : wr.drew.heap.size = wr.heap.size := rfl
          have h5r : wr.heap.size ≤ p5 := by omega
          have h6r : wr.heap.size ≤ p6 := by omega
          have O5 := Lib.hid F5.out
          have O6 := Lib.hid (F6.out.up B5.out)
          have OP := Lib.hid (((HPK.out).upP B6.out).upP B5.out)
          have h56 : p5 ≠ p6 := by omega
          have hk5 : ∀ z, u.ownBlock = some z → z ≠ p5 := fun z hz => by have := hkk z hz; omega
          have hk6 : ∀ z, u.ownBlock = some z → z ≠ p6 := fun z hz => by have := hkk z hz; omega
          have hBk : wr.heap.size ≤ wr.drew.heap.size := by omega
          have hbp5 : b ≠ p5 := by omega
          have hbp6 : b ≠ p6 := by omega
          clear q4 q5 q6 q7 q8 q9 hkk Z4 Z5 Z6 HP5 HP6
          generalize w5 = wz at *
          have CZ := C5
          go_wp2_with (refine wpList_store_agg rfl 100 _ _ rfl 0 100 p5 8 8 rfl (ndV x) rfl (by kernel_rfl) _ O5.out (Nat.le_refl 8) (ndV_one x) ?_; intro wF hF hgF; have HF := Lib.hid hF; have HGF := Lib.hid hgF; clear hF hgF)
          have CF : Hid (Below wr.heap.size wr wF) := Lib.hid (CZ.out.grown HGF.out CZ.out.size (fun j hj => by cases hj; omega))
          refine ⟨ex_ext CF.out, ?_⟩
          have O6F := Lib.hid (O6.out.keep HGF.out (.inr (fun e => h56 (Option.some.inj e).symm)))
          have OPF := Lib.hid (OP.out.keepP HGF.out (fun z hz e => hk5 z hz (Option.some.inj e).symm) (fun e => hbp5 (Option.some.inj e).symm))
          obtain ⟨ou, cu, gu, hu, -⟩ := OPF.out.own.cases
          obtain ⟨lu, hlu⟩ : ∃ lu, lu = vs.length := ⟨_, rfl⟩
          rw [← hlu] at hu
          subst hu
          have HST := Lib.hid (O6F.out.store 0 (.slice ou lu cu))
          have h6c : wF.cell? ⟨p6, 0, none⟩ = some (.slice none 0 0) := O6F.out.cell (by simp)
          have h6f := O6F.out.free 0
          have h6l := O6F.out.blk.2
          clear hlu
          unfold wpAct
          (unfold wpScr; simp only [pick, List.map_cons, List.map_nil, List.getD_cons_zero, List.getD_cons_succ])
          refine ⟨?_, by unfold wpScr; trivial⟩
          unfold wpAct
          go_wp2
          have CG : Hid (Below wr.heap.size wr (wF.setCell ⟨p6, 0, none⟩ (.slice ou lu cu))) := Lib.hid (CF.out.grown HST.out.2 CF.out.size (fun j hj => by cases hj; omega))
          refine ⟨ex_ext CG.out, ?_⟩
          unfold wpAct
          unfold wpScr
          intro hz9 hz8; clear hz8 hz9
          go_wp2
          go_meet
          case rel => exact ⟨p5, p6, .slice ou lu cu, vs, rfl, rfl, by omega, by omega, by have := HF.out; exact this.keep HST.out.2 (.inr (fun e => h56 (Option.some.inj e))), HST.out.1, (OPF.out.keepP HST.out.2 (fun z hz e => hk6 z hz (Option.some.inj e).symm) (fun e => by have := Option.some.inj e; omega)).monoP (by omega), CG.out⟩
        unfold wpScr
        trivial
      unfold wpScr
      trivial
    (unfold wpScr; simp only [pick, List.map_cons, List.map_nil, List.getD_cons_zero, List.getD_cons_succ])
    refine ⟨?_, ?_⟩
    · unfold wpAct
      go_wp2
      have F5 := Lib.hid ((by simpa using own_lit wr 0 #[.int .i64 0, .int .i64 0, .int .u64 0, .int .u64 0, .int .u64 0, .int .u64 0, .int .i64 0, .int .i64 0] 100 (by simp) (Nat.zero_le _) : Own (wr.alloc (.cells #[.int .i64 0, .int .i64 0, .int .u64 0, .int .u64 0, .int .u64 0, .int .u64 0, .int .i64 0, .int .i64 0] 100)) 0 100 (.slice (some ⟨wr.heap.size, 0, none⟩) 8 8) [.int .i64 0, .int .i64 0, .int .u64 0, .int .u64 0, .int .u64 0, .int .u64 0, .int .i64 0, .int .i64 0]).up (drew_b _))
      have C5 : Hid (Below wr.heap.size wr ((wr.alloc (.cells #[.int .i64 0, .int .i64 0, .int .u64 0, .int .u64 0, .int .u64 0, .int .u64 0, .int .i64 0, .int .i64 0] 100)).drew)) := Lib.hid (b_drew1 (below_alloc wr _))
      refine ⟨ex_ext C5.out, ?_⟩
      have Z5 : Hid (((wr.alloc (.cells #[.int .i64 0, .int .i64 0, .int .u64 0, .int .u64 0, .int .u64 0, .int .u64 0, .int .i64 0, .int .i64 0] 100)).drew).heap.size = (wr.drew).heap.size + 1) := Lib.hid (by simp)
      obtain ⟨p5, hp5⟩ : ∃ p5, p5 = wr.heap.size := ⟨_, rfl⟩
      have HP5 := Lib.hid hp5
      rw [← hp5] at ⊢
      rw [show wr.heap.size = p5 from hp5.symm] at F5
      clear hp5
      generalize (wr.alloc (.cells #[.int .i64 0, .int .i64 0, .int .u64 0, .int .u64 0, .int .u64 0, .int .u64 0, .int .i64 0, .int .i64 0] 100)).drew = w5 at *
      unfold wpAct
      (unfold wpScr; simp only [pick, List.map_cons, List.map_nil, List.getD_cons_zero, List.getD_cons_succ])
      refine ⟨?_, ?_⟩
      · unfold wpAct
        go_wp2_with ((with_reducible go_at_call 55); refine (kidsP (HNA.out.up C5.out) h400 HXN.out HWK.out).mono ?_; rintro en w4 ⟨u, vs, rfl, hP, hbK⟩; have HPK := Lib.hid hP; have B4 := Lib.hid hbK; have C4 := Lib.hid (below_up C5.out hbK); have Z4 := Lib.hid hbK.size; clear hP hbK)
        refine ⟨ex_ext C4.out, ?_⟩
        unfold wpAct
        (unfold wpScr; simp only [pick, List.map_cons, List.map_nil, List.getD_cons_zero, List.getD_cons_succ])
        refine ⟨?_, ?_⟩
        · unfold wpAct
          go_wp2
          have F6 := Lib.hid ((by simpa using own_lit w4 0 #[.slice none 0 0] 39 (by simp) (Nat.zero_le _) : Own (w4.alloc (.cells #[.slice none 0 0] 39)) 0 39 (.slice (some ⟨w4.heap.size, 0, none⟩) 1 1) [.slice none 0 0]))
          have B6 := Lib.hid (below_alloc w4 (.cells #[.slice none 0 0] 39))
          have C6 := Lib.hid (below_up C4.out B6.out)
          refine ⟨ex_ext C6.out, ?_⟩
          have Z6 : Hid ((w4.alloc (.cells #[.slice none 0 0] 39)).heap.size = (w4).heap.size + 1) := Lib.hid (by simp)
          obtain ⟨p6, hp6⟩ : ∃ p6, p6 = w4.heap.size := ⟨_, rfl⟩
          have HP6 := Lib.hid hp6
          rw [← hp6] at ⊢
          rw [show w4.heap.size = p6 from hp6.symm] at F6
          clear hp6
          generalize w4.alloc (.cells #[.slice none 0 0] 39) = w6 at *
          unfold wpAct
          (unfold wpScr; simp only [pick, List.map_cons, List.map_nil, List.getD_cons_zero, List.getD_cons_succ])
          refine ⟨?_, by unfold wpScr; trivial⟩
          unfold wpAct
          have hkk := HPK.out.own.lt
          have q4 := Z4.out
          have q5 := Z5.out
          have q6 := Z6.out
          have q7 := HP5.out
          have q8 := HP6.out
          have q9 : wr.drew.heap.size = wr.heap.size := rfl
          have h5r : wr.heap.size ≤ p5 := by omega
          have h6r : wr.heap.size ≤ p6 := by omega
          have O5 := Lib.hid ((F5.out.up B4.out).up B6.out)
          have O6 := Lib.hid F6.out
          have OP := Lib.hid ((HPK.out).upP B6.out)
          have h56 : p5 ≠ p6 := by omega
          have hk5 : ∀ z, u.ownBlock = some z → z ≠ p5 := fun z hz => by have := hkk z hz; omega
          have hk6 : ∀ z, u.ownBlock = some z → z ≠ p6 := fun z hz => by have := hkk z hz; omega
          have hBk : wr.heap.size ≤ w5.heap.size := by omega
          have hbp5 : b ≠ p5 := by omega
          have hbp6 : b ≠ p6 := by omega
          clear q4 q5 q6 q7 q8 q9 hkk Z4 Z5 Z6 HP5 HP6
          generalize w6 = wz at *
          have CZ := C6
          go_wp2_with (refine wpList_store_agg rfl 100 _ _ rfl 0 100 p5 8 8 rfl (ndV x) rfl (by kernel_rfl) _ O5.out (Nat.le_refl 8) (ndV_one x) ?_; intro wF hF hgF; have HF := Lib.hid hF; have HGF := Lib.hid hgF; clear hF hgF)
          have CF : Hid (Below wr.heap.size wr wF) := Lib.hid (CZ.out.grown HGF.out CZ.out.size (fun j hj => by cases hj; omega))
          refine ⟨ex_ext CF.out, ?_⟩
          have O6F := Lib.hid (O6.out.keep HGF.out (.inr (fun e => h56 (Option.some.inj e).symm)))
          have OPF := Lib.hid (OP.out.keepP HGF.out (fun z hz e => hk5 z hz (Option.some.inj e).symm) (fun e => hbp5 (Option.some.inj e).symm))
          obtain ⟨ou, cu, gu, hu, -⟩ := OPF.out.own.cases
          obtain ⟨lu, hlu⟩ : ∃ lu, lu = vs.length := ⟨_, rfl⟩
          rw [← hlu] at hu
          subst hu
          have HST := Lib.hid (O6F.out.store 0 (.slice ou lu cu))
          have h6c : wF.cell? ⟨p6, 0, none⟩ = some (.slice none 0 0) := O6F.out.cell (by simp)
          have h6f := O6F.out.free 0
          have h6l := O6F.out.blk.2
          clear hlu
          unfold wpAct
          (unfold wpScr; simp only [pick, List.map_cons, List.map_nil, List.getD_cons_zero, List.getD_cons_succ])
          refine ⟨?_, by unfold wpScr; trivial⟩
          unfold wpAct
          go_wp2
          have CG : Hid (Below wr.heap.size wr (wF.setCell ⟨p6, 0, none⟩ (.slice ou lu cu))) := Lib.hid (CF.out.grown HST.out.2 CF.out.size (fun j hj => by cases hj; omega))
          refine ⟨ex_ext CG.out, ?_⟩
          unfold wpAct
          unfold wpScr
          intro hz9 hz8; clear hz8 hz9
          go_wp2
          go_meet
          case rel => exact ⟨p5, p6, .slice ou lu cu, vs, rfl, rfl, by omega, by omega, by have := HF.out; exact this.keep HST.out.2 (.inr (fun e => h56 (Option.some.inj e))), HST.out.1, (OPF.out.keepP HST.out.2 (fun z hz e => hk6 z hz (Option.some.inj e).symm) (fun e => by have := Option.some.inj e; omega)).monoP (by omega), CG.out⟩
        unfold wpScr
        trivial
      (unfold wpScr; simp only [pick, List.map_cons, List.map_nil, List.getD_cons_zero, List.getD_cons_succ])
      refine ⟨?_, ?_⟩
      · unfold wpAct
        go_wp2
        have F6 := Lib.hid ((by simpa using own_lit w5 0 #[.slice none 0 0] 39 (by simp) (Nat.zero_le _) : Own (w5.alloc (.cells #[.slice none 0 0] 39)) 0 39 (.slice (some ⟨w5.heap.size, 0, none⟩) 1 1) [.slice none 0 0]))
        have B6 := Lib.hid (below_alloc w5 (.cells #[.slice none 0 0] 39))
        have C6 := Lib.hid (below_up C5.out B6.out)
        refine ⟨ex_ext C6.out, ?_⟩
        have Z6 : Hid ((w5.alloc (.cells #[.slice none 0 0] 39)).heap.size = (w5).heap.size + 1) := Lib.hid (by simp)
        obtain ⟨p6, hp6⟩ : ∃ p6, p6 = w5.heap.size := ⟨_, rfl⟩
        have HP6 := Lib.hid hp6
        rw [← hp6] at ⊢
        rw [show w5.heap.size = p6 from hp6.symm] at F6
        clear hp6
        generalize w5.alloc (.cells #[.slice none 0 0] 39) = w6 at *
        unfold wpAct
        (unfold wpScr; simp only [pick, List.map_cons, List.map_nil, List.getD_cons_zero, List.getD_cons_succ])
        refine ⟨?_, ?_⟩
        · unfold wpAct
          go_wp2_with ((with_reducible go_at_call 55); refine (kidsP (HNA.out.up C6.out) h400 HXN.out HWK.out).mono ?_; rintro en w4 ⟨u, vs, rfl, hP, hbK⟩; have HPK := Lib.hid hP; have B4 := Lib.hid hbK; have C4 := Lib.hid (below_up C6.out hbK); have Z4 := Lib.hid hbK.size; clear hP hbK)
          refine ⟨ex_ext C4.out, ?_⟩
          unfold wpAct
          (unfold wpScr; simp only [pick, List.map_cons, List.map_nil, List.getD_cons_zero, List.getD_cons_succ])
          refine ⟨?_, by unfold wpScr; trivial⟩
          unfold wpAct
          have hkk := HPK.out.own.lt
          have q4 := Z4.out
          have q5 := Z5.out
          have q6 := Z6.out
          have q7 := HP5.out
          have q8 := HP6.out
          have q9 : wr.drew.heap.size = wr.heap.size := rfl
          have h5r : wr.heap.size ≤ p5 := by omega
          have h6r : wr.heap.size ≤ p6 := by omega
          have O5 := Lib.hid ((F5.out.up B6.out).up B4.out)
          have O6 := Lib.hid (F6.out.up B4.out)
          have OP := Lib.hid (HPK.out)
          have h56 : p5 ≠ p6 := by omega
          have hk5 : ∀ z, u.ownBlock = some z → z ≠ p5 := fun z hz => by have := hkk z hz; omega
          have hk6 : ∀ z, u.ownBlock = some z → z ≠ p6 := fun z hz => by have := hkk z hz; omega
          have hBk : wr.heap.size ≤ w6.heap.size := by omega
          have hbp5 : b ≠ p5 := by omega
          have hbp6 : b ≠ p6 := by omega
          clear q4 q5 q6 q7 q8 q9 hkk Z4 Z5 Z6 HP5 HP6
          generalize w4 = wz at *
          have CZ := C4
          go_wp2_with (refine wpList_store_agg rfl 100 _ _ rfl 0 100 p5 8 8 rfl (ndV x) rfl (by kernel_rfl) _ O5.out (Nat.le_refl 8) (ndV_one x) ?_; intro wF hF hgF; have HF := Lib.hid hF; have HGF := Lib.hid hgF; clear hF hgF)
          have CF : Hid (Below wr.heap.size wr wF) := Lib.hid (CZ.out.grown HGF.out CZ.out.size (fun j hj => by cases hj; omega))
          refine ⟨ex_ext CF.out, ?_⟩
          have O6F := Lib.hid (O6.out.keep HGF.out (.inr (fun e => h56 (Option.some.inj e).symm)))
          have OPF := Lib.hid (OP.out.keepP HGF.out (fun z hz e => hk5 z hz (Option.some.inj e).symm) (fun e => hbp5 (Option.some.inj e).symm))
          obtain ⟨ou, cu, gu, hu, -⟩ := OPF.out.own.cases
          obtain ⟨lu, hlu⟩ : ∃ lu, lu = vs.length := ⟨_, rfl⟩
          rw [← hlu] at hu
          subst hu
          have HST := Lib.hid (O6F.out.store 0 (.slice ou lu cu))
          have h6c : wF.cell? ⟨p6, 0, none⟩ = some (.slice none 0 0) := O6F.out.cell (by simp)
          have h6f := O6F.out.free 0
          have h6l := O6F.out.blk.2
          clear hlu
          unfold wpAct
          (unfold wpScr; simp only [pick, List.map_cons, List.map_nil, List.getD_cons_zero, List.getD_cons_succ])
          refine ⟨?_, by unfold wpScr; trivial⟩
          unfold wpAct
          go_wp2
          have CG : Hid (Below wr.heap.size wr (wF.setCell ⟨p6, 0, none⟩ (.slice ou lu cu))) := Lib.hid (CF.out.grown HST.out.2 CF.out.size (fun j hj => by cases hj; omega))
          refine ⟨ex_ext CG.out, ?_⟩
          unfold wpAct
          unfold wpScr
          intro hz9 hz8; clear hz8 hz9
          go_wp2
          go_meet
          case rel => exact ⟨p5, p6, .slice ou lu cu, vs, rfl, rfl, by omega, by omega, by have := HF.out; exact this.keep HST.out.2 (.inr (fun e => h56 (Option.some.inj e))), HST.out.1, (OPF.out.keepP HST.out.2 (fun z hz e => hk6 z hz (Option.some.inj e).symm) (fun e => by have := Option.some.inj e; omega)).monoP (by omega), CG.out⟩
        unfold wpScr
        trivial
      unfold wpScr
      trivial
    (unfold wpScr; simp only [pick, List.map_cons, List.map_nil, List.getD_cons_zero, List.getD_cons_succ])
    refine ⟨?_, ?_⟩
    · unfold wpAct
      go_wp2
      have F6 := Lib.hid ((by simpa using own_lit wr 0 #[.slice none 0 0] 39 (by simp) (Nat.zero_le _) : Own (wr.alloc (.cells #[.slice none 0 0] 39)) 0 39 (.slice (some ⟨wr.heap.size, 0, none⟩) 1 1) [.slice none 0 0]).up (drew_b _))
      have C6 : Hid (Below wr.heap.size wr ((wr.alloc (.cells #[.slice none 0 0] 39)).drew)) := Lib.hid (b_drew1 (below_alloc wr _))
      refine ⟨ex_ext C6.out, ?_⟩
      have Z6 : Hid (((wr.alloc (.cells #[.slice none 0 0] 39)).drew).heap.size = (wr.drew).heap.size + 1) := Lib.hid (by simp)
      obtain ⟨p6, hp6⟩ : ∃ p6, p6 = wr.heap.size := ⟨_, rfl⟩
      have HP6 := Lib.hid hp6
      rw [← hp6] at ⊢
      rw [show wr.heap.size = p6 from hp6.symm] at F6
      clear hp6
      generalize (wr.alloc (.cells #[.slice none 0 0] 39)).drew = w6 at *
      unfold wpAct
      (unfold wpScr; simp only [pick, List.map_cons, List.map_nil, List.getD_cons_zero, List.getD_cons_succ])
      refine ⟨?_, ?_⟩
      · unfold wpAct
        go_wp2_with ((with_reducible go_at_call 55); refine (kidsP (HNA.out.up C6.out) h400 HXN.out HWK.out).mono ?_; rintro en w4 ⟨u, vs, rfl, hP, hbK⟩; have HPK := Lib.hid hP; have B4 := Lib.hid hbK; have C4 := Lib.hid (below_up C6.out hbK); have Z4 := Lib.hid hbK.size; clear hP hbK)
        refine ⟨ex_ext C4.out, ?_⟩
        unfold wpAct
        (unfold wpScr; simp only [pick, List.map_cons, List.map_nil, List.getD_cons_zero, List.getD_cons_succ])
        refine ⟨?_, ?_⟩
        · unfold wpAct
          go_wp2
          have F5 := Lib.hid ((by simpa using own_lit w4 0 #[.int .i64 0, .int .i64 0, .int .u64 0, .int .u64 0, .int .u64 0, .int .u64 0, .int .i64 0, .int .i64 0] 100 (by simp) (Nat.zero_le _) : Own (w4.alloc (.cells #[.int .i64 0, .int .i64 0, .int .u64 0, .int .u64 0, .int .u64 0, .int .u64 0, .int .i64 0, .int .i64 0] 100)) 0 100 (.slice (some ⟨w4.heap.size, 0, none⟩) 8 8) [.int .i64 0, .int .i64 0, .int .u64 0, .int .u64 0, .int .u64 0, .int .u64 0, .int .i64 0, .int .i64 0]))
          have B5 := Lib.hid (below_alloc w4 (.cells #[.int .i64 0, .int .i64 0, .int .u64 0, .int .u64 0, .int .u64 0, .int .u64 0, .int .i64 0, .int .i64 0] 100))
          have C5 := Lib.hid (below_up C4.out B5.out)
          refine ⟨ex_ext C5.out, ?_⟩
          have Z5 : Hid ((w4.alloc (.cells #[.int .i64 0, .int .i64 0, .int .u64 0, .int .u64 0, .int .u64 0, .int .u64 0, .int .i64 0, .int .i64 0] 100)).heap.size = (w4).heap.size + 1) := Lib.hid (by simp)
          obtain ⟨p5, hp5⟩ : ∃ p5, p5 = w4.heap.size := ⟨_, rfl⟩
          have HP5 := Lib.hid hp5
          rw [← hp5] at ⊢
          rw [show w4.heap.size = p5 from hp5.symm] at F5
          clear hp5
          generalize w4.alloc (.cells #[.int .i64 0, .int .i64 0, .int .u64 0, .int .u64 0, .int .u64 0, .int .u64 0, .int .i64 0, .int .i64 0] 100) = w5 at *
          unfold wpAct
          (unfold wpScr; simp only [pick, List.map_cons, List.map_nil, List.getD_cons_zero, List.getD_cons_succ])
          refine ⟨?_, by unfold wpScr; trivial⟩
          unfold wpAct
          have hkk := HPK.out.own.lt
          have q4 := Z4.out
          have q5 := Z5.out
          have q6 := Z6.out
          have q7 := HP5.out
          have q8 := HP6.out
          have q9 : wr.drew.heap.size = wr.heap.size := rfl
          have h5r : wr.heap.size ≤ p5 := by omega
          have h6r : wr.heap.size ≤ p6 := by omega
          have O5 := Lib.hid F5.out
          have O6 := Lib.hid ((F6.out.up B4.out).up B5.out)
          have OP := Lib.hid ((HPK.out).upP B5.out)
          have h56 : p5 ≠ p6 := by omega
          have hk5 : ∀ z, u.ownBlock = some z → z ≠ p5 := fun z hz => by have := hkk z hz; omega
          have hk6 : ∀ z, u.ownBlock = some z → z ≠ p6 := fun z hz => by have := hkk z hz; omega
          have hBk : wr.heap.size ≤ w6.heap.size := by omega
          have hbp5 : b ≠ p5 := by omega
          have hbp6 : b ≠ p6 := by omega
          clear q4 q5 q6 q7 q8 q9 hkk Z4 Z5 Z6 HP5 HP6
          generalize w5 = wz at *
          have CZ := C5
          go_wp2_with (refine wpList_store_agg rfl 100 _ _ rfl 0 100 p5 8 8 rfl (ndV x) rfl (by kernel_rfl) _ O5.out (Nat.le_refl 8) (ndV_one x) ?_; intro wF hF hgF; have HF := Lib.hid hF; have HGF := Lib.hid hgF; clear hF hgF)
          have CF : Hid (Below wr.heap.size wr wF) := Lib.hid (CZ.out.grown HGF.out CZ.out.size (fun j hj => by cases hj; omega))
          refine ⟨ex_ext CF.out, ?_⟩
          have O6F := Lib.hid (O6.out.keep HGF.out (.inr (fun e => h56 (Option.some.inj e).symm)))
          have OPF := Lib.hid (OP.out.keepP HGF.out (fun z hz e => hk5 z hz (Option.some.inj e).symm) (fun e => hbp5 (Option.some.inj e).symm))
          obtain ⟨ou, cu, gu, hu, -⟩ := OPF.out.own.cases
          obtain ⟨lu, hlu⟩ : ∃ lu, lu = vs.length := ⟨_, rfl⟩
          rw [← hlu] at hu
          subst hu
          have HST := Lib.hid (O6F.out.store 0 (.slice ou lu cu))
          have h6c : wF.cell? ⟨p6, 0, none⟩ = some (.slice none 0 0) := O6F.out.cell (by simp)
          have h6f := O6F.out.free 0
          have h6l := O6F.out.blk.2
          clear hlu
          unfold wpAct
          (unfold wpScr; simp only [pick, List.map_cons, List.map_nil, List.getD_cons_zero, List.getD_cons_succ])
          refine ⟨?_, by unfold wpScr; trivial⟩
          unfold wpAct
          go_wp2
          have CG : Hid (Below wr.heap.size wr (wF.setCell ⟨p6, 0, none⟩ (.slice ou lu cu))) := Lib.hid (CF.out.grown HST.out.2 CF.out.size (fun j hj => by cases hj; omega))
          refine ⟨ex_ext CG.out, ?_⟩
          unfold wpAct
          unfold wpScr
          intro hz9 hz8; clear hz8 hz9
          go_wp2
          go_meet
          case rel => exact ⟨p5, p6, .slice ou lu cu, vs, rfl, rfl, by omega, by omega, by have := HF.out; exact this.keep HST.out.2 (.inr (fun e => h56 (Option.some.inj e))), HST.out.1, (OPF.out.keepP HST.out.2 (fun z hz e => hk6 z hz (Option.some.inj e).symm) (fun e => by have := Option.some.inj e; omega)).monoP (by omega), CG.out⟩
        unfold wpScr
        trivial
      (unfold wpScr; simp only [pick, List.map_cons, List.map_nil, List.getD_cons_zero, List.getD_cons_succ])
      refine ⟨?_, ?_⟩
      · unfold wpAct
        go_wp2
        have F5 := Lib.hid ((by simpa using own_lit w6 0 #[.int .i64 0, .int .i64 0, .int .u64 0, .int .u64 0, .int .u64 0, .int .u64 0, .int .i64 0, .int .i64 0] 100 (by simp) (Nat.zero_le _) : Own (w6.alloc (.cells #[.int .i64 0, .int .i64 0, .int .u64 0, .int .u64 0, .int .u64 0, .int .u64 0, .int .i64 0, .int .i64 0] 100)) 0 100 (.slice (some ⟨w6.heap.size, 0, none⟩) 8 8) [.int .i64 0, .int .i64 0, .int .u64 0, .int .u64 0, .int .u64 0, .int .u64 0, .int .i64 0, .int .i64 0]))
        have B5 := Lib.hid (below_alloc w6 (.cells #[.int .i64 0, .int .i64 0, .int .u64 0, .int .u64 0, .int .u64 0, .int .u64 0, .int .i64 0, .int .i64 0] 100))
        have C5 := Lib.hid (below_up C6.out B5.out)
        refine ⟨ex_ext C5.out, ?_⟩
        have Z5 : Hid ((w6.alloc (.cells #[.int .i64 0, .int .i64 0, .int .u64 0, .int .u64 0, .int .u64 0, .int .u64 0, .int .i64 0, .int .i64 0] 100)).heap.size = (w6).heap.size + 1) := Lib.hid (by simp)
        obtain ⟨p5, hp5⟩ : ∃ p5, p5 = w6.heap.size := ⟨_, rfl⟩
        have HP5 := Lib.hid hp5
        rw [← hp5] at ⊢
        rw [show w6.heap.size = p5 from hp5.symm] at F5
        clear hp5
        generalize w6.alloc (.cells #[.int .i64 0, .int .i64 0, .int .u64 0, .int .u64 0, .int .u64 0, .int .u64 0, .int .i64 0, .int .i64 0] 100) = w5 at *
        unfold wpAct
        (unfold wpScr; simp only [pick, List.map_cons, List.map_nil, List.getD_cons_zero, List.getD_cons_succ])
        refine ⟨?_, ?_⟩
        · unfold wpAct
          go_wp2_with ((with_reducible go_at_call 55); refine (kidsP (HNA.out.up C5.out) h400 HXN.out HWK.out).mono ?_; rintro en w4 ⟨u, vs, rfl, hP, hbK⟩; have HPK := Lib.hid hP; have B4 := Lib.hid hbK; have C4 := Lib.hid (below_up C5.out hbK); have Z4 := Lib.hid hbK.size; clear hP hbK)
          refine ⟨ex_ext C4.out, ?_⟩
          unfold wpAct
          (unfold wpScr; simp only [pick, List.map_cons, List.map_nil, List.getD_cons_zero, List.getD_cons_succ])
          refine ⟨?_, by unfold wpScr; trivial⟩
          unfold wpAct
          have hkk := HPK.out.own.lt
          have q4 := Z4.out
          have q5 := Z5.out
          have q6 := Z6.out
          have q7 := HP5.out
          have q8 := HP6.out
          have q9 : wr.drew.heap.size = wr.heap.size := rfl
          have h5r : wr.heap.size ≤ p5 := by omega
          have h6r : wr.heap.size ≤ p6 := by omega
          have O5 := Lib.hid (F5.out.up B4.out)
          have O6 := Lib.hid ((F6.out.up B5.out).up B4.out)
          have OP := Lib.hid (HPK.out)
          have h56 : p5 ≠ p6 := by omega
          have hk5 : ∀ z, u.ownBlock = some z → z ≠ p5 := fun z hz => by have := hkk z hz; omega
          have hk6 : ∀ z, u.ownBlock = some z → z ≠ p6 := fun z hz => by have := hkk z hz; omega
          have hBk : wr.heap.size ≤ w5.heap.size := by omega
          have hbp5 : b ≠ p5 := by omega
          have hbp6 : b ≠ p6 := by omega
          clear q4 q5 q6 q7 q8 q9 hkk Z4 Z5 Z6 HP5 HP6
          generalize w4 = wz at *
          have CZ := C4
          go_wp2_with (refine wpList_store_agg rfl 100 _ _ rfl 0 100 p5 8 8 rfl (ndV x) rfl (by kernel_rfl) _ O5.out (Nat.le_refl 8) (ndV_one x) ?_; intro wF hF hgF; have HF := Lib.hid hF; have HGF := Lib.hid hgF; clear hF hgF)
          have CF : Hid (Below wr.heap.size wr wF) := Lib.hid (CZ.out.grown HGF.out CZ.out.size (fun j hj => by cases hj; omega))
          refine ⟨ex_ext CF.out, ?_⟩
          have O6F := Lib.hid (O6.out.keep HGF.out (.inr (fun e => h56 (Option.some.inj e).symm)))
          have OPF := Lib.hid (OP.out.keepP HGF.out (fun z hz e => hk5 z hz (Option.some.inj e).symm) (fun e => hbp5 (Option.some.inj e).symm))
          obtain ⟨ou, cu, gu, hu, -⟩ := OPF.out.own.cases
          obtain ⟨lu, hlu⟩ : ∃ lu, lu = vs.length := ⟨_, rfl⟩
          rw [← hlu] at hu
          subst hu
          have HST := Lib.hid (O6F.out.store 0 (.slice ou lu cu))
          have h6c : wF.cell? ⟨p6, 0, none⟩ = some (.slice none 0 0) := O6F.out.cell (by simp)
          have h6f := O6F.out.free 0
          have h6l := O6F.out.blk.2
          clear hlu
          unfold wpAct
          (unfold wpScr; simp only [pick, List.map_cons, List.map_nil, List.getD_cons_zero, List.getD_cons_succ])
          refine ⟨?_, by unfold wpScr; trivial⟩
          unfold wpAct
          go_wp2
          have CG : Hid (Below wr.heap.size wr (wF.setCell ⟨p6, 0, none⟩ (.slice ou lu cu))) := Lib.hid (CF.out.grown HST.out.2 CF.out.size (fun j hj => by cases hj; omega))
          refine ⟨ex_ext CG.out, ?_⟩
          unfold wpAct
          unfold wpScr
          intro hz9 hz8; clear hz8 hz9
          go_wp2
          go_meet
          case rel => exact ⟨p5, p6, .slice ou lu cu, vs, rfl, rfl, by omega, by omega, by have := HF.out; exact this.keep HST.out.2 (.inr (fun e => h56 (Option.some.inj e))), HST.out.1, (OPF.out.keepP HST.out.2 (fun z hz e => hk6 z hz (Option.some.inj e).symm) (fun e => by have := Option.some.inj e; omega)).monoP (by omega), CG.out⟩
        unfold wpScr
        trivial
      unfold wpScr
      trivial
    unfold wpScr
    trivial
  case rest =>
    obtain ⟨p5, p6, u, vs, rfl, rfl, h5r, h6r, hn5, hn6, hpt, hbel⟩ := hcut
    have HM0 := Lib.hid (HMA.out.up hbel)
    have HG0 := Lib.hid (HGA.out.up hbel)
    have HF0 := Lib.hid (HFA.out.up hbel)
    have P40 := Lib.hid (HPA.out.up hbel)
    have hn5S := HMA.out.no h5r
    have hn6S := HMA.out.no h6r
    have HX0 : Hid (FixC wc S p5 (ndV x)) := Lib.hid ⟨fun i hi => by rw [hn5.cell (by simpa [ndC] using hi), ndC_get]; rfl, hn5.blk.2, hn5S⟩
    have H60 : Hid (FixC wc S p6 #[u]) := Lib.hid ⟨fun i hi => by
      obtain rfl : i = 0 := by simpa using hi
      exact hn6.cell (by simp), hn6.blk.2, hn6S⟩
    have HPT := Lib.hid hpt
    have HBE := Lib.hid hbel
    have HMR := HMA
    have hszc := hbel.size
    have hwsz : w.heap.size + 2 ≤ wr.heap.size := by omega
    clear HMA HGA HNA HFA HPA hn5 hn6 hpt hbel hn5S hn6S
    obtain ⟨xk, xn, xa, xb, xc, xd, xl, xh⟩ := x
    have hkd := HKD.out
    try simp only at hkd
    rcases hkd with h | h | h | h | h | h | h | h
    all_goals subst h
    case inl =>
      have HZ2 : Hid (Z = (aroundP s, leafS ⟨1, xn, xa, xb, xc, xd, xl, xh⟩ s)) := Lib.hid (by rw [HZ.out]; simp [nodeS])
      have hn2 : n = s.e.length := by rw [HN.out, HZ2.out]; rfl
      have hm2 : m = s.e.length + 1 := by rw [HMM.out, HZ2.out]; rfl
      obtain ⟨hb1, hb2, hb3⟩ := HB.out
      simp only [unodeN] at hb1 hb2
      have HAR := Lib.hid (aroundM HM0.out (by omega) (by omega) n m hn2 hm2)
      have HN2 := Lib.hid hn2
      have HM2E := Lib.hid hm2
      have hnb : n ≤ 4000 := by omega
      have hmb : m ≤ 4001 := by omega
      clear hn2 hm2
      have hkc : wc.cell? ⟨p5, 0, none⟩ = some (.int .i64 1) := HX0.out.c 0 (show 0 < 8 by decide)
      have hkl := HX0.out.lt
      have hac : wc.cell? ⟨w.heap.size, 0, none⟩ = some (.pointer (some ⟨g, 0, none⟩)) := HF0.out.c 0 (show 0 < 1 by decide)
      have hal := HF0.out.lt
      go_wp2_with ((with_reducible go_at_call 56); refine HAR.out.mono ?_; rintro en w1 ⟨rfl, S1, hm1, hg1⟩; have HM1 := Lib.hid hm1; have HG1 := Lib.hid (HG0.out.trans hg1); have HF1 := Lib.hid (HF0.out.gw hg1); have HX1 := Lib.hid (HX0.out.gw hg1); have P41 := Lib.hid (P40.out.gw hg1); (have hsz1 := hg1.size); clear hm1 hg1)
      have HM2 := Lib.hid (HM1.out.up (below_alloc w1 (.cells #[.int .i64 n, .int .i64 m] 82)))
      have HG2 := Lib.hid (HG1.out.up (below_alloc w1 (.cells #[.int .i64 n, .int .i64 m] 82)))
      have HF2 := Lib.hid (HF1.out.up (below_alloc w1 (.cells #[.int .i64 n, .int .i64 m] 82)))
      have HX2 := Lib.hid (HX1.out.up (below_alloc w1 (.cells #[.int .i64 n, .int .i64 m] 82)))
      have P42 := Lib.hid (P41.out.up (below_alloc w1 (.cells #[.int .i64 n, .int .i64 m] 82)))
      have P72 : Hid (LB (w1.alloc (.cells #[.int .i64 n, .int .i64 m] 82)) S1 w1.heap.size n m) := Lib.hid ⟨pcB_new w1 n m, HM1.out.no (Nat.le_refl _)⟩
      clear HM1 HG1 HF1 HX1 P41 HM0 HG0 HF0 HX0 P40 hkc hkl hac hal HAR
      generalize w1.heap.size = p7 at *
      generalize w1.alloc (.cells #[.int .i64 n, .int .i64 m] 82) = w2 at *
      obtain ⟨ve, vz, vr, hmk, hS1⟩ := HM2.out
      have hvl := hmk.len
      have htl := two_len s
      rw [htl] at hvl
      have hn2 := HN2.out
      obtain ⟨oa, cap, ge, rfl, hdo, -, hco, hfo, -⟩ := hmk.outer.cases
      have hoa := hdo.hat (by omega)
      subst hoa
      have hix := fun (W : World) => index_any (P := Try.prog) 22 85 Try.underlying22 (by kernel_rfl) hdo W .i64 n (by omega) (by omega)
      simp only [Int.toNat_natCast, Nat.zero_add] at hix
      have hcr := hco n (by omega)
      have hfr := hfo n (by omega)
      have hgel := hdo.hblk (by omega)
      have hc0 := hmk.c0
      have hg2 := hmk.lt
      have hac : w2.cell? ⟨w.heap.size, 0, none⟩ = some (.pointer (some ⟨g, 0, none⟩)) := HF2.out.c 0 (show 0 < 1 by decide)
      have hal := HF2.out.lt
      have hk0 : w2.cell? ⟨p5, 0, none⟩ = some (.int .i64 1) := HX2.out.c 0 (show 0 < 8 by decide)
      have hkl := HX2.out.lt
      have P7a := P72.out.box.c0
      have P7b := P72.out.box.c1
      have P7l := P72.out.box.lt
      have HSC : Hid (∀ w', (∃ y, w' = ext w2 y) → ∀ c, c < 4 → w'.cell? ⟨p5, 2 + c, none⟩ = some ((#[.int .u64 xa, .int .u64 xb, .int .u64 xc, .int .u64 xd] : Array Value).getD c undef)) := Lib.hid (by
        rintro w' ⟨y, rfl⟩ c hcl
        rw [cell?_ext _ _ _ _ hkl]
        have := HX2.out.c (2 + c) (show 2 + c < 8 by omega)
        rw [this]
        rcases (show c = 0 ∨ c = 1 ∨ c = 2 ∨ c = 3 by omega) with rfl | rfl | rfl | rfl <;> rfl)
      have HMK := Lib.hid hmk
      have hvz : vz.length ≤ 10000 := by omega
      have HVN : Hid (n < (two s).e.length) := Lib.hid (by omega)
      have hlW : Below w2.heap.size w2 (w2.alloc (.cells #[.int .i64 m, .bool false, .int .u64 xa, .int .u64 xb, .int .u64 xc, .int .u64 xd] 92)).drew := (by repeat (first | exact Below.refl _ _ | assumption | refine b_drewN ?_ _ | refine Below.drew ?_ | refine b_ext' ?_ _ | refine b_alloc' ?_ _))
      have HX := Lib.hid ((ownK_lit 6 w2 0 #[.int .i64 m, .bool false, .int .u64 xa, .int .u64 xb, .int .u64 xc, .int .u64 xd] 92 ([⟨m, false, xa, xb, xc, xd⟩].map edC) (by simp [edC]) (edC_len _) (by simp) (Nat.zero_le _)).up (drew_b _))
      have HLW := Lib.hid hlW
      have hlz : vz.length = n + 2 := by omega
      rw [hlz] at hix HMK hvz hc0 hS1
      clear hmk hdo hco hfo hvl htl hlW hn2 hlz
      go_wp2
      refine wp_region_tailg [0,1,2,3,4,5,6,7,8,9,10,11,12,13,14] [15,16] [17] (by kernel_rfl) (by kernel_rfl) ?_
      simp only [pick, List.map_cons, List.map_nil, List.getD_cons_zero, List.getD_cons_succ]
      repeat (first | (go_big_quiet_want; refine quiet_load_cells 55 4 _ rfl p5 2 rfl #[.int .u64 xa, .int .u64 xb, .int .u64 xc, .int .u64 xd] rfl HSC.out _ Try.underlying55 rfl (by kernel_rfl) ?_; go_simp; go_big_quiet_on) | go_big_quiet_step (fail))
      refine wpQuiet_nil ?_
      (unfold wpAct; go_wp2; refine ⟨(ex_ext (by repeat (first | exact Below.refl _ _ | assumption | refine b_drewN ?_ _ | refine Below.drew ?_ | refine b_ext' ?_ _ | refine b_alloc' ?_ _))), ?_⟩)
      (unfold wpAct; go_wp2; refine ⟨(ex_ext (by repeat (first | exact Below.refl _ _ | assumption | refine b_drewN ?_ _ | refine Below.drew ?_ | refine b_ext' ?_ _ | refine b_alloc' ?_ _))), ?_⟩)
      have HPU := Lib.hid (HMK.out.setRow (r := .slice (some ⟨w2.heap.size, 0, none⟩) 1 1) (xs := [⟨m, false, xa, xb, xc, xd⟩]) HVN.out HX.out (grown_below HLW.out _) (fun k hk => .inr (Nat.le_of_eq (Option.some.inj (show some w2.heap.size = some k from hk)))))
      have HGX : Hid (Gw S1 w2 (MkS g (.slice (some ⟨ge, 0, none⟩) (n + 2) cap) vr (vz.set n (.slice (some ⟨w2.heap.size, 0, none⟩) 1 1))) ((w2.alloc (.cells #[.int .i64 m, .bool false, .int .u64 xa, .int .u64 xb, .int .u64 xc, .int .u64 xd] 92)).drew.setCell ⟨ge, n, none⟩ (.slice (some ⟨w2.heap.size, 0, none⟩) 1 1))) := Lib.hid (by rw [hS1]; exact HPU.out.2)
      have hZ3 : Z.2 = ⟨(two s).e.set n [⟨m, false, xa, xb, xc, xd⟩], (two s).r⟩ := by rw [HZ2.out]; simp [leafS, setEd, HN2.out, HM2E.out]
      have HZ3 := Lib.hid hZ3
      clear hZ3
      unfold wpAct
      unfold wpAct
      go_wp2
      refine ⟨trivial, ?_⟩
      unfold wpAct
      have HM3 : Hid (MkT ((w2.alloc (.cells #[.int .i64 m, .bool false, .int .u64 xa, .int .u64 xb, .int .u64 xc, .int .u64 xd] 92)).drew.setCell ⟨ge, n, none⟩ (.slice (some ⟨w2.heap.size, 0, none⟩) 1 1)) (MkS g (.slice (some ⟨ge, 0, none⟩) (n + 2) cap) vr (vz.set n (.slice (some ⟨w2.heap.size, 0, none⟩) 1 1))) g q Z.2 F) := Lib.hid ⟨_, _, _, by rw [HZ3.out]; exact HPU.out.1, rfl⟩
      have HG3 := Lib.hid (HG2.out.trans HGX.out)
      have P43 := Lib.hid (P42.out.gw HGX.out)
      have P73 := Lib.hid (P72.out.gw HGX.out)
      have hweq : (w2.alloc (.cells #[.int .i64 m, .bool false, .int .u64 xa, .int .u64 xb, .int .u64 xc, .int .u64 xd] 92)).drew.setCell ⟨ge, n, none⟩ (.slice (some ⟨w2.heap.size, 0, none⟩) 1 1) = ((w2.setCell ⟨ge, n, none⟩ (.slice (some ⟨w2.heap.size, 0, none⟩) 1 1)).alloc (.cells #[.int .i64 m, .bool false, .int .u64 xa, .int .u64 xb, .int .u64 xc, .int .u64 xd] 92)).drew := by rw [World.setCell_drew, World.setCell_alloc_past _ _ _ _ hgel]
      rw [hweq] at HM3 HG3 P43 P73
      clear hweq
      clear HMK HPU HGX HM2 HG2 HX HLW HF2 HX2 P42 P72 HSC hix hcr hfr hgel hc0 hg2 hac hal hk0 hkl P7a P7b P7l hS1
      generalize ((w2.setCell ⟨ge, n, none⟩ (.slice (some ⟨w2.heap.size, 0, none⟩) 1 1)).alloc (.cells #[.int .i64 m, .bool false, .int .u64 xa, .int .u64 xb, .int .u64 xc, .int .u64 xd] 92)).drew = w3 at *
      have HC7 : Hid (∀ c, c < 2 → w3.cell? ⟨p7, 0 + c, none⟩ = some ((#[.int .i64 n, .int .i64 m] : Array Value).getD c undef)) := Lib.hid (fun c hcl => by
        rw [Nat.zero_add]
        rcases (show c = 0 ∨ c = 1 by omega) with rfl | rfl
        · exact P73.out.box.c0
        · exact P73.out.box.c1)
      have P4a := P43.out.box.c0
      have P4b := P43.out.box.c1
      have P4l := P43.out.box.lt
      have P4f := P43.out.box.free 0
      have P4g := P43.out.box.free 1
      have HST := Lib.hid (P43.out.box.set n m)
      go_wp2_with (refine wpList_load_cells rfl 82 _ rfl p7 0 2 rfl _ _ HC7.out rfl Try.underlying82 rfl (by kernel_rfl) ?_)
      refine ret_cell rfl rfl rfl HST.out.1.load ?_
      exact ⟨rfl, _, HM3.out.keep HST.out.2 P43.out.no (by omega), HG3.out.new HST.out.2 (by omega)⟩
    case inr.inl =>
      have HZ2 : Hid (Z = (aroundP s, leafS ⟨2, xn, xa, xb, xc, xd, xl, xh⟩ s)) := Lib.hid (by rw [HZ.out]; simp [nodeS])
      have hn2 : n = s.e.length := by rw [HN.out, HZ2.out]; rfl
      have hm2 : m = s.e.length + 1 := by rw [HMM.out, HZ2.out]; rfl
      obtain ⟨hb1, hb2, hb3⟩ := HB.out
      simp only [unodeN] at hb1 hb2
      have HAR := Lib.hid (aroundM HM0.out (by omega) (by omega) n m hn2 hm2)
      have HN2 := Lib.hid hn2
      have HM2E := Lib.hid hm2
      have hnb : n ≤ 4000 := by omega
      have hmb : m ≤ 4001 := by omega
      clear hn2 hm2
      have hkc : wc.cell? ⟨p5, 0, none⟩ = some (.int .i64 2) := HX0.out.c 0 (show 0 < 8 by decide)
      have hkl := HX0.out.lt
      have hac : wc.cell? ⟨w.heap.size, 0, none⟩ = some (.pointer (some ⟨g, 0, none⟩)) := HF0.out.c 0 (show 0 < 1 by decide)
      have hal := HF0.out.lt
      go_wp2_with ((with_reducible go_at_call 56); refine HAR.out.mono ?_; rintro en w1 ⟨rfl, S1, hm1, hg1⟩; have HM1 := Lib.hid hm1; have HG1 := Lib.hid (HG0.out.trans hg1); have HF1 := Lib.hid (HF0.out.gw hg1); have HX1 := Lib.hid (HX0.out.gw hg1); have P41 := Lib.hid (P40.out.gw hg1); (have hsz1 := hg1.size); clear hm1 hg1)
      have HM2 := Lib.hid (HM1.out.up (below_alloc w1 (.cells #[.int .i64 n, .int .i64 m] 82)))
      have HG2 := Lib.hid (HG1.out.up (below_alloc w1 (.cells #[.int .i64 n, .int .i64 m] 82)))
      have HF2 := Lib.hid (HF1.out.up (below_alloc w1 (.cells #[.int .i64 n, .int .i64 m] 82)))
      have HX2 := Lib.hid (HX1.out.up (below_alloc w1 (.cells #[.int .i64 n, .int .i64 m] 82)))
      have P42 := Lib.hid (P41.out.up (below_alloc w1 (.cells #[.int .i64 n, .int .i64 m] 82)))
      have P72 : Hid (LB (w1.alloc (.cells #[.int .i64 n, .int .i64 m] 82)) S1 w1.heap.size n m) := Lib.hid ⟨pcB_new w1 n m, HM1.out.no (Nat.le_refl _)⟩
      clear HM1 HG1 HF1 HX1 P41 HM0 HG0 HF0 HX0 P40 hkc hkl hac hal HAR
      generalize w1.heap.size = p7 at *
      generalize w1.alloc (.cells #[.int .i64 n, .int .i64 m] 82) = w2 at *
      obtain ⟨ve, vz, vr, hmk, hS1⟩ := HM2.out
      have hvl := hmk.len
      have htl := two_len s
      rw [htl] at hvl
      have hn2 := HN2.out
      obtain ⟨oa, cap, ge, rfl, hdo, -, hco, hfo, -⟩ := hmk.outer.cases
      have hoa := hdo.hat (by omega)
      subst hoa
      have hix := fun (W : World) => index_any (P := Try.prog) 22 85 Try.underlying22 (by kernel_rfl) hdo W .i64 n (by omega) (by omega)
      simp only [Int.toNat_natCast, Nat.zero_add] at hix
      have hcr := hco n (by omega)
      have hfr := hfo n (by omega)
      have hgel := hdo.hblk (by omega)
      have hc0 := hmk.c0
      have hg2 := hmk.lt
      have hac : w2.cell? ⟨w.heap.size, 0, none⟩ = some (.pointer (some ⟨g, 0, none⟩)) := HF2.out.c 0 (show 0 < 1 by decide)
      have hal := HF2.out.lt
      have hk0 : w2.cell? ⟨p5, 0, none⟩ = some (.int .i64 2) := HX2.out.c 0 (show 0 < 8 by decide)
      have hkl := HX2.out.lt
      have P7a := P72.out.box.c0
      have P7b := P72.out.box.c1
      have P7l := P72.out.box.lt
      have HSC : Hid (∀ w', (∃ y, w' = ext w2 y) → ∀ c, c < 4 → w'.cell? ⟨p5, 2 + c, none⟩ = some ((#[.int .u64 xa, .int .u64 xb, .int .u64 xc, .int .u64 xd] : Array Value).getD c undef)) := Lib.hid (by
        rintro w' ⟨y, rfl⟩ c hcl
        rw [cell?_ext _ _ _ _ hkl]
        have := HX2.out.c (2 + c) (show 2 + c < 8 by omega)
        rw [this]
        rcases (show c = 0 ∨ c = 1 ∨ c = 2 ∨ c = 3 by omega) with rfl | rfl | rfl | rfl <;> rfl)
      have HMK := Lib.hid hmk
      have hvz : vz.length ≤ 10000 := by omega
      have HVN : Hid (n < (two s).e.length) := Lib.hid (by omega)
      have hlW : Below w2.heap.size w2 (w2.alloc (.cells #[.int .i64 m, .bool true, .int .u64 xa, .int .u64 xb, .int .u64 xc, .int .u64 xd] 92)).drew := (by repeat (first | exact Below.refl _ _ | assumption | refine b_drewN ?_ _ | refine Below.drew ?_ | refine b_ext' ?_ _ | refine b_alloc' ?_ _))
      have HX := Lib.hid ((ownK_lit 6 w2 0 #[.int .i64 m, .bool true, .int .u64 xa, .int .u64 xb, .int .u64 xc, .int .u64 xd] 92 ([⟨m, true, xa, xb, xc, xd⟩].map edC) (by simp [edC]) (edC_len _) (by simp) (Nat.zero_le _)).up (drew_b _))
      have HLW := Lib.hid hlW
      have hlz : vz.length = n + 2 := by omega
      rw [hlz] at hix HMK hvz hc0 hS1
      clear hmk hdo hco hfo hvl htl hlW hn2 hlz
      go_wp2
      refine wp_region_tailg [0,1,2,3,4,5,6,7,8,9,10,11,12,13,14] [15,16] [17] (by kernel_rfl) (by kernel_rfl) ?_
      simp only [pick, List.map_cons, List.map_nil, List.getD_cons_zero, List.getD_cons_succ]
      repeat (first | (go_big_quiet_want; refine quiet_load_cells 55 4 _ rfl p5 2 rfl #[.int .u64 xa, .int .u64 xb, .int .u64 xc, .int .u64 xd] rfl HSC.out _ Try.underlying55 rfl (by kernel_rfl) ?_; go_simp; go_big_quiet_on) | go_big_quiet_step (fail))
      refine wpQuiet_nil ?_
      (unfold wpAct; go_wp2; refine ⟨(ex_ext (by repeat (first | exact Below.refl _ _ | assumption | refine b_drewN ?_ _ | refine Below.drew ?_ | refine b_ext' ?_ _ | refine b_alloc' ?_ _))), ?_⟩)
      (unfold wpAct; go_wp2; refine ⟨(ex_ext (by repeat (first | exact Below.refl _ _ | assumption | refine b_drewN ?_ _ | refine Below.drew ?_ | refine b_ext' ?_ _ | refine b_alloc' ?_ _))), ?_⟩)
      have HPU := Lib.hid (HMK.out.setRow (r := .slice (some ⟨w2.heap.size, 0, none⟩) 1 1) (xs := [⟨m, true, xa, xb, xc, xd⟩]) HVN.out HX.out (grown_below HLW.out _) (fun k hk => .inr (Nat.le_of_eq (Option.some.inj (show some w2.heap.size = some k from hk)))))
      have HGX : Hid (Gw S1 w2 (MkS g (.slice (some ⟨ge, 0, none⟩) (n + 2) cap) vr (vz.set n (.slice (some ⟨w2.heap.size, 0, none⟩) 1 1))) ((w2.alloc (.cells #[.int .i64 m, .bool true, .int .u64 xa, .int .u64 xb, .int .u64 xc, .int .u64 xd] 92)).drew.setCell ⟨ge, n, none⟩ (.slice (some ⟨w2.heap.size, 0, none⟩) 1 1))) := Lib.hid (by rw [hS1]; exact HPU.out.2)
      have hZ3 : Z.2 = ⟨(two s).e.set n [⟨m, true, xa, xb, xc, xd⟩], (two s).r⟩ := by rw [HZ2.out]; simp [leafS, setEd, HN2.out, HM2E.out]
      have HZ3 := Lib.hid hZ3
      clear hZ3
      unfold wpAct
      unfold wpAct
      go_wp2
      refine ⟨trivial, ?_⟩
      unfold wpAct
      have HM3 : Hid (MkT ((w2.alloc (.cells #[.int .i64 m, .bool true, .int .u64 xa, .int .u64 xb, .int .u64 xc, .int .u64 xd] 92)).drew.setCell ⟨ge, n, none⟩ (.slice (some ⟨w2.heap.size, 0, none⟩) 1 1)) (MkS g (.slice (some ⟨ge, 0, none⟩) (n + 2) cap) vr (vz.set n (.slice (some ⟨w2.heap.size, 0, none⟩) 1 1))) g q Z.2 F) := Lib.hid ⟨_, _, _, by rw [HZ3.out]; exact HPU.out.1, rfl⟩
      have HG3 := Lib.hid (HG2.out.trans HGX.out)
      have P43 := Lib.hid (P42.out.gw HGX.out)
      have P73 := Lib.hid (P72.out.gw HGX.out)
      have hweq : (w2.alloc (.cells #[.int .i64 m, .bool true, .int .u64 xa, .int .u64 xb, .int .u64 xc, .int .u64 xd] 92)).drew.setCell ⟨ge, n, none⟩ (.slice (some ⟨w2.heap.size, 0, none⟩) 1 1) = ((w2.setCell ⟨ge, n, none⟩ (.slice (some ⟨w2.heap.size, 0, none⟩) 1 1)).alloc (.cells #[.int .i64 m, .bool true, .int .u64 xa, .int .u64 xb, .int .u64 xc, .int .u64 xd] 92)).drew := by rw [World.setCell_drew, World.setCell_alloc_past _ _ _ _ hgel]
      rw [hweq] at HM3 HG3 P43 P73
      clear hweq
      clear HMK HPU HGX HM2 HG2 HX HLW HF2 HX2 P42 P72 HSC hix hcr hfr hgel hc0 hg2 hac hal hk0 hkl P7a P7b P7l hS1
      generalize ((w2.setCell ⟨ge, n, none⟩ (.slice (some ⟨w2.heap.size, 0, none⟩) 1 1)).alloc (.cells #[.int .i64 m, .bool true, .int .u64 xa, .int .u64 xb, .int .u64 xc, .int .u64 xd] 92)).drew = w3 at *
      have HC7 : Hid (∀ c, c < 2 → w3.cell? ⟨p7, 0 + c, none⟩ = some ((#[.int .i64 n, .int .i64 m] : Array Value).getD c undef)) := Lib.hid (fun c hcl => by
        rw [Nat.zero_add]
        rcases (show c = 0 ∨ c = 1 by omega) with rfl | rfl
        · exact P73.out.box.c0
        · exact P73.out.box.c1)
      have P4a := P43.out.box.c0
      have P4b := P43.out.box.c1
      have P4l := P43.out.box.lt
      have P4f := P43.out.box.free 0
      have P4g := P43.out.box.free 1
      have HST := Lib.hid (P43.out.box.set n m)
      go_wp2_with (refine wpList_load_cells rfl 82 _ rfl p7 0 2 rfl _ _ HC7.out rfl Try.underlying82 rfl (by kernel_rfl) ?_)
      refine ret_cell rfl rfl rfl HST.out.1.load ?_
      exact ⟨rfl, _, HM3.out.keep HST.out.2 P43.out.no (by omega), HG3.out.new HST.out.2 (by omega)⟩
    case inr.inr.inl =>
      have hvl := HPT.out.len
      rw [treesOf_length] at hvl
      have hcp : 0 < vs.length := by have h1 := HXN.out; have h2 := HOX.out; unfold okN at h2; simp only at h1 h2; omega
      obtain ⟨ou, cu, bo, hu, hdo, hgo, hco, -, -⟩ := HPT.out.own.cases
      have hou := hdo.hat hcp
      subst hou
      obtain ⟨hgo1, hgo2⟩ := hgo hcp
      have hcu := hdo.hcap
      have hcu2 := hdo.hmax
      have hbol := hdo.hblk hcp
      have hboS := HMR.out.no hgo2
      have KJ0 : KJ g w.heap.size p6 bo b u vs (treesOf k) S wc := ⟨HF0.out, H60.out, ⟨fun i hi => by
        have hi' : i < vs.length := by simpa using hi
        rw [hco i hi']; simp [List.getD, Array.getD_eq_getD_getElem?, hi'], hbol, hboS⟩, hbS, HPT.out.rows⟩
      have HKJ := Lib.hid KJ0
      clear KJ0

      have hwk := HWK.out
      have hak := HAK.out
      obtain ⟨hb1, hb2, hb3⟩ := HB.out
      rw [unodeN_3 _ _ rfl] at hb1 hb2 hb3
      have hix := fun (W : World) (i : Nat) (hi : i < vs.length) => index_tree hdo W .i64 i (by omega) (by omega)
      have h6c : wc.cell? ⟨p6, 0, none⟩ = some (.slice (some ⟨bo, 0, none⟩) vs.length cu) := by rw [← hu]; exact H60.out.c 0 (show 0 < 1 by decide)
      have h6l := H60.out.lt
      have hkc : wc.cell? ⟨p5, 0, none⟩ = some (.int .i64 3) := HX0.out.c 0 (show 0 < 8 by decide)
      have hxlt := HX0.out.lt
      have hbow := hbol
      have h6w := h6l
      have h5w := hxlt
      have hblt2 : b < wc.heap.size := by omega
      have HVL := Lib.hid hvl
      have hvB : vs.length ≤ 400 := by have := cnt_le k; omega
      have HLO := Lib.hid (lay_ok k hwk hak s)
      have HCS := Lib.hid HZ.out
      obtain ⟨kl, hkl⟩ : ∃ kl, kl = vs.length := ⟨_, rfl⟩
      have HKL := Lib.hid hkl
      rw [← hkl] at hix h6c hvB
      clear hvl hcp hdo hgo hco hgo1 hgo2 hcu hcu2 hkl
      go_wp2
      go_loopg [8, 69] (cnt k) (fun gk ov iv wr => ∃ (j : Nat) (r : Fo) (sj : St) (ps : List Pc) (dn : List (List Nd)) (Sr : Nat → Prop), iv = .int .i64 j ∧ j + cnt r = cnt k ∧ wf r ∧ allF okN r ∧ (flat r).length ≤ (flat k).length ∧ dn ++ treesOf r = treesOf k ∧ dn.length = j ∧ ps.length = j ∧ layF k s = (ps ++ (layF r sj).1, (layF r sj).2) ∧ sj.e.length + usz r = s.e.length + usz k ∧ sj.r.length + usz r = s.r.length + usz k ∧ tot sj.e + 2 * usz r ≤ tot s.e + 2 * usz k ∧
          MkT wr Sr g q sj F ∧ Gw S w Sr wr ∧ KJ g w.heap.size p6 bo b u vs (treesOf k) Sr wr ∧ LB wr Sr (w.heap.size + 1) 0 0 ∧ FixC wr Sr p5 (ndV ⟨3, xn, xa, xb, xc, xd, xl, xh⟩) ∧ OwnK 2 wr wc.heap.size 82 ov (ps.map pcC) ∧ (∀ z, ov.ownBlock = some z → ¬ Sr z) ∧ wc.heap.size ≤ wr.heap.size ∧ gk = cnt k - j)
      case atStart =>
        exact ⟨0, k, s, [], [], S, rfl, by omega, hwk, hak, Nat.le_refl _, rfl, rfl, rfl, by simp, rfl, rfl, Nat.le_refl _, HM0.out, HG0.out, HKJ.out, P40.out, HX0.out, OwnK.nil _ _ _ _, (fun z hz => by cases hz), Nat.le_refl _, rfl⟩
      case round =>
        obtain ⟨j, r, sj, ps, dn, Sr, rfl, hj, hwr, har, hrl, hdn, hdl, hpl, hlay, hel, hrl2, htl, hm1, hg1, hkj, hp4, hx5, hov, hnov, hszr, rfl⟩ := hrel
        have HM1 := Lib.hid hm1
        have HG1 := Lib.hid hg1
        have HK1 := Lib.hid hkj
        have P41 := Lib.hid hp4
        have HX1 := Lib.hid hx5
        have HO1 := Lib.hid hov
        have HNO := Lib.hid hnov
        have HLY2 := Lib.hid hlay
        have HDN := Lib.hid hdn
        have hbol := HK1.out.out.lt
        have hacl := HK1.out.va.lt
        have h6cr : wr.cell? ⟨p6, 0, none⟩ = some (.slice (some ⟨bo, 0, none⟩) kl cu) := by rw [HKL.out, ← hu]; exact HK1.out.vb.c 0 (show 0 < 1 by decide)
        have h6lr := HK1.out.vb.lt
        have hacr : wr.cell? ⟨w.heap.size, 0, none⟩ = some (.pointer (some ⟨g, 0, none⟩)) := HK1.out.va.c 0 (show 0 < 1 by decide)
        have hklc : kl = cnt k := by rw [HKL.out, HVL.out]
        have HKC := Lib.hid hklc
        clear hklc
        clear hm1 hg1 hkj hp4 hx5 hov hnov hlay hdn HM0 HG0 HF0 P40 HX0 H60 HKJ h6c h6l hkc hxlt
        cases r with
        | cons y ky r' =>
          simp only [cnt] at hj
          simp only [flat, List.length_cons, List.length_append] at hrl
          simp only [usz] at hel hrl2 htl
          have hjl : j < kl := by have := HKC.out; omega
          have hixj := fun W => hix W j hjl
          simp only [Int.toNat_natCast, Nat.zero_add] at hixj
          obtain ⟨u0, hu0⟩ : ∃ u0, u0 = vs.getD j undef := ⟨_, rfl⟩
          have hoc : wr.cell? ⟨bo, j, none⟩ = some u0 := by rw [hu0]; have := HK1.out.out.c j (by simp; rw [← HKL.out]; exact hjl); rw [this]; simp [List.getD, Array.getD_eq_getD_getElem?]
          have hrj : NodesB wr b u0 (y :: flat ky) := by
            rw [hu0]
            have := HK1.out.rows j (by rw [treesOf_length]; omega)
            rwa [← HDN.out, ← hdl, show (dn ++ treesOf (.cons y ky r')).getD dn.length [] = y :: flat ky by simp [List.getD, treesOf], hdl] at this
          obtain ⟨Y, hY⟩ : ∃ Y, Y = nodeS y (fun s => layF ky s) sj := ⟨_, rfl⟩
          have hnk := node_ok y (fun s => layF ky s) (usz ky) (cnt ky) har.1 hwr.1 (lay_ok ky hwr.2.1 har.2.1) sj
          rw [← hY] at hnk
          have k1 := hnk.len
          have k2 := hnk.rlen
          have k4 := hnk.tot
          simp only at k1 k2 k4
          obtain ⟨qf, hqf⟩ : ∃ qf, qf = Y.1.f := ⟨_, rfl⟩
          obtain ⟨ql, hql⟩ : ∃ ql, ql = Y.1.l := ⟨_, rfl⟩
          have HTR := Lib.hid (HIH.out wr Sr g q sj F u0 b y ky (by omega) hrj HK1.out.nb (by omega) hwr.1 hwr.2.1 har.1 har.2.1 HM1.out (by omega) (by omega) (by omega) qf ql (by rw [← hY]; exact hqf) (by rw [← hY]; exact hql))
          rw [← hY] at HTR
          have HPC : Hid (Y.1 = ⟨qf, ql⟩) := Lib.hid (by rw [hqf, hql])
          have HLY3 : Hid (layF k s = ((ps ++ [Y.1]) ++ (layF r' Y.2).1, (layF r' Y.2).2)) := Lib.hid (by rw [HLY2.out, hY]; simp [layF])
          have HWR := Lib.hid hwr.2.2
          have HAR := Lib.hid har.2.2
          have HEL : Hid (Y.2.e.length + usz r' = s.e.length + usz k ∧ Y.2.r.length + usz r' = s.r.length + usz k ∧ tot Y.2.e + 2 * usz r' ≤ tot s.e + 2 * usz k) := Lib.hid ⟨by omega, by omega, by omega⟩
          have hpsb : ps.length ≤ 400 := by omega
          clear hix hu0 hrj hnk k1 k2 k4 hqf hql hwr har hY hel hrl2 htl
          go_wp2_with (first | ((with_reducible go_at_call 36); refine HTR.out.mono ?_; rintro en w3 ⟨rfl, S3, hm3, hg3⟩; have HM3 := Lib.hid hm3; have HD3 := Lib.hid hg3; (have HG3 := Lib.hid (HG1.out.trans hg3)); (have HK3 := Lib.hid (KJ.gw Sr wr S3 w3 (by rw [treesOf_length]; omega) HK1.out hg3)); (have P43 := Lib.hid (P41.out.gw hg3)); (have HX3 := Lib.hid (HX1.out.gw hg3)); (have HO3 := Lib.hid (OwnK.gw hg3 HO1.out HNO.out)); (have hsz3 := hg3.size); clear hm3 hg3) | (at_builtin; go_loud (refine wpList_appK 2 rfl (.tmp 73) (.tmp 77) 107 rfl wc.heap.size 82 (.agg #[.int .i64 0, .int .i64 0]) 16 Try.underlying107 (by kernel_rfl) rfl (by decide) (by decide) u8 (ps.map pcC) rfl (HO3.out.up (below_alloc w3 (.cells #[.int .i64 qf, .int .i64 ql] 82))) (.slice (some ⟨w3.heap.size, 0, none⟩) 1 1) ([⟨qf, ql⟩].map pcC) rfl (by have := slK_lit 2 w3 #[.int .i64 qf, .int .i64 ql] 82 ([⟨qf, ql⟩].map pcC) (by simp [pcC]) (pcC_len _) (by simp); simpa using this) (pcC_len _) (by intro z hz; simp [pcC] at hz; rcases hz with rfl | rfl <;> rfl) (by simp only [List.length_map, List.length_singleton]; omega) (Nat.le_trans hszr (Nat.le_trans hsz3 (below_alloc _ _).size)) ?_; intro v' w5 hown1 hg5 hk5; have HO5 := Lib.hid hown1; have HG5 := Lib.hid hg5; have HK5 := Lib.hid hk5; clear hown1 hg5 hk5)))
          have hB3 := below_alloc w3 (.cells #[.int .i64 qf, .int .i64 ql] 82)
          have hzb : ∀ z, u8.ownBlock = some z → wc.heap.size ≤ z ∧ z < wr.heap.size := HO1.out.lt
          have hzn : ∀ z, u8.ownBlock = some z → ¬ S3 z := fun z hz => HD3.out.out (hzb z hz).2 (HNO.out z hz)
          have hzq : ∀ z, u8.ownBlock = some z → z ≠ q := fun z hz e => by have := (hzb z hz).1; have := hgq.1; omega
          go_roundg (cnt k - (j + 1))
          case measure => omega
          case rel =>
            obtain ⟨e1, e2, e3⟩ := HEL.out
            have hw3 : w.heap.size + 2 ≤ wc.heap.size := by omega
            have hbo2 := HK3.out.out.lt
            refine ⟨j + 1, r', Y.2, ps ++ [Y.1], dn ++ [y :: flat ky], S3, by go_num, by omega, HWR.out, HAR.out, by omega, by rw [← HDN.out]; simp [treesOf], by simp [hdl], by simp [hpl], HLY3.out, e1, e2, e3, ?_, ?_, ?_, ?_, ?_, ?_, ?_, ?_, rfl⟩
            · exact (HM3.out.up hB3).keepO HG5.out (fun z hz => ⟨hzn z hz, hzq z hz⟩)
            · exact (HG3.out.up hB3).newO HG5.out (fun z hz => by have := (hzb z hz).1; omega)
            · exact (KJ.up S3 w3 _ HK3.out hB3).keepO HG5.out (fun z hz => by have := (hzb z hz).1; refine ⟨by omega, by omega, by omega, by omega⟩)
            · exact (P43.out.up hB3).keepO HG5.out (fun z hz => by have := (hzb z hz).1; omega)
            · exact (HX3.out.up hB3).keepO HG5.out (fun z hz => by have := (hzb z hz).1; omega)
            · rw [List.map_append, HPC.out]; exact HO5.out
            · intro z hz
              rcases HK5.out z hz with h | h
              · exact hzn z h
              · intro e; have h1 := HM3.out.lt e; have h2 := hB3.size; omega
            · have := hB3.size; have := HG5.out.size; omega
        | nil =>
          have hje : j = cnt k := by simpa [cnt] using hj
          have hlay : layF k s = (ps, sj) := by rw [HLY2.out]; simp [layF]
          have h2 : 2 ≤ cnt k := by have h1 := HXN.out; have h2 := HOX.out; unfold okN at h2; simp only at h1 h2; omega
          have hpos : 0 < ps.length := by omega
          obtain ⟨b8, off8, cap8, hps, hob⟩ := psAt_own HO1.out hpos
          have hnb8 := HNO.out b8 hob
          have hlo := HLO.out
          rw [hlay] at hlo
          have hrg : ∀ i, i < ps.length → (ps.getD i zP).f < sj.e.length ∧ (ps.getD i zP).l < sj.e.length := fun i hi => hlo.rng i (by omega)
          simp only [usz, Nat.add_zero] at hel hrl2 htl
          have hps4 : ps.length ≤ 400 := by have := cnt_le k; omega
          have hxcr : wr.cell? ⟨p5, 0, none⟩ = some (.int .i64 3) := HX1.out.c 0 (show 0 < 8 by decide)
          have hxlr := HX1.out.lt

          have hZe : Z = (chainP ps, chainS ps ps.length sj) := by rw [HZ.out, nodeS_cat _ _ _ rfl, hlay]
          have HCH := Lib.hid (chainM HM1.out (by omega) (by omega) hps hnb8 hrg n m (by rw [HN.out, hZe]) (by rw [HMM.out, hZe]))
          have HEZ : Hid (Z.2 = chainS ps ps.length sj) := Lib.hid (by rw [hZe])
          have hkc2 := HKC.out
          have hjk : ((j : Int)) = (kl : Int) := by omega
          clear hlay hlo hrg hZe hps hpl hdl hix hje hkc2
          go_wp2_with ((with_reducible go_at_call 60); refine HCH.out.mono ?_; rintro en w3 ⟨rfl, S3, hm3, hg3⟩; have HM3 := Lib.hid hm3; (have HG3 := Lib.hid (HG1.out.trans hg3)); (have P43 := Lib.hid (P41.out.gw hg3)); (have P4a := P43.out.box.c0); (have P4b := P43.out.box.c1); (have P4l := P43.out.box.lt); (have P4f := P43.out.box.free 0); (have P4g := P43.out.box.free 1); clear hm3 hg3)
          have HST := Lib.hid (P43.out.box.set n m)
          refine ret_cell rfl rfl rfl HST.out.1.load ?_
          exact ⟨rfl, S3, (by rw [HEZ.out]; exact HM3.out : MkT w3 S3 g q Z.2 F).keep HST.out.2 P43.out.no (by omega), HG3.out.new HST.out.2 (by omega)⟩
    case inr.inr.inr.inl =>
      have hvl := HPT.out.len
      rw [treesOf_length] at hvl
      have hcp : 0 < vs.length := by have h1 := HXN.out; have h2 := HOX.out; unfold okN at h2; simp only at h1 h2; omega
      obtain ⟨ou, cu, bo, hu, hdo, hgo, hco, -, -⟩ := HPT.out.own.cases
      have hou := hdo.hat hcp
      subst hou
      obtain ⟨hgo1, hgo2⟩ := hgo hcp
      have hcu := hdo.hcap
      have hcu2 := hdo.hmax
      have hbol := hdo.hblk hcp
      have hboS := HMR.out.no hgo2
      have KJ0 : KJ g w.heap.size p6 bo b u vs (treesOf k) S wc := ⟨HF0.out, H60.out, ⟨fun i hi => by
        have hi' : i < vs.length := by simpa using hi
        rw [hco i hi']; simp [List.getD, Array.getD_eq_getD_getElem?, hi'], hbol, hboS⟩, hbS, HPT.out.rows⟩
      have HKJ := Lib.hid KJ0
      clear KJ0

      have hwk := HWK.out
      have hak := HAK.out
      obtain ⟨hb1, hb2, hb3⟩ := HB.out
      rw [unodeN_2 _ _ (.inl rfl)] at hb1 hb2 hb3
      have hix := fun (W : World) (i : Nat) (hi : i < vs.length) => index_tree hdo W .i64 i (by omega) (by omega)
      have h6c : wc.cell? ⟨p6, 0, none⟩ = some (.slice (some ⟨bo, 0, none⟩) vs.length cu) := by rw [← hu]; exact H60.out.c 0 (show 0 < 1 by decide)
      have h6l := H60.out.lt
      have hkc : wc.cell? ⟨p5, 0, none⟩ = some (.int .i64 4) := HX0.out.c 0 (show 0 < 8 by decide)
      have hxlt := HX0.out.lt
      have hbow := hbol
      have h6w := h6l
      have h5w := hxlt
      have hblt2 : b < wc.heap.size := by omega
      have HVL := Lib.hid hvl
      have hvB : vs.length ≤ 400 := by have := cnt_le k; omega
      have HLO := Lib.hid (lay_ok k hwk hak s)
      have HCS := Lib.hid HZ.out
      obtain ⟨kl, hkl⟩ : ∃ kl, kl = vs.length := ⟨_, rfl⟩
      have HKL := Lib.hid hkl
      rw [← hkl] at hix h6c hvB
      clear hvl hcp hdo hgo hco hgo1 hgo2 hcu hcu2 hkl
      go_wp2
      go_loopg [8, 69] (cnt k) (fun gk ov iv wr => ∃ (j : Nat) (r : Fo) (sj : St) (ps : List Pc) (dn : List (List Nd)) (Sr : Nat → Prop), iv = .int .i64 j ∧ j + cnt r = cnt k ∧ wf r ∧ allF okN r ∧ (flat r).length ≤ (flat k).length ∧ dn ++ treesOf r = treesOf k ∧ dn.length = j ∧ ps.length = j ∧ layF k s = (ps ++ (layF r sj).1, (layF r sj).2) ∧ sj.e.length + usz r = s.e.length + usz k ∧ sj.r.length + usz r = s.r.length + usz k ∧ tot sj.e + 2 * usz r ≤ tot s.e + 2 * usz k ∧
          MkT wr Sr g q sj F ∧ Gw S w Sr wr ∧ KJ g w.heap.size p6 bo b u vs (treesOf k) Sr wr ∧ LB wr Sr (w.heap.size + 1) 0 0 ∧ FixC wr Sr p5 (ndV ⟨4, xn, xa, xb, xc, xd, xl, xh⟩) ∧ OwnK 2 wr wc.heap.size 82 ov (ps.map pcC) ∧ (∀ z, ov.ownBlock = some z → ¬ Sr z) ∧ wc.heap.size ≤ wr.heap.size ∧ gk = cnt k - j)
      case atStart =>
        exact ⟨0, k, s, [], [], S, rfl, by omega, hwk, hak, Nat.le_refl _, rfl, rfl, rfl, by simp, rfl, rfl, Nat.le_refl _, HM0.out, HG0.out, HKJ.out, P40.out, HX0.out, OwnK.nil _ _ _ _, (fun z hz => by cases hz), Nat.le_refl _, rfl⟩
      case round =>
        obtain ⟨j, r, sj, ps, dn, Sr, rfl, hj, hwr, har, hrl, hdn, hdl, hpl, hlay, hel, hrl2, htl, hm1, hg1, hkj, hp4, hx5, hov, hnov, hszr, rfl⟩ := hrel
        have HM1 := Lib.hid hm1
        have HG1 := Lib.hid hg1
        have HK1 := Lib.hid hkj
        have P41 := Lib.hid hp4
        have HX1 := Lib.hid hx5
        have HO1 := Lib.hid hov
        have HNO := Lib.hid hnov
        have HLY2 := Lib.hid hlay
        have HDN := Lib.hid hdn
        have hbol := HK1.out.out.lt
        have hacl := HK1.out.va.lt
        have h6cr : wr.cell? ⟨p6, 0, none⟩ = some (.slice (some ⟨bo, 0, none⟩) kl cu) := by rw [HKL.out, ← hu]; exact HK1.out.vb.c 0 (show 0 < 1 by decide)
        have h6lr := HK1.out.vb.lt
        have hacr : wr.cell? ⟨w.heap.size, 0, none⟩ = some (.pointer (some ⟨g, 0, none⟩)) := HK1.out.va.c 0 (show 0 < 1 by decide)
        have hklc : kl = cnt k := by rw [HKL.out, HVL.out]
        have HKC := Lib.hid hklc
        clear hklc
        clear hm1 hg1 hkj hp4 hx5 hov hnov hlay hdn HM0 HG0 HF0 P40 HX0 H60 HKJ h6c h6l hkc hxlt
        cases r with
        | cons y ky r' =>
          simp only [cnt] at hj
          simp only [flat, List.length_cons, List.length_append] at hrl
          simp only [usz] at hel hrl2 htl
          have hjl : j < kl := by have := HKC.out; omega
          have hixj := fun W => hix W j hjl
          simp only [Int.toNat_natCast, Nat.zero_add] at hixj
          obtain ⟨u0, hu0⟩ : ∃ u0, u0 = vs.getD j undef := ⟨_, rfl⟩
          have hoc : wr.cell? ⟨bo, j, none⟩ = some u0 := by rw [hu0]; have := HK1.out.out.c j (by simp; rw [← HKL.out]; exact hjl); rw [this]; simp [List.getD, Array.getD_eq_getD_getElem?]
          have hrj : NodesB wr b u0 (y :: flat ky) := by
            rw [hu0]
            have := HK1.out.rows j (by rw [treesOf_length]; omega)
            rwa [← HDN.out, ← hdl, show (dn ++ treesOf (.cons y ky r')).getD dn.length [] = y :: flat ky by simp [List.getD, treesOf], hdl] at this
          obtain ⟨Y, hY⟩ : ∃ Y, Y = nodeS y (fun s => layF ky s) sj := ⟨_, rfl⟩
          have hnk := node_ok y (fun s => layF ky s) (usz ky) (cnt ky) har.1 hwr.1 (lay_ok ky hwr.2.1 har.2.1) sj
          rw [← hY] at hnk
          have k1 := hnk.len
          have k2 := hnk.rlen
          have k4 := hnk.tot
          simp only at k1 k2 k4
          obtain ⟨qf, hqf⟩ : ∃ qf, qf = Y.1.f := ⟨_, rfl⟩
          obtain ⟨ql, hql⟩ : ∃ ql, ql = Y.1.l := ⟨_, rfl⟩
          have HTR := Lib.hid (HIH.out wr Sr g q sj F u0 b y ky (by omega) hrj HK1.out.nb (by omega) hwr.1 hwr.2.1 har.1 har.2.1 HM1.out (by omega) (by omega) (by omega) qf ql (by rw [← hY]; exact hqf) (by rw [← hY]; exact hql))
          rw [← hY] at HTR
          have HPC : Hid (Y.1 = ⟨qf, ql⟩) := Lib.hid (by rw [hqf, hql])
          have HLY3 : Hid (layF k s = ((ps ++ [Y.1]) ++ (layF r' Y.2).1, (layF r' Y.2).2)) := Lib.hid (by rw [HLY2.out, hY]; simp [layF])
          have HWR := Lib.hid hwr.2.2
          have HAR := Lib.hid har.2.2
          have HEL : Hid (Y.2.e.length + usz r' = s.e.length + usz k ∧ Y.2.r.length + usz r' = s.r.length + usz k ∧ tot Y.2.e + 2 * usz r' ≤ tot s.e + 2 * usz k) := Lib.hid ⟨by omega, by omega, by omega⟩
          have hpsb : ps.length ≤ 400 := by omega
          clear hix hu0 hrj hnk k1 k2 k4 hqf hql hwr har hY hel hrl2 htl
          go_wp2_with (first | ((with_reducible go_at_call 36); refine HTR.out.mono ?_; rintro en w3 ⟨rfl, S3, hm3, hg3⟩; have HM3 := Lib.hid hm3; have HD3 := Lib.hid hg3; (have HG3 := Lib.hid (HG1.out.trans hg3)); (have HK3 := Lib.hid (KJ.gw Sr wr S3 w3 (by rw [treesOf_length]; omega) HK1.out hg3)); (have P43 := Lib.hid (P41.out.gw hg3)); (have HX3 := Lib.hid (HX1.out.gw hg3)); (have HO3 := Lib.hid (OwnK.gw hg3 HO1.out HNO.out)); (have hsz3 := hg3.size); clear hm3 hg3) | (at_builtin; go_loud (refine wpList_appK 2 rfl (.tmp 73) (.tmp 77) 107 rfl wc.heap.size 82 (.agg #[.int .i64 0, .int .i64 0]) 16 Try.underlying107 (by kernel_rfl) rfl (by decide) (by decide) u8 (ps.map pcC) rfl (HO3.out.up (below_alloc w3 (.cells #[.int .i64 qf, .int .i64 ql] 82))) (.slice (some ⟨w3.heap.size, 0, none⟩) 1 1) ([⟨qf, ql⟩].map pcC) rfl (by have := slK_lit 2 w3 #[.int .i64 qf, .int .i64 ql] 82 ([⟨qf, ql⟩].map pcC) (by simp [pcC]) (pcC_len _) (by simp); simpa using this) (pcC_len _) (by intro z hz; simp [pcC] at hz; rcases hz with rfl | rfl <;> rfl) (by simp only [List.length_map, List.length_singleton]; omega) (Nat.le_trans hszr (Nat.le_trans hsz3 (below_alloc _ _).size)) ?_; intro v' w5 hown1 hg5 hk5; have HO5 := Lib.hid hown1; have HG5 := Lib.hid hg5; have HK5 := Lib.hid hk5; clear hown1 hg5 hk5)))
          have hB3 := below_alloc w3 (.cells #[.int .i64 qf, .int .i64 ql] 82)
          have hzb : ∀ z, u8.ownBlock = some z → wc.heap.size ≤ z ∧ z < wr.heap.size := HO1.out.lt
          have hzn : ∀ z, u8.ownBlock = some z → ¬ S3 z := fun z hz => HD3.out.out (hzb z hz).2 (HNO.out z hz)
          have hzq : ∀ z, u8.ownBlock = some z → z ≠ q := fun z hz e => by have := (hzb z hz).1; have := hgq.1; omega
          go_roundg (cnt k - (j + 1))
          case measure => omega
          case rel =>
            obtain ⟨e1, e2, e3⟩ := HEL.out
            have hw3 : w.heap.size + 2 ≤ wc.heap.size := by omega
            have hbo2 := HK3.out.out.lt
            refine ⟨j + 1, r', Y.2, ps ++ [Y.1], dn ++ [y :: flat ky], S3, by go_num, by omega, HWR.out, HAR.out, by omega, by rw [← HDN.out]; simp [treesOf], by simp [hdl], by simp [hpl], HLY3.out, e1, e2, e3, ?_, ?_, ?_, ?_, ?_, ?_, ?_, ?_, rfl⟩
            · exact (HM3.out.up hB3).keepO HG5.out (fun z hz => ⟨hzn z hz, hzq z hz⟩)
            · exact (HG3.out.up hB3).newO HG5.out (fun z hz => by have := (hzb z hz).1; omega)
            · exact (KJ.up S3 w3 _ HK3.out hB3).keepO HG5.out (fun z hz => by have := (hzb z hz).1; refine ⟨by omega, by omega, by omega, by omega⟩)
            · exact (P43.out.up hB3).keepO HG5.out (fun z hz => by have := (hzb z hz).1; omega)
            · exact (HX3.out.up hB3).keepO HG5.out (fun z hz => by have := (hzb z hz).1; omega)
            · rw [List.map_append, HPC.out]; exact HO5.out
            · intro z hz
              rcases HK5.out z hz with h | h
              · exact hzn z h
              · intro e; have h1 := HM3.out.lt e; have h2 := hB3.size; omega
            · have := hB3.size; have := HG5.out.size; omega
        | nil =>
          have hje : j = cnt k := by simpa [cnt] using hj
          have hlay : layF k s = (ps, sj) := by rw [HLY2.out]; simp [layF]
          have h2 : 2 ≤ cnt k := by have h1 := HXN.out; have h2 := HOX.out; unfold okN at h2; simp only at h1 h2; omega
          have hpos : 0 < ps.length := by omega
          obtain ⟨b8, off8, cap8, hps, hob⟩ := psAt_own HO1.out hpos
          have hnb8 := HNO.out b8 hob
          have hlo := HLO.out
          rw [hlay] at hlo
          have hrg : ∀ i, i < ps.length → (ps.getD i zP).f < sj.e.length ∧ (ps.getD i zP).l < sj.e.length := fun i hi => hlo.rng i (by omega)
          simp only [usz, Nat.add_zero] at hel hrl2 htl
          have hps4 : ps.length ≤ 400 := by have := cnt_le k; omega
          have hxcr : wr.cell? ⟨p5, 0, none⟩ = some (.int .i64 4) := HX1.out.c 0 (show 0 < 8 by decide)
          have hxlr := HX1.out.lt

          have hZe : Z = (aroundP sj, altS (aroundP sj) ps ps.length (two sj)) := by rw [HZ.out, nodeS_alt _ _ _ rfl, hlay]
          have hn2 : n = sj.e.length := by rw [HN.out, hZe]; rfl
          have hm2 : m = sj.e.length + 1 := by rw [HMM.out, hZe]; rfl
          have HAR := Lib.hid (aroundM HM1.out (by omega) (by omega) n m hn2 hm2)
          have HEZ : Hid (Z.2 = altS ⟨n, m⟩ ps ps.length (two sj)) := Lib.hid (by rw [hZe, hn2, hm2]; rfl)
          have HRG : Hid (∀ i, i < ps.length → (ps.getD i zP).f < (two sj).e.length ∧ (ps.getD i zP).l < (two sj).e.length) := Lib.hid (fun i hi => by have := hrg i hi; rw [two_len]; omega)
          have HBD : Hid (n < (two sj).e.length ∧ (two sj).e.length ≤ 9000 ∧ tot (two sj).e ≤ 90000) := Lib.hid (by rw [two_len, two_tot]; omega)
          have HAL := Lib.hid (alt_len ⟨n, m⟩ ps (two sj))
          have HAT := Lib.hid (alt_tot ⟨n, m⟩ ps (two sj))
          have hkc2 := HKC.out
          have hjk : ((j : Int)) = (kl : Int) := by omega
          have HPS0 := Lib.hid hps
          have hix8 := index_piece hps
          have hv8 := hps.v
          subst hv8
          have hgqw := hgq.1
          clear hlay hlo hrg hZe hps hpl hdl hix hje hkc2 hn2 hm2 hel hrl2 htl
          generalize hln : ps.length = ln at *
          go_wp2_with ((with_reducible go_at_call 56); refine HAR.out.mono ?_; rintro en w3 ⟨rfl, S3, hm3, hg3⟩; have HM3 := Lib.hid hm3; (have HG3 := Lib.hid (HG1.out.trans hg3)); (have P43 := Lib.hid (P41.out.gw hg3)); (have HA3 := Lib.hid (HK1.out.va.gw hg3)); (have PS3 := Lib.hid (HPS0.out.gw hg3 hnb8)); (have NB3 := Lib.hid (hg3.out (HPS0.out.hd.hblk HPS0.out.pos) hnb8)); (have hsz3 := hg3.size); clear hm3 hg3)
          have HM4 := Lib.hid (HM3.out.up (below_alloc w3 (.cells #[.int .i64 n, .int .i64 m] 82)))
          have HG4 := Lib.hid (HG3.out.up (below_alloc w3 (.cells #[.int .i64 n, .int .i64 m] 82)))
          have PD4 := Lib.hid (P43.out.up (below_alloc w3 (.cells #[.int .i64 n, .int .i64 m] 82)))
          have HA4 := Lib.hid (HA3.out.up (below_alloc w3 (.cells #[.int .i64 n, .int .i64 m] 82)))
          have PS4 := Lib.hid (PS3.out.up (below_alloc w3 (.cells #[.int .i64 n, .int .i64 m] 82)))
          have PB4 : Hid (LB (w3.alloc (.cells #[.int .i64 n, .int .i64 m] 82)) S3 w3.heap.size n m) := Lib.hid ⟨pcB_new w3 n m, HM3.out.no (Nat.le_refl _)⟩
          clear HM1 HG1 HK1 P41 HX1 HO1 HNO HM3 HG3 P43 HA3 PS3 HAR HPS0 hxcr hxlr h6cr h6lr hacr hacl hbol hnb8 hob
          generalize w3.heap.size = p11 at *
          generalize w3.alloc (.cells #[.int .i64 n, .int .i64 m] 82) = w4 at *
          go_loopg [90] ln (fun gk iv wr => ∃ (j : Nat) (Sr : Nat → Prop), iv = .int .i64 j ∧ j ≤ ln ∧ MkT wr Sr g q (altS ⟨n, m⟩ ps j (two sj)) F ∧ Gw S w Sr wr ∧ PsAt wr (.slice (some ⟨b8, off8, none⟩) ln cap8) b8 off8 cap8 ps ∧ ¬ Sr b8 ∧ LB wr Sr (w.heap.size + 1) 0 0 ∧ LB wr Sr p11 n m ∧ FixC wr Sr w.heap.size #[.pointer (some ⟨g, 0, none⟩)] ∧ gk = ln - j)
          case atStart => exact ⟨0, S3, rfl, Nat.zero_le _, HM4.out, HG4.out, PS4.out, NB3.out, PD4.out, PB4.out, HA4.out, rfl⟩
          case round =>
            obtain ⟨i, Sr, rfl, hi, hm, hgw, hpsr, hnb, hlb, hlb2, hfa, rfl⟩ := hrel
            have HM1 := Lib.hid hm
            have HG1 := Lib.hid hgw
            have PS1 := Lib.hid hpsr
            have PD1 := Lib.hid hlb
            have PB1 := Lib.hid hlb2
            have HA1 := Lib.hid hfa
            have NB1 := Lib.hid hnb
            clear hm hgw hpsr hlb hlb2 hnb hfa HM4 HG4 PD4 HA4 PS4 PB4 NB3
            obtain ⟨b1, b2, b3⟩ := HBD.out
            have hal := HAL.out i
            have hat := HAT.out i
            by_cases hlt : i < ln
            · have hixi := fun W => hix8 W i hlt
              obtain ⟨pj, hpj⟩ : ∃ p, p = ps.getD i zP := ⟨_, rfl⟩
              have hrg := HRG.out i hlt
              rw [← hpj] at hrg
              have HCE : Hid (∀ c', c' < 2 → wr.cell? ⟨b8, off8 + i * 2 + c', none⟩ = some ((#[.int .i64 (pj.f : Nat), .int .i64 (pj.l : Nat)] : Array Value).getD c' undef)) := Lib.hid (fun c' h => by
                rw [hpj]
                rcases (show c' = 0 ∨ c' = 1 by omega) with rfl | rfl
                · exact PS1.out.c0 i (by omega)
                · exact PS1.out.c1 i (by omega))
              have HCS : Hid (altS ⟨n, m⟩ ps (i + 1) (two sj) = freeS pj.l m (freeS n pj.f (altS ⟨n, m⟩ ps i (two sj)))) := Lib.hid (by rw [hpj]; rfl)
              obtain ⟨si, hsi⟩ : ∃ si, si = altS ⟨n, m⟩ ps i (two sj) := ⟨_, rfl⟩
              rw [← hsi] at hal hat HM1 HCS
              have t1 := freeS_tot n pj.f si
              have l1 := freeS_len n pj.f si
              have hln4 : ln ≤ 400 := hps4
              clear hpj hsi
              go_wp2_with (refine wpList_load_cells rfl 82 _ rfl b8 (off8 + i * 2) 2 rfl _ _ HCE.out rfl Try.underlying82 rfl (by kernel_rfl) ?_)
              have HM2 := Lib.hid (HM1.out.up (below_alloc wr (.cells #[.int .i64 (pj.f : Nat), .int .i64 (pj.l : Nat)] 82)))
              have HG2 := Lib.hid (HG1.out.up (below_alloc wr (.cells #[.int .i64 (pj.f : Nat), .int .i64 (pj.l : Nat)] 82)))
              have PD2 := Lib.hid (PD1.out.up (below_alloc wr (.cells #[.int .i64 (pj.f : Nat), .int .i64 (pj.l : Nat)] 82)))
              have PB2 := Lib.hid (PB1.out.up (below_alloc wr (.cells #[.int .i64 (pj.f : Nat), .int .i64 (pj.l : Nat)] 82)))
              have HA2 := Lib.hid (HA1.out.up (below_alloc wr (.cells #[.int .i64 (pj.f : Nat), .int .i64 (pj.l : Nat)] 82)))
              have PS2 := Lib.hid (PS1.out.up (below_alloc wr (.cells #[.int .i64 (pj.f : Nat), .int .i64 (pj.l : Nat)] 82)))
              have PC2 : Hid (LB (wr.alloc (.cells #[.int .i64 (pj.f : Nat), .int .i64 (pj.l : Nat)] 82)) Sr wr.heap.size pj.f pj.l) := Lib.hid ⟨pcB_new wr _ _, HM1.out.no (Nat.le_refl _)⟩
              have NB2 := NB1
              clear HM1 HG1 PD1 PB1 HA1 PS1 NB1 HCE
              generalize wr.heap.size = p13 at *
              generalize wr.alloc (.cells #[.int .i64 (pj.f : Nat), .int .i64 (pj.l : Nat)] 82) = w2 at *
              have hc4 := HM2.out.f4
              have hgl := HM2.out.glt
              have hac2 : w2.cell? ⟨w.heap.size, 0, none⟩ = some (.pointer (some ⟨g, 0, none⟩)) := HA2.out.c 0 (show 0 < 1 by decide)
              have hal2 := HA2.out.lt
              have PBa := PB2.out.box.c0
              have PBb := PB2.out.box.c1
              have PBl := PB2.out.box.lt
              have PCa := PC2.out.box.c0
              have PCb := PC2.out.box.c1
              have PCl := PC2.out.box.lt
              try go_wp2
              refine wp_region_tailg [0,1,2,3,4,5,6,7] [] [8] (by kernel_rfl) (by kernel_rfl) ?_
              simp only [pick, List.map_cons, List.map_nil, List.getD_cons_zero, List.getD_cons_succ]
              repeat (go_big_quiet_step (fail))
              refine wpQuiet_nil ?_
              unfold wpAct
              unfold wpAct
              go_wp2_with ((with_reducible go_at_call 54); refine (freeT (HM2.out.up (drew_b _)) n pj.f (by omega) (by omega) (by omega)).mono ?_; rintro en w3 ⟨rfl, S3, hm, hg⟩; have HM3 := Lib.hid hm; have HG3 := Lib.hid ((HG2.out.up (drew_b _)).trans hg); have HA3 := Lib.hid ((HA2.out.up (drew_b _)).gw hg); have PD3 := Lib.hid ((PD2.out.up (drew_b _)).gw hg); have PB3 := Lib.hid ((PB2.out.up (drew_b _)).gw hg); have PC3 := Lib.hid ((PC2.out.up (drew_b _)).gw hg); have PS3 := Lib.hid ((PS2.out.up (drew_b _)).gw hg NB2.out); have NB3 := Lib.hid (hg.out (Nat.lt_of_lt_of_le (PS2.out.hd.hblk PS2.out.pos) (drew_b _).size) NB2.out); clear hm hg)
              refine ⟨trivial, ?_⟩
              unfold wpAct
              clear hc4 hgl hac2 hal2 PBa PBb PBl PCa PCb PCl HM2 HG2 HA2 PD2 PB2 PC2 PS2 NB2
              have t2 := freeS_tot pj.l m (freeS n pj.f si)
              have l2 := freeS_len pj.l m (freeS n pj.f si)
              have hc4 := HM3.out.f4
              have hgl := HM3.out.glt
              have hac3 : w3.cell? ⟨w.heap.size, 0, none⟩ = some (.pointer (some ⟨g, 0, none⟩)) := HA3.out.c 0 (show 0 < 1 by decide)
              have hal3 := HA3.out.lt
              have PBa := PB3.out.box.c0
              have PBb := PB3.out.box.c1
              have PBl := PB3.out.box.lt
              have PCa := PC3.out.box.c0
              have PCb := PC3.out.box.c1
              have PCl := PC3.out.box.lt
              try go_wp2
              refine wp_region_tailg [0,1,2,3,4,5,6,7] [] [8] (by kernel_rfl) (by kernel_rfl) ?_
              simp only [pick, List.map_cons, List.map_nil, List.getD_cons_zero, List.getD_cons_succ]
              repeat (go_big_quiet_step (fail))
              refine wpQuiet_nil ?_
              unfold wpAct
              unfold wpAct
              go_wp2_with ((with_reducible go_at_call 54); refine (freeT (HM3.out.up (drew_b _)) pj.l m (by omega) (by omega) (by omega)).mono ?_; rintro en w4 ⟨rfl, S4, hm, hg⟩; have HM4 := Lib.hid hm; have HG4 := Lib.hid ((HG3.out.up (drew_b _)).trans hg); have HA4 := Lib.hid ((HA3.out.up (drew_b _)).gw hg); have PD4 := Lib.hid ((PD3.out.up (drew_b _)).gw hg); have PB4 := Lib.hid ((PB3.out.up (drew_b _)).gw hg); have PC4 := Lib.hid ((PC3.out.up (drew_b _)).gw hg); have PS4 := Lib.hid ((PS3.out.up (drew_b _)).gw hg NB3.out); have NB4 := Lib.hid (hg.out (Nat.lt_of_lt_of_le (PS3.out.hd.hblk PS3.out.pos) (drew_b _).size) NB3.out); clear hm hg)
              refine ⟨trivial, ?_⟩
              unfold wpAct
              clear hc4 hgl hac3 hal3 PBa PBb PBl PCa PCb PCl HM3 HG3 HA3 PD3 PB3 PC3 PS3 NB3
              go_wp2
              go_roundg (ln - (i + 1))
              case measure => omega
              case rel =>
                exact ⟨i + 1, S4, by go_num, by omega, by rw [HCS.out]; exact HM4.out, HG4.out, PS4.out, NB4.out, PD4.out, PB4.out, HA4.out, rfl⟩
            · have hie : i = ln := by omega
              subst hie
              have P73 := PB1
              have P43 := PD1
              have HM3 : Hid (MkT wr Sr g q Z.2 F) := Lib.hid (by rw [HEZ.out]; exact HM1.out)
              have HG3 := HG1
              clear HM1 HG1 PB1 PD1 HA1 PS1 hal hat
              generalize wr = w3 at *
              have HC7 : Hid (∀ c, c < 2 → w3.cell? ⟨p11, 0 + c, none⟩ = some ((#[.int .i64 n, .int .i64 m] : Array Value).getD c undef)) := Lib.hid (fun c hcl => by
                rw [Nat.zero_add]
                rcases (show c = 0 ∨ c = 1 by omega) with rfl | rfl
                · exact P73.out.box.c0
                · exact P73.out.box.c1)
              have P4a := P43.out.box.c0
              have P4b := P43.out.box.c1
              have P4l := P43.out.box.lt
              have P4f := P43.out.box.free 0
              have P4g := P43.out.box.free 1
              have HST := Lib.hid (P43.out.box.set n m)
              go_wp2_with (refine wpList_load_cells rfl 82 _ rfl p11 0 2 rfl _ _ HC7.out rfl Try.underlying82 rfl (by kernel_rfl) ?_)
              refine ret_cell rfl rfl rfl HST.out.1.load ?_
              exact ⟨rfl, _, HM3.out.keep HST.out.2 P43.out.no (by omega), HG3.out.new HST.out.2 (by omega)⟩
    case inr.inr.inr.inr.inl =>
      have hxn := HXN.out
      have hc1 : cnt k = 1 := by have h2 := HOX.out; unfold okN at h2; simp only at hxn h2; omega
      cases k with
      | nil => simp [cnt] at hc1
      | cons y ky r =>
        have hr0 := cnt_zero r (by simpa [cnt] using hc1)
        subst hr0
        have hvl := HPT.out.len
        rw [treesOf_length] at hvl
        have hcp : 0 < vs.length := by rw [hvl]; simp [cnt]
        obtain ⟨ou, cu, bo, hu, hdo, hgo, hco, -, -⟩ := HPT.out.own.cases
        have hou := hdo.hat hcp
        subst hou
        obtain ⟨hgo1, hgo2⟩ := hgo hcp
        have hcu := hdo.hcap
        have hcu2 := hdo.hmax
        have hbol := hdo.hblk hcp
        have hboS := HMR.out.no hgo2
        have KJ0 : KJ g w.heap.size p6 bo b u vs (treesOf (.cons y ky .nil)) S wc := ⟨HF0.out, H60.out, ⟨fun i hi => by
          have hi' : i < vs.length := by simpa using hi
          rw [hco i hi']; simp [List.getD, Array.getD_eq_getD_getElem?, hi'], hbol, hboS⟩, hbS, HPT.out.rows⟩
        have HKJ := Lib.hid KJ0
        clear KJ0
        have hwk := HWK.out
        have hak := HAK.out
        obtain ⟨Y, hY⟩ : ∃ Y, Y = nodeS y (fun s => layF ky s) s := ⟨_, rfl⟩
        have hnk := node_ok y (fun s => layF ky s) (usz ky) (cnt ky) hak.1 hwk.1 (lay_ok ky hwk.2.1 hak.2.1) s
        rw [← hY] at hnk
        have k1 := hnk.len
        have k2 := hnk.rlen
        have k3 := hnk.rng 0 (by omega)
        have k4 := hnk.tot
        simp only [List.getD_cons_zero] at k1 k2 k3 k4
        have hZe : Z = (aroundP Y.2, loopS true true Y.1 Y.2) := by
          rw [HZ.out, nodeS_loop _ _ _ (by simp)]
          rw [hY]
          simp [layF, headP]
        have HZ2 := Lib.hid hZe
        have hn2 : n = Y.2.e.length := by rw [HN.out, hZe]; rfl
        have hm2 : m = Y.2.e.length + 1 := by rw [HMM.out, hZe]; rfl
        obtain ⟨hb1, hb2, hb3⟩ := HB.out
        have hun : unodeN ⟨5, xn, xa, xb, xc, xd, xl, xh⟩ (usz (.cons y ky .nil)) = unodeN y (usz ky) + 2 := by
          rw [unodeN_2 _ _ (by simp)]; simp [usz]
        rw [hun] at hb1 hb2 hb3
        have hkl : (flat ky).length < N := by simp only [flat, List.length_cons, List.length_append, List.length_nil] at hN; omega
        have hk4 : (flat ky).length < 400 := by simp only [flat, List.length_cons, List.length_append, List.length_nil] at h400; omega
        obtain ⟨u0, hu0⟩ : ∃ u0, u0 = vs.getD 0 undef := ⟨_, rfl⟩
        obtain ⟨qf, hqf⟩ : ∃ qf, qf = Y.1.f := ⟨_, rfl⟩
        obtain ⟨ql, hql⟩ : ∃ ql, ql = Y.1.l := ⟨_, rfl⟩
        have hr0 : NodesB wc b u0 (y :: flat ky) := by rw [hu0]; exact HKJ.out.rows 0 (by simp [treesOf])
        have HTR := Lib.hid (HIH.out wc.drew S g q s F u0 b y ky hkl (hr0.up (drew_b _)) hbS hk4 hwk.1 hwk.2.1 hak.1 hak.2.1 (HM0.out.up (drew_b _)) (by omega) (by omega) (by omega) qf ql (by rw [← hY]; exact hqf) (by rw [← hY]; exact hql))
        rw [← hY] at HTR
        have hoc : wc.cell? ⟨bo, 0, none⟩ = some u0 := by rw [hco 0 hcp, hu0]
        have hix : ∀ W : World, (Instr.indexAt 39 (.slice (some ⟨bo, 0, none⟩) vs.length cu) (.int .i64 0)).run Try.prog W = .ok (.pointer (some ⟨bo, 0, none⟩)) W := fun W => by
          have := index_tree hdo W .i64 0 (by omega) (by omega)
          simpa using this
        have h6c : wc.cell? ⟨p6, 0, none⟩ = some (.slice (some ⟨bo, 0, none⟩) vs.length cu) := by rw [← hu]; exact H60.out.c 0 (show 0 < 1 by decide)
        have h6l := H60.out.lt
        have h6n := H60.out.no
        have hkc : wc.cell? ⟨p5, 0, none⟩ = some (.int .i64 5) := HX0.out.c 0 (show 0 < 8 by decide)
        have hxlt := HX0.out.lt
        have hxno := HX0.out.no
        have hac : wc.cell? ⟨w.heap.size, 0, none⟩ = some (.pointer (some ⟨g, 0, none⟩)) := HF0.out.c 0 (show 0 < 1 by decide)
        have hal := HF0.out.lt
        have hano := HF0.out.no
        have HQ := Lib.hid (And.intro hqf hql)
        have HBY : Hid (Y.2.e.length ≤ 4000 ∧ Y.2.r.length ≤ 4000 ∧ tot Y.2.e ≤ 90000 ∧ qf < Y.2.e.length ∧ ql < Y.2.e.length) := Lib.hid ⟨by omega, by omega, by omega, by omega, by omega⟩
        have HE2 := Lib.hid (And.intro hn2 hm2)
        have HEZ : Hid (Z.2 = loopS true true ⟨qf, ql⟩ Y.2) := Lib.hid (by rw [hZe, hqf, hql])
        have hvl1 : vs.length = 1 := by rw [hvl, hc1]
        rw [hvl1] at hix h6c
        clear hxn hc1 hvl hcp hdo hgo hco hgo1 hgo2 hcu hcu2 hwk hak hY hnk k1 k2 k3 k4 hZe hn2 hm2 hb1 hb2 hb3 hun hkl hk4 hu0 hqf hql hr0 hu hvl1
        go_wp2
        refine wp_region_tail (fun w' => ∃ x, w' = wrt S wc x) [0,1,2,3,4,5,6,7,8,9,10] [11,12] [13] (by kernel_rfl) (by kernel_rfl) (ex_wrt (gw_below S (drew_b wc)).fx) ?_
        simp only [pick, List.map_cons, List.map_nil, List.getD_cons_zero, List.getD_cons_succ]
        repeat (go_big_quiet_step (fail))
        refine wpQuiet_nil ?_
        unfold wpAct
        go_wp2_with ((with_reducible go_at_call 36); refine HTR.out.mono ?_; rintro en w1 ⟨rfl, S1, hm1, hg1⟩; have HM1 := Lib.hid hm1; have HD1 := Lib.hid ((gw_below S (drew_b wc)).trans hg1); clear hm1 hg1)
        refine ⟨ex_wrt HD1.out.fx, ?_⟩
        obtain ⟨y1, y2, y3, y4, y5⟩ := HBY.out
        have HLO := Lib.hid (loopM HM1.out (by omega) (by omega) (by omega) true true qf ql y4 y5 n m HE2.out.1 HE2.out.2)
        clear y1 y2 y3 y4 y5
        unfold wpAct
        go_wp2_with ((with_reducible go_at_call 59); refine HLO.out.mono ?_; rintro en w2 ⟨rfl, S2, hm2, hg2⟩; have HM2 := Lib.hid hm2; have HD2 := Lib.hid (HD1.out.trans hg2); clear hm2 hg2)
        refine ⟨ex_wrt HD2.out.fx, ?_⟩
        have P41 := Lib.hid (P40.out.gw HD2.out)
        have HG1 := Lib.hid (HG0.out.trans HD2.out)
        have P4a := P41.out.box.c0
        have P4b := P41.out.box.c1
        have P4l := P41.out.box.lt
        have P4f := P41.out.box.free 0
        have P4g := P41.out.box.free 1
        have HST := Lib.hid (P41.out.box.set n m)
        unfold wpAct
        unfold wpAct
        go_wp2
        refine ⟨trivial, ?_⟩
        unfold wpAct
        go_wp2
        refine ret_cell rfl rfl rfl HST.out.1.load ?_
        exact ⟨rfl, S2, (by rw [HEZ.out]; exact HM2.out : MkT w2 S2 g q Z.2 F).keep HST.out.2 P41.out.no (by omega), HG1.out.new HST.out.2 (by omega)⟩
    case inr.inr.inr.inr.inr.inl =>
      have hxn := HXN.out
      have hc1 : cnt k = 1 := by have h2 := HOX.out; unfold okN at h2; simp only at hxn h2; omega
      cases k with
      | nil => simp [cnt] at hc1
      | cons y ky r =>
        have hr0 := cnt_zero r (by simpa [cnt] using hc1)
        subst hr0
        have hvl := HPT.out.len
        rw [treesOf_length] at hvl
        have hcp : 0 < vs.length := by rw [hvl]; simp [cnt]
        obtain ⟨ou, cu, bo, hu, hdo, hgo, hco, -, -⟩ := HPT.out.own.cases
        have hou := hdo.hat hcp
        subst hou
        obtain ⟨hgo1, hgo2⟩ := hgo hcp
        have hcu := hdo.hcap
        have hcu2 := hdo.hmax
        have hbol := hdo.hblk hcp
        have hboS := HMR.out.no hgo2
        have KJ0 : KJ g w.heap.size p6 bo b u vs (treesOf (.cons y ky .nil)) S wc := ⟨HF0.out, H60.out, ⟨fun i hi => by
          have hi' : i < vs.length := by simpa using hi
          rw [hco i hi']; simp [List.getD, Array.getD_eq_getD_getElem?, hi'], hbol, hboS⟩, hbS, HPT.out.rows⟩
        have HKJ := Lib.hid KJ0
        clear KJ0
        have hwk := HWK.out
        have hak := HAK.out
        obtain ⟨Y, hY⟩ : ∃ Y, Y = nodeS y (fun s => layF ky s) s := ⟨_, rfl⟩
        have hnk := node_ok y (fun s => layF ky s) (usz ky) (cnt ky) hak.1 hwk.1 (lay_ok ky hwk.2.1 hak.2.1) s
        rw [← hY] at hnk
        have k1 := hnk.len
        have k2 := hnk.rlen
        have k3 := hnk.rng 0 (by omega)
        have k4 := hnk.tot
        simp only [List.getD_cons_zero] at k1 k2 k3 k4
        have hZe : Z = (aroundP Y.2, loopS false true Y.1 Y.2) := by
          rw [HZ.out, nodeS_loop _ _ _ (by simp)]
          rw [hY]
          simp [layF, headP]
        have HZ2 := Lib.hid hZe
        have hn2 : n = Y.2.e.length := by rw [HN.out, hZe]; rfl
        have hm2 : m = Y.2.e.length + 1 := by rw [HMM.out, hZe]; rfl
        obtain ⟨hb1, hb2, hb3⟩ := HB.out
        have hun : unodeN ⟨6, xn, xa, xb, xc, xd, xl, xh⟩ (usz (.cons y ky .nil)) = unodeN y (usz ky) + 2 := by
          rw [unodeN_2 _ _ (by simp)]; simp [usz]
        rw [hun] at hb1 hb2 hb3
        have hkl : (flat ky).length < N := by simp only [flat, List.length_cons, List.length_append, List.length_nil] at hN; omega
        have hk4 : (flat ky).length < 400 := by simp only [flat, List.length_cons, List.length_append, List.length_nil] at h400; omega
        obtain ⟨u0, hu0⟩ : ∃ u0, u0 = vs.getD 0 undef := ⟨_, rfl⟩
        obtain ⟨qf, hqf⟩ : ∃ qf, qf = Y.1.f := ⟨_, rfl⟩
        obtain ⟨ql, hql⟩ : ∃ ql, ql = Y.1.l := ⟨_, rfl⟩
        have hr0 : NodesB wc b u0 (y :: flat ky) := by rw [hu0]; exact HKJ.out.rows 0 (by simp [treesOf])
        have HTR := Lib.hid (HIH.out wc.drew S g q s F u0 b y ky hkl (hr0.up (drew_b _)) hbS hk4 hwk.1 hwk.2.1 hak.1 hak.2.1 (HM0.out.up (drew_b _)) (by omega) (by omega) (by omega) qf ql (by rw [← hY]; exact hqf) (by rw [← hY]; exact hql))
        rw [← hY] at HTR
        have hoc : wc.cell? ⟨bo, 0, none⟩ = some u0 := by rw [hco 0 hcp, hu0]
        have hix : ∀ W : World, (Instr.indexAt 39 (.slice (some ⟨bo, 0, none⟩) vs.length cu) (.int .i64 0)).run Try.prog W = .ok (.pointer (some ⟨bo, 0, none⟩)) W := fun W => by
          have := index_tree hdo W .i64 0 (by omega) (by omega)
          simpa using this
        have h6c : wc.cell? ⟨p6, 0, none⟩ = some (.slice (some ⟨bo, 0, none⟩) vs.length cu) := by rw [← hu]; exact H60.out.c 0 (show 0 < 1 by decide)
        have h6l := H60.out.lt
        have h6n := H60.out.no
        have hkc : wc.cell? ⟨p5, 0, none⟩ = some (.int .i64 6) := HX0.out.c 0 (show 0 < 8 by decide)
        have hxlt := HX0.out.lt
        have hxno := HX0.out.no
        have hac : wc.cell? ⟨w.heap.size, 0, none⟩ = some (.pointer (some ⟨g, 0, none⟩)) := HF0.out.c 0 (show 0 < 1 by decide)
        have hal := HF0.out.lt
        have hano := HF0.out.no
        have HQ := Lib.hid (And.intro hqf hql)
        have HBY : Hid (Y.2.e.length ≤ 4000 ∧ Y.2.r.length ≤ 4000 ∧ tot Y.2.e ≤ 90000 ∧ qf < Y.2.e.length ∧ ql < Y.2.e.length) := Lib.hid ⟨by omega, by omega, by omega, by omega, by omega⟩
        have HE2 := Lib.hid (And.intro hn2 hm2)
        have HEZ : Hid (Z.2 = loopS false true ⟨qf, ql⟩ Y.2) := Lib.hid (by rw [hZe, hqf, hql])
        have hvl1 : vs.length = 1 := by rw [hvl, hc1]
        rw [hvl1] at hix h6c
        clear hxn hc1 hvl hcp hdo hgo hco hgo1 hgo2 hcu hcu2 hwk hak hY hnk k1 k2 k3 k4 hZe hn2 hm2 hb1 hb2 hb3 hun hkl hk4 hu0 hqf hql hr0 hu hvl1
        go_wp2
        refine wp_region_tail (fun w' => ∃ x, w' = wrt S wc x) [0,1,2,3,4,5,6,7,8,9,10] [11,12] [13] (by kernel_rfl) (by kernel_rfl) (ex_wrt (gw_below S (drew_b wc)).fx) ?_
        simp only [pick, List.map_cons, List.map_nil, List.getD_cons_zero, List.getD_cons_succ]
        repeat (go_big_quiet_step (fail))
        refine wpQuiet_nil ?_
        unfold wpAct
        go_wp2_with ((with_reducible go_at_call 36); refine HTR.out.mono ?_; rintro en w1 ⟨rfl, S1, hm1, hg1⟩; have HM1 := Lib.hid hm1; have HD1 := Lib.hid ((gw_below S (drew_b wc)).trans hg1); clear hm1 hg1)
        refine ⟨ex_wrt HD1.out.fx, ?_⟩
        obtain ⟨y1, y2, y3, y4, y5⟩ := HBY.out
        have HLO := Lib.hid (loopM HM1.out (by omega) (by omega) (by omega) false true qf ql y4 y5 n m HE2.out.1 HE2.out.2)
        clear y1 y2 y3 y4 y5
        unfold wpAct
        go_wp2_with ((with_reducible go_at_call 59); refine HLO.out.mono ?_; rintro en w2 ⟨rfl, S2, hm2, hg2⟩; have HM2 := Lib.hid hm2; have HD2 := Lib.hid (HD1.out.trans hg2); clear hm2 hg2)
        refine ⟨ex_wrt HD2.out.fx, ?_⟩
        have P41 := Lib.hid (P40.out.gw HD2.out)
        have HG1 := Lib.hid (HG0.out.trans HD2.out)
        have P4a := P41.out.box.c0
        have P4b := P41.out.box.c1
        have P4l := P41.out.box.lt
        have P4f := P41.out.box.free 0
        have P4g := P41.out.box.free 1
        have HST := Lib.hid (P41.out.box.set n m)
        unfold wpAct
        unfold wpAct
        go_wp2
        refine ⟨trivial, ?_⟩
        unfold wpAct
        go_wp2
        refine ret_cell rfl rfl rfl HST.out.1.load ?_
        exact ⟨rfl, S2, (by rw [HEZ.out]; exact HM2.out : MkT w2 S2 g q Z.2 F).keep HST.out.2 P41.out.no (by omega), HG1.out.new HST.out.2 (by omega)⟩
    case inr.inr.inr.inr.inr.inr.inl =>
      have hxn := HXN.out
      have hc1 : cnt k = 1 := by have h2 := HOX.out; unfold okN at h2; simp only at hxn h2; omega
      cases k with
      | nil => simp [cnt] at hc1
      | cons y ky r =>
        have hr0 := cnt_zero r (by simpa [cnt] using hc1)
        subst hr0
        have hvl := HPT.out.len
        rw [treesOf_length] at hvl
        have hcp : 0 < vs.length := by rw [hvl]; simp [cnt]
        obtain ⟨ou, cu, bo, hu, hdo, hgo, hco, -, -⟩ := HPT.out.own.cases
        have hou := hdo.hat hcp
        subst hou
        obtain ⟨hgo1, hgo2⟩ := hgo hcp
        have hcu := hdo.hcap
        have hcu2 := hdo.hmax
        have hbol := hdo.hblk hcp
        have hboS := HMR.out.no hgo2
        have KJ0 : KJ g w.heap.size p6 bo b u vs (treesOf (.cons y ky .nil)) S wc := ⟨HF0.out, H60.out, ⟨fun i hi => by
          have hi' : i < vs.length := by simpa using hi
          rw [hco i hi']; simp [List.getD, Array.getD_eq_getD_getElem?, hi'], hbol, hboS⟩, hbS, HPT.out.rows⟩
        have HKJ := Lib.hid KJ0
        clear KJ0
        have hwk := HWK.out
        have hak := HAK.out
        obtain ⟨Y, hY⟩ : ∃ Y, Y = nodeS y (fun s => layF ky s) s := ⟨_, rfl⟩
        have hnk := node_ok y (fun s => layF ky s) (usz ky) (cnt ky) hak.1 hwk.1 (lay_ok ky hwk.2.1 hak.2.1) s
        rw [← hY] at hnk
        have k1 := hnk.len
        have k2 := hnk.rlen
        have k3 := hnk.rng 0 (by omega)
        have k4 := hnk.tot
        simp only [List.getD_cons_zero] at k1 k2 k3 k4
        have hZe : Z = (aroundP Y.2, loopS true false Y.1 Y.2) := by
          rw [HZ.out, nodeS_loop _ _ _ (by simp)]
          rw [hY]
          simp [layF, headP]
        have HZ2 := Lib.hid hZe
        have hn2 : n = Y.2.e.length := by rw [HN.out, hZe]; rfl
        have hm2 : m = Y.2.e.length + 1 := by rw [HMM.out, hZe]; rfl
        obtain ⟨hb1, hb2, hb3⟩ := HB.out
        have hun : unodeN ⟨7, xn, xa, xb, xc, xd, xl, xh⟩ (usz (.cons y ky .nil)) = unodeN y (usz ky) + 2 := by
          rw [unodeN_2 _ _ (by simp)]; simp [usz]
        rw [hun] at hb1 hb2 hb3
        have hkl : (flat ky).length < N := by simp only [flat, List.length_cons, List.length_append, List.length_nil] at hN; omega
        have hk4 : (flat ky).length < 400 := by simp only [flat, List.length_cons, List.length_append, List.length_nil] at h400; omega
        obtain ⟨u0, hu0⟩ : ∃ u0, u0 = vs.getD 0 undef := ⟨_, rfl⟩
        obtain ⟨qf, hqf⟩ : ∃ qf, qf = Y.1.f := ⟨_, rfl⟩
        obtain ⟨ql, hql⟩ : ∃ ql, ql = Y.1.l := ⟨_, rfl⟩
        have hr0 : NodesB wc b u0 (y :: flat ky) := by rw [hu0]; exact HKJ.out.rows 0 (by simp [treesOf])
        have HTR := Lib.hid (HIH.out wc.drew S g q s F u0 b y ky hkl (hr0.up (drew_b _)) hbS hk4 hwk.1 hwk.2.1 hak.1 hak.2.1 (HM0.out.up (drew_b _)) (by omega) (by omega) (by omega) qf ql (by rw [← hY]; exact hqf) (by rw [← hY]; exact hql))
        rw [← hY] at HTR
        have hoc : wc.cell? ⟨bo, 0, none⟩ = some u0 := by rw [hco 0 hcp, hu0]
        have hix : ∀ W : World, (Instr.indexAt 39 (.slice (some ⟨bo, 0, none⟩) vs.length cu) (.int .i64 0)).run Try.prog W = .ok (.pointer (some ⟨bo, 0, none⟩)) W := fun W => by
          have := index_tree hdo W .i64 0 (by omega) (by omega)
          simpa using this
        have h6c : wc.cell? ⟨p6, 0, none⟩ = some (.slice (some ⟨bo, 0, none⟩) vs.length cu) := by rw [← hu]; exact H60.out.c 0 (show 0 < 1 by decide)
        have h6l := H60.out.lt
        have h6n := H60.out.no
        have hkc : wc.cell? ⟨p5, 0, none⟩ = some (.int .i64 7) := HX0.out.c 0 (show 0 < 8 by decide)
        have hxlt := HX0.out.lt
        have hxno := HX0.out.no
        have hac : wc.cell? ⟨w.heap.size, 0, none⟩ = some (.pointer (some ⟨g, 0, none⟩)) := HF0.out.c 0 (show 0 < 1 by decide)
        have hal := HF0.out.lt
        have hano := HF0.out.no
        have HQ := Lib.hid (And.intro hqf hql)
        have HBY : Hid (Y.2.e.length ≤ 4000 ∧ Y.2.r.length ≤ 4000 ∧ tot Y.2.e ≤ 90000 ∧ qf < Y.2.e.length ∧ ql < Y.2.e.length) := Lib.hid ⟨by omega, by omega, by omega, by omega, by omega⟩
        have HE2 := Lib.hid (And.intro hn2 hm2)
        have HEZ : Hid (Z.2 = loopS true false ⟨qf, ql⟩ Y.2) := Lib.hid (by rw [hZe, hqf, hql])
        have hvl1 : vs.length = 1 := by rw [hvl, hc1]
        rw [hvl1] at hix h6c
        clear hxn hc1 hvl hcp hdo hgo hco hgo1 hgo2 hcu hcu2 hwk hak hY hnk k1 k2 k3 k4 hZe hn2 hm2 hb1 hb2 hb3 hun hkl hk4 hu0 hqf hql hr0 hu hvl1
        go_wp2
        refine wp_region_tail (fun w' => ∃ x, w' = wrt S wc x) [0,1,2,3,4,5,6,7,8,9,10] [11,12] [13] (by kernel_rfl) (by kernel_rfl) (ex_wrt (gw_below S (drew_b wc)).fx) ?_
        simp only [pick, List.map_cons, List.map_nil, List.getD_cons_zero, List.getD_cons_succ]
        repeat (go_big_quiet_step (fail))
        refine wpQuiet_nil ?_
        unfold wpAct
        go_wp2_with ((with_reducible go_at_call 36); refine HTR.out.mono ?_; rintro en w1 ⟨rfl, S1, hm1, hg1⟩; have HM1 := Lib.hid hm1; have HD1 := Lib.hid ((gw_below S (drew_b wc)).trans hg1); clear hm1 hg1)
        refine ⟨ex_wrt HD1.out.fx, ?_⟩
        obtain ⟨y1, y2, y3, y4, y5⟩ := HBY.out
        have HLO := Lib.hid (loopM HM1.out (by omega) (by omega) (by omega) true false qf ql y4 y5 n m HE2.out.1 HE2.out.2)
        clear y1 y2 y3 y4 y5
        unfold wpAct
        go_wp2_with ((with_reducible go_at_call 59); refine HLO.out.mono ?_; rintro en w2 ⟨rfl, S2, hm2, hg2⟩; have HM2 := Lib.hid hm2; have HD2 := Lib.hid (HD1.out.trans hg2); clear hm2 hg2)
        refine ⟨ex_wrt HD2.out.fx, ?_⟩
        have P41 := Lib.hid (P40.out.gw HD2.out)
        have HG1 := Lib.hid (HG0.out.trans HD2.out)
        have P4a := P41.out.box.c0
        have P4b := P41.out.box.c1
        have P4l := P41.out.box.lt
        have P4f := P41.out.box.free 0
        have P4g := P41.out.box.free 1
        have HST := Lib.hid (P41.out.box.set n m)
        unfold wpAct
        unfold wpAct
        go_wp2
        refine ⟨trivial, ?_⟩
        unfold wpAct
        go_wp2
        refine ret_cell rfl rfl rfl HST.out.1.load ?_
        exact ⟨rfl, S2, (by rw [HEZ.out]; exact HM2.out : MkT w2 S2 g q Z.2 F).keep HST.out.2 P41.out.no (by omega), HG1.out.new HST.out.2 (by omega)⟩
    case inr.inr.inr.inr.inr.inr.inr =>
      have hxn := HXN.out
      have hc1 : cnt k = 1 := by have h2 := HOX.out; unfold okN at h2; simp only at hxn h2; omega
      cases k with
      | nil => simp [cnt] at hc1
      | cons y ky r =>
        have hr0 := cnt_zero r (by simpa [cnt] using hc1)
        subst hr0
        have hvl := HPT.out.len
        rw [treesOf_length] at hvl
        have hcp : 0 < vs.length := by rw [hvl]; simp [cnt]
        obtain ⟨ou, cu, bo, hu, hdo, hgo, hco, -, -⟩ := HPT.out.own.cases
        have hou := hdo.hat hcp
        subst hou
        obtain ⟨hgo1, hgo2⟩ := hgo hcp
        have hcu := hdo.hcap
        have hcu2 := hdo.hmax
        have hbol := hdo.hblk hcp
        have hboS := HMR.out.no hgo2
        have KJ0 : KJ g w.heap.size p6 bo b u vs (treesOf (.cons y ky .nil)) S wc := ⟨HF0.out, H60.out, ⟨fun i hi => by
          have hi' : i < vs.length := by simpa using hi
          rw [hco i hi']; simp [List.getD, Array.getD_eq_getD_getElem?, hi'], hbol, hboS⟩, hbS, HPT.out.rows⟩
        have HKJ := Lib.hid KJ0
        clear KJ0
        have hok := HOX.out
        have hlo : 0 ≤ xl ∧ xl ≤ 30 ∧ -1 ≤ xh := by unfold okN at hok; simp only at hok; omega
        have htl := timesN_le hok rfl
        obtain ⟨t, ht⟩ : ∃ t : Nat, timesN ⟨8, xn, xa, xb, xc, xd, xl, xh⟩ = t := ⟨_, (Int.toNat_of_nonneg htl.1).symm⟩
        have ht30 : t ≤ 30 := by omega
        have htn : (timesN ⟨8, xn, xa, xb, xc, xd, xl, xh⟩).toNat = t := by rw [ht]; rfl
        have hpe : (fun s => headP (layF (.cons y ky .nil) s)) = fun s => nodeS y (fun s => layF ky s) s := by funext s; simp [layF, headP]
        have hus : usz (.cons y ky .nil) = unodeN y (usz ky) := by simp [usz]
        have hZe : Z = (aroundP s, (repN ⟨8, xn, xa, xb, xc, xd, xl, xh⟩ t (aroundP s) (fun s => nodeS y (fun s => layF ky s) s) (iff (decide (xl = 0)) (freeS (aroundP s).f (aroundP s).l) (two s)) t).2) := by
          rw [HZ.out, nodeS_8 _ _ _ rfl]
          unfold repS
          rw [hpe, htn]
        have HZ2 := Lib.hid hZe
        have hn2 : n = s.e.length := by rw [HN.out, hZe]; rfl
        have hm2 : m = s.e.length + 1 := by rw [HMM.out, hZe]; rfl
        obtain ⟨hb1, hb2, hb3⟩ := HB.out
        have hun : unodeN ⟨8, xn, xa, xb, xc, xd, xl, xh⟩ (usz (.cons y ky .nil)) = 2 + t * unodeN y (usz ky) := by
          rw [unodeN_8 _ _ rfl, htn, hus]
        rw [hun] at hb1 hb2 hb3
        have hwk := HWK.out
        have hak := HAK.out
        have hkl : (flat ky).length < N := by simp only [flat, List.length_cons, List.length_append, List.length_nil] at hN; omega
        have hk4 : (flat ky).length < 400 := by simp only [flat, List.length_cons, List.length_append, List.length_nil] at h400; omega
        have hv1 : vs = [vs.getD 0 undef] := by
          have h1 : vs.length = 1 := by rw [hvl, hc1]
          match vs, h1 with
          | [z], _ => rfl
        obtain ⟨u0, hu0⟩ : ∃ u0, u0 = vs.getD 0 undef := ⟨_, rfl⟩
        rw [← hu0] at hv1
        have hKP := lay_ok (.cons y ky .nil) hwk hak
        have hp : ∀ s, LayOk s ([(nodeS y (fun s => layF ky s) s).1], (nodeS y (fun s => layF ky s) s).2) (unodeN y (usz ky)) 1 := fun s => node_ok y (fun s => layF ky s) (usz ky) (cnt ky) hak.1 hwk.1 (lay_ok ky hwk.2.1 hak.2.1) s
        have hT : ∀ (w : World) (S : Nat → Prop) (s : St), NodesB w b u0 (y :: flat ky) → ¬ S b → MkT w S g q s F → s.e.length + unodeN y (usz ky) ≤ 4000 → s.r.length + unodeN y (usz ky) ≤ 4000 → tot s.e + 2 * unodeN y (usz ky) ≤ 90000 →
            ∀ n m : Nat, n = (nodeS y (fun s => layF ky s) s).1.f → m = (nodeS y (fun s => layF ky s) s).1.l → Calls Try.prog 36 #[.pointer (some ⟨g, 0, none⟩), u0] w fun e w' => e = .returned (.agg #[.int .i64 n, .int .i64 m]) ∧ ∃ S', MkT w' S' g q (nodeS y (fun s => layF ky s) s).2 F ∧ Gw S w S' w' :=
          fun w S s hnb hb hm b1 b2 b3 n m hn hm2 => HIH.out w S g q s F u0 b y ky hkl hnb hb hk4 hwk.1 hwk.2.1 hak.1 hak.2.1 hm b1 b2 b3 n m hn hm2
        have hPart : ∀ (w1 : World) (S1 : Nat → Prop) (s1 : St), MkT w1 S1 g q s1 F → KJ g w.heap.size p6 bo b u vs (treesOf (.cons y ky .nil)) S1 w1 → s1.e.length + unodeN y (usz ky) ≤ 4000 → s1.r.length + unodeN y (usz ky) ≤ 4000 → tot s1.e + 2 * unodeN y (usz ky) ≤ 90000 → ∀ n m : Nat, n = (nodeS y (fun s => layF ky s) s1).1.f → m = (nodeS y (fun s => layF ky s) s1).1.l → Calls Try.prog 58 #[.pointer (some ⟨w.heap.size, 0, none⟩), .pointer (some ⟨p6, 0, none⟩)] w1 fun e w2 => e = .returned (.agg #[.int .i64 n, .int .i64 m]) ∧ ∃ S2, MkT w2 S2 g q (nodeS y (fun s => layF ky s) s1).2 F ∧ Gw S1 w1 S2 w2 :=
          fun w1 S1 s1 hm1 hj1 b1 b2 b3 n m hn hm2 => by
            have hv2 : vs.length = 1 := by rw [hvl, hc1]
            rw [hu, hv2] at hj1
            exact tree1M hT hj1 hv1 (by omega) hcu2 hm1 b1 b2 b3 n m hn hm2
        have HRE : Hid (Calls Try.prog 57 #[.pointer (some ⟨g, 0, none⟩), .agg #[.int .i64 8, .int .i64 xn, .int .u64 xa, .int .u64 xb, .int .u64 xc, .int .u64 xd, .int .i64 xl, .int .i64 xh], .func (.func 58) #[] #[.pointer (some ⟨w.heap.size, 0, none⟩), .pointer (some ⟨p6, 0, none⟩)]] wc fun e w' => e = .returned (.agg #[.int .i64 n, .int .i64 m]) ∧ ∃ S', MkT w' S' g q Z.2 F ∧ Gw S wc S' w') := Lib.hid (by
          rw [hZe]
          have e1 : t * (2 * unodeN y (usz ky)) = 2 * (t * unodeN y (usz ky)) := by rw [Nat.mul_left_comm]
          rcases Classical.em (xl = 0) with hz | hz
          · exact repeatM0 (fun S w' => KJ g w.heap.size p6 bo b u vs (treesOf (.cons y ky .nil)) S w') (fun S w1 S' w2 h1 h2 => KJ.gw S w1 S' w2 (by simp [treesOf]) h1 h2) (fun S w1 w2 h1 h2 => KJ.up S w1 w2 h1 h2) 8 xn xa xb xc xd xl xh w.heap.size p6 (fun s => nodeS y (fun s => layF ky s) s) (unodeN y (usz ky)) t ht ht30 hlo.1 hlo.2.1 hlo.2.2 hp hPart HM0.out HKJ.out (by omega) (by omega) (by omega) n m hz hn2 hm2
          · exact repeatM1 (fun S w' => KJ g w.heap.size p6 bo b u vs (treesOf (.cons y ky .nil)) S w') (fun S w1 S' w2 h1 h2 => KJ.gw S w1 S' w2 (by simp [treesOf]) h1 h2) (fun S w1 w2 h1 h2 => KJ.up S w1 w2 h1 h2) 8 xn xa xb xc xd xl xh w.heap.size p6 (fun s => nodeS y (fun s => layF ky s) s) (unodeN y (usz ky)) t ht ht30 hlo.1 hlo.2.1 hlo.2.2 hp hPart HM0.out HKJ.out (by omega) (by omega) (by omega) n m hz hn2 hm2)
        have hkc : wc.cell? ⟨p5, 0, none⟩ = some (.int .i64 8) := HX0.out.c 0 (show 0 < 8 by decide)
        have hxlt := HX0.out.lt
        have hac : wc.cell? ⟨w.heap.size, 0, none⟩ = some (.pointer (some ⟨g, 0, none⟩)) := HF0.out.c 0 (show 0 < 1 by decide)
        have hal := HF0.out.lt
        clear hxn hc1 hvl hcp hdo hgo hco hgo1 hgo2 hcu hcu2 hbol hboS hok hlo htl ht ht30 htn hpe hus hZe hn2 hm2 hb1 hb2 hb3 hun hwk hak hkl hk4 hv1 hu0 hKP hp hT hPart hu
        go_wp2_with (first | (refine wpList_load_cells rfl 100 _ rfl p5 0 8 rfl _ _ (fixC_cells HX0.out 8 rfl) rfl Try.underlying100 rfl (by kernel_rfl) ?_) | ((with_reducible go_at_call 57); refine HRE.out.mono ?_; rintro en w1 ⟨rfl, S1, hm1, hg1⟩; have HM1 := Lib.hid hm1; have HG1 := Lib.hid (HG0.out.trans hg1); have P41 := Lib.hid (P40.out.gw hg1); (have P4a := P41.out.box.c0); (have P4b := P41.out.box.c1); (have P4l := P41.out.box.lt); (have P4f := P41.out.box.free 0); (have P4g := P41.out.box.free 1); clear hm1 hg1))
        have HST := Lib.hid (P41.out.box.set n m)
        refine ret_cell rfl rfl rfl HST.out.1.load ?_
        exact ⟨rfl, S1, HM1.out.keep HST.out.2 P41.out.no (by omega), HG1.out.new HST.out.2 (by omega)⟩
end Go.Cm
