/- Texts of this claim, joined: walks of small functions and plain facts about them. Conditions: as each says. -/
import Derived.Test.YtfnkhcibcffcmaaGC
import Derived.Test.YtfnkhcibcffcmaaGD
import Derived.Deep.DeepCutAuto
/- The walk of the program's kids of a node: their trees. Conditions: none. -/
namespace Go.Cm
open Go.RowKit Go.Proofs

theorem SlK.midB {P : Program} {k : Nat} {w : World} {v : Value} {l : List (List Value)} (h : SlK k w v l) (t E : TypeId) (ht : P.underlying t = some (.slice E)) (hE : (P.info? E).map (·.size) = some k) (n m : Nat) (hn : n ≤ m) (hm : m ≤ l.length) :
    ∃ u, (∀ W : World, (Instr.sliceAt t v (some (.int .i64 (n : Int))) (some (.int .i64 (m : Int))) none).run P W = .ok u W) ∧ SlK k w u ((l.drop n).take (m - n)) ∧ u.ownBlock = v.ownBlock ∧ u.oneCell' = true := by
  obtain ⟨oa, cap, b, off, rfl, hd, hc⟩ := h
  obtain ⟨h1, h2⟩ := run_cutK t E ht hE
  have hcap := hd.hcap
  have hl : ((l.drop n).take (m - n)).length = m - n := by rw [List.length_take, List.length_drop]; omega
  refine ⟨sliced oa n m cap k, fun W => ?_, ?_, ?_, rfl⟩
  · rw [run_sliceAt_slice (P := P) (t := t) (h := h1), run_slice_lh (t := t) (ht := h1) (h0 := by omega) (h1 := by omega) (h2 := by omega), h2]
    simp [Result.andThen]
  · refine ⟨if cap = n then oa else oa.map (·.add (n * k)), cap - n, b, off + n * k, by rw [hl]; simp [sliced], ⟨fun h0 => ?_, by omega, by have := hd.hmax; omega, by have := hd.hsml; omega, fun h0 => hd.hblk (by omega)⟩, fun i hi c hcl => ?_⟩
    · rw [hl] at h0
      rw [if_neg (by omega), hd.hat (by omega)]
      simp [add_off]
    · rw [hl] at hi
      have := hc (n + i) (by omega) c hcl
      rw [Nat.add_mul, ← Nat.add_assoc] at this
      rw [this]
      simp [List.getD, hi]
  · cases oa with
    | none => by_cases hcn : cap = n <;> simp [sliced, Value.ownBlock, hcn]
    | some a =>
      have : (a.add (n * k)).block = a.block := by unfold Addr.add; split <;> rfl
      by_cases hcn : cap = n <;> simp [sliced, Value.ownBlock, hcn, this]
/-- nodes in block b -/
structure NodesB (w : World) (b : Nat) (v : Value) (l : List Nd) : Prop where
  at_ : NodesAt w v l
  blk : v.ownBlock = some b
  pos : 0 < l.length
  one : v.oneCell' = true
theorem NodesB.lt {w : World} {b : Nat} {v : Value} {l : List Nd} (h : NodesB w b v l) : b < w.heap.size := by
  obtain ⟨oa, cap, b', off, rfl, hd, -⟩ := h.at_.open
  obtain rfl := hd.hat h.pos
  have := h.blk
  simp only [Value.ownBlock, Option.some.injEq] at this
  subst this
  exact hd.hblk h.pos
theorem NodesB.gw {S S1 : Nat → Prop} {w w' : World} {b : Nat} {v : Value} {l : List Nd} (h : NodesB w b v l) (hg : Gw S w S1 w') (hn : ¬ S b) : NodesB w' b v l := by
  refine ⟨?_, h.blk, h.pos, h.one⟩
  obtain ⟨oa, cap, b', off, rfl, hd, hc⟩ := h.at_
  have hpos : 0 < (l.map ndC).length := by rw [List.length_map]; exact h.pos
  obtain rfl := hd.hat hpos
  have hb := h.blk
  simp only [Value.ownBlock, Option.some.injEq] at hb
  subst hb
  exact ⟨_, cap, b', off, rfl, ⟨hd.hat, hd.hcap, hd.hmax, hd.hsml, fun h0 => Nat.lt_of_lt_of_le (hd.hblk h0) hg.size⟩, fun i hi c hcl => (hg.cell (hd.hblk hpos) hn).trans (hc i hi c hcl)⟩
theorem NodesB.up {w w' : World} {b : Nat} {v : Value} {l : List Nd} (h : NodesB w b v l) (hb : Below w.heap.size w w') : NodesB w' b v l := ⟨h.at_.up hb, h.blk, h.pos, h.one⟩
theorem NodesB.form {w : World} {b : Nat} {v : Value} {l : List Nd} (h : NodesB w b v l) : ∃ o n c, v = .slice o n c := by
  obtain ⟨oa, cap, b', off, hv, -, -⟩ := h.at_.open
  exact ⟨_, _, _, hv⟩
theorem NodesB.mid {w : World} {b : Nat} {v : Value} {l : List Nd} (h : NodesB w b v l) (n m : Nat) (hn : n < m) (hm : m ≤ l.length) :
    ∃ u, (∀ W : World, (Instr.sliceAt 48 v (some (.int .i64 (n : Int))) (some (.int .i64 (m : Int))) none).run Try.prog W = .ok u W) ∧ NodesB w b u ((l.drop n).take (m - n)) := by
  obtain ⟨u, h1, h2, h3, h4⟩ := SlK.midB (P := Try.prog) h.at_ 48 100 Try.underlying48 (by kernel_rfl) n m (by omega) (by simpa using hm)
  exact ⟨u, h1, by unfold NodesAt; rw [List.map_take, List.map_drop]; exact h2, h3.trans h.blk, by rw [List.length_take, List.length_drop]; omega, h4⟩

/-- the lists of a forest's trees -/
def treesOf : Fo → List (List Nd)
  | .nil => []
  | .cons x k r => (x :: flat k) :: treesOf r
theorem treesOf_length : ∀ f, (treesOf f).length = cnt f
  | .nil => rfl
  | .cons x k r => by simp [treesOf, cnt, treesOf_length r]
/-- parts of a node, from block B on -/
structure Parts (w : World) (B b : Nat) (u : Value) (vs : List Value) (tl : List (List Nd)) : Prop where
  own : Own w B 48 u vs
  len : vs.length = tl.length
  rows : ∀ i, i < tl.length → NodesB w b (vs.getD i undef) (tl.getD i [])

set_option maxRecDepth 100000 in
theorem kidsP {w : World} {v : Value} {b : Nat} {x : Nd} {k : Fo} (h : NodesB w b v (x :: flat k)) (hl : (flat k).length < 400) (hn : x.n = cnt k) (hk : wf k) :
    Calls Try.prog 55 #[v] w fun e w' => ∃ u vs, e = .returned u ∧ Parts w' w.heap.size b u vs (treesOf k) ∧ Below w.heap.size w w' := by
  have HB := Lib.hid h
  have HEND := Lib.hid (fun w' hb j => endP (NodesAt.up h.at_ hb (w' := w')) (by simp; omega) j)
  obtain ⟨oa, cap, b', off, rfl, hd, hc⟩ := h.at_.open
  have hix : ∀ W : World, (Instr.indexAt 48 (.slice oa (x :: flat k).length cap) (.int .i64 0)).run Try.prog W = .ok (.pointer (some ⟨b', off, none⟩)) W := fun (W : World) => by
    have := index_node hd W .i64 0 (by omega) (by simp)
    simpa using this
  have hcell := hc 0 (by simp) 1 (by decide)
  change w.cell? ⟨b', off + 0 * 8 + 1, none⟩ = some (.int .i64 x.n) at hcell
  have hcell1 : w.cell? ⟨b', off + 1, none⟩ = some (.int .i64 (cnt k : Nat)) := by rw [Nat.zero_mul, Nat.add_zero, hn] at hcell; exact hcell
  have hb := hd.hblk (by simp)
  have hck := cnt_le k
  have HK := Lib.hid hk
  obtain ⟨l, hle⟩ : ∃ l, l = x :: flat k := ⟨_, rfl⟩
  have hl1 : l.length ≤ 1 + (flat k).length := by rw [hle]; simp; omega
  have hl2 : 1 + (flat k).length ≤ l.length := by rw [hle]; simp; omega
  have HLD : Hid (l.drop 1 = flat k) := Lib.hid (by rw [hle]; rfl)
  rw [← hle] at HB HEND hix ⊢
  clear h hd hc hcell hk hn hle
  go_enter Try.func55, Try.ntmps55
  go_wp2
  go_loopg [3, 4, 10] (cnt k) (fun gk ov av jv wr => ∃ (j at_ : Nat) (r : Fo) (vs : List Value) (dn : List (List Nd)), jv = .int .i64 j ∧ av = .int .i64 at_ ∧ at_ + (flat r).length = l.length ∧ j + cnt r = cnt k ∧ l.drop at_ = flat r ∧ wf r ∧ dn ++ treesOf r = treesOf k ∧ dn.length = j ∧ Parts wr w.heap.size b ov vs dn ∧ Below w.heap.size w wr ∧ gk = cnt k - j)
  case atStart => exact ⟨0, 1, k, [], [], rfl, by push_cast; rfl, by omega, by omega, HLD.out, HK.out, rfl, rfl, ⟨Own.nil _ _ _, rfl, fun i hi => absurd hi (Nat.not_lt_zero i)⟩, Below.refl _ _, rfl⟩
  case round =>
    obtain ⟨j, at_, r, vs, dn, rfl, rfl, hatl, hj, hdr, hwr, hls, hll2, hown, hbel, rfl⟩ := hrel
    have HO := Lib.hid hown
    have HBL := Lib.hid hbel
    have HLS := Lib.hid hls
    clear hown hbel hls
    have hcw := (HBL.out.cell (p := ⟨b', off + 1, none⟩) hb).trans hcell1
    have hbw : b' < wr.heap.size := by have := HBL.out.size; omega
    cases r with
    | nil =>
      have hje : j = cnt k := by simpa [cnt] using hj
      have HE : Hid (dn = treesOf k) := Lib.hid (by rw [← HLS.out]; simp [treesOf])
      go_wp2
      go_ret
      refine ⟨u3, vs, rfl, ?_, HBL.out⟩
      rw [← HE.out]
      exact HO.out
    | cons y ky r' =>
      simp only [cnt] at hj
      simp only [flat] at hdr
      simp only [flat, List.length_cons, List.length_append] at hatl
      obtain ⟨hy1, hy2, hy3⟩ := hwr
      have hend := endF_tree l.length (flat r') y ky hy1 hy2 (by omega) at_
      rw [← hdr] at hend
      obtain ⟨-, -, hdr1⟩ := drop_cons (d := zN) hdr
      have HDR : Hid (l.drop (at_ + 1 + (flat ky).length) = flat r') := Lib.hid (drop_app hdr1)
      have hee : ((at_ : Int) + (1 + (flat ky).length)) = ((at_ + 1 + (flat ky).length : Nat) : Int) := by push_cast; omega
      rw [hee] at hend
      obtain ⟨u, hsl, hnu⟩ := HB.out.mid at_ (at_ + 1 + (flat ky).length) (by omega) (by omega)
      have htk : (l.drop at_).take (at_ + 1 + (flat ky).length - at_) = y :: flat ky := by
        rw [hdr, show at_ + 1 + (flat ky).length - at_ = (flat ky).length + 1 by omega, List.take_succ_cons, List.take_left]
      rw [htk] at hnu
      obtain ⟨ou, lu, cu, rfl⟩ := hnu.form
      obtain ⟨en, hen⟩ : ∃ en, en = at_ + 1 + (flat ky).length := ⟨_, rfl⟩
      rw [← hen] at hend hsl HDR
      have HEN := Lib.hid hend
      have HW3 := Lib.hid hy3
      have HNU := Lib.hid hnu
      have HVL : Hid (vs.length = j) := Lib.hid (HO.out.len.trans hll2)
      have hvb : vs.length + 1 ≤ 4294967296 := by have := HVL.out; omega
      have HE2 := Lib.hid hen
      clear hdr hdr1 hend hee hy1 hy2 hy3 htk hnu hen
      have HEC := Lib.hid (HEND.out wr HBL.out at_)
      go_wp2_with (first | ((with_reducible go_at_call 67); refine HEC.out.mono ?_; rintro en' w' ⟨rfl, x6, rfl⟩; rw [HEN.out]; have HWX : Hid (Below wr.heap.size wr ((ext wr x6).alloc (.cells #[.slice ou lu cu] 48))) := Lib.hid ((ext_below wr x6).trans ((below_alloc (ext wr x6) (.cells #[.slice ou lu cu] 48)).mono (size_ext wr x6)))) | (at_builtin; refine wpList_app rfl (.tmp 15) (.tmp 20) 39 rfl w.heap.size 48 (.slice none 0 0) 24 Try.underlying39 (by kernel_rfl) rfl (by decide) u3 vs rfl (HO.out.own.up HWX.out) (.slice (some ⟨(ext wr x6).heap.size, 0, none⟩) 1 1) [.slice ou lu cu] rfl (by simpa using sl_lit (ext wr x6) #[.slice ou lu cu] 48 (by simp)) (by intro z hz; rw [List.mem_singleton] at hz; rw [hz]; exact HNU.out.one) (by simpa using hvb) (Nat.le_trans HBL.out.size HWX.out.size) ?_; intro v' w5 hown1 hg1 hk1; have HO1 := Lib.hid hown1; have HG1 := Lib.hid hg1; clear hown1 hg1 hk1))
      have HB5 := Lib.hid (below_grown (HBL.out.trans (HWX.out.mono HBL.out.size)) (Nat.le_trans HBL.out.size HWX.out.size) (HO.out.own.up HWX.out) HG1.out)
      go_roundg (cnt k - (j + 1))
      case measure => omega
      case rel =>
        have hlv := HVL.out
        have hen := HE2.out
        refine ⟨j + 1, en, r', vs ++ [.slice ou lu cu], dn ++ [y :: flat ky], by go_num, rfl, by omega, by omega, HDR.out, HW3.out, ?_, by simp [hll2], ⟨HO1.out, by rw [List.length_append, List.length_append, hlv, hll2]; rfl, fun i hi => ?_⟩, HB5.out, rfl⟩
        · rw [← HLS.out]; simp [treesOf]
        · rw [List.length_append, List.length_singleton] at hi
          have hgx : Gw (fun k => w.heap.size ≤ k) w (fun k => w.heap.size ≤ k) w5 := ⟨⟨HB5.out.os, HB5.out.tape, HB5.out.output, HB5.out.size, fun k hk _ => HB5.out.block k hk⟩, fun k h => .inl h⟩
          have hbb := HB.out.lt
          by_cases hil : i < dn.length
          · rw [getD_append_left' (by omega), getD_append_left' hil]
            exact (HO.out.rows i hil).gw (S := fun k => w.heap.size ≤ k) (S1 := fun k => w.heap.size ≤ k) ⟨⟨HWX.out.os.trans rfl |>.trans rfl |> fun e => by have h1 := HB5.out.os; have h2 := HBL.out.os; rw [h1, h2], by have h1 := HB5.out.tape; have h2 := HBL.out.tape; rw [h1, h2], by have h1 := HB5.out.output; have h2 := HBL.out.output; rw [h1, h2], Nat.le_trans HWX.out.size HG1.out.size, fun k hk hn => by rw [HB5.out.block k (by omega), HBL.out.block k (by omega)]⟩, fun k h => .inl h⟩ (by omega)
          · have hie : i = dn.length := by omega
            subst hie
            rw [getD_append_one, hll2, ← hlv, getD_append_one]
            exact HNU.out.gw hgx (by omega)
end Go.Cm

/- The walk of the maker's repeat; a box whose cells stay. Conditions: none. -/
namespace Go.Cm
open Go.RowKit Go.Proofs

/-- a block whose first cells are C, none of the maker's -/
structure FixC (w : World) (S : Nat → Prop) (p : Nat) (C : Array Value) : Prop where
  c : ∀ i, i < C.size → w.cell? ⟨p, i, none⟩ = some (C.getD i undef)
  lt : p < w.heap.size
  no : ¬ S p
theorem FixC.gw {S S1 : Nat → Prop} {w w' : World} {p : Nat} {C : Array Value} (h : FixC w S p C) (hg : Gw S w S1 w') : FixC w' S1 p C := ⟨fun i hi => (hg.cell h.lt h.no).trans (h.c i hi), Nat.lt_of_lt_of_le h.lt hg.size, hg.out h.lt h.no⟩
theorem FixC.up {S : Nat → Prop} {w w' : World} {p : Nat} {C : Array Value} (h : FixC w S p C) (hb : Below w.heap.size w w') : FixC w' S p C := h.gw (gw_below S hb)
theorem fixC_new (w : World) (S : Nat → Prop) (C : Array Value) (E : TypeId) (hn : ¬ S w.heap.size) : FixC (w.alloc (.cells C E)) S w.heap.size C := ⟨fun i hi => by rw [World.cell?_alloc_new]; simp [Array.getD_eq_getD_getElem?, hi], by simp, hn⟩
theorem fixC_cells {w : World} {S : Nat → Prop} {p : Nat} {C : Array Value} (h : FixC w S p C) (n : Nat) (hn : C.size = n) : ∀ c, c < n → w.cell? ⟨p, 0 + c, none⟩ = some (C.getD c undef) := fun c hc => by rw [Nat.zero_add]; exact h.c c (by omega)
abbrev ndV (x : Nd) : Array Value := #[.int .i64 x.kd, .int .i64 x.n, .int .u64 x.a, .int .u64 x.b, .int .u64 x.c, .int .u64 x.d, .int .i64 x.lo, .int .i64 x.hi]

set_option maxRecDepth 100000 in
set_option maxHeartbeats 8000000 in
theorem repeatM0 {w : World} {S : Nat → Prop} {g q : Nat} {s : St} {F : Int} (J : (Nat → Prop) → World → Prop) (hJg : ∀ S w S' w', J S w → Gw S w S' w' → J S' w') (hJb : ∀ S w w', J S w → Below w.heap.size w w' → J S w')
    (k n a b c d lo hi : Int) (pa pb : Nat) (part : St → Pc × St) (u t : Nat) (htt : timesN ⟨k, n, a, b, c, d, lo, hi⟩ = t) (ht30 : t ≤ 30) (_hlo : 0 ≤ lo) (_hlo2 : lo ≤ 30) (_hhi : -1 ≤ hi) (hp : ∀ s, LayOk s ([(part s).1], (part s).2) u 1)
    (hPart : ∀ (w1 : World) (S1 : Nat → Prop) (s1 : St), MkT w1 S1 g q s1 F → J S1 w1 → s1.e.length + u ≤ 4000 → s1.r.length + u ≤ 4000 → tot s1.e + 2 * u ≤ 90000 → ∀ n m : Nat, n = (part s1).1.f → m = (part s1).1.l → Calls Try.prog 58 #[.pointer (some ⟨pa, 0, none⟩), .pointer (some ⟨pb, 0, none⟩)] w1 fun e w2 => e = .returned (.agg #[.int .i64 n, .int .i64 m]) ∧ ∃ S2, MkT w2 S2 g q (part s1).2 F ∧ Gw S1 w1 S2 w2)
    (h : MkT w S g q s F) (hj0 : J S w) (hl : s.e.length + 2 + t * u ≤ 4000) (hr : s.r.length + 2 + t * u ≤ 4000) (htot : tot s.e + 1 + t * (2 * u) ≤ 90000) (np mp : Nat) (hl0 : lo = 0) (hnp : np = s.e.length) (hmp : mp = s.e.length + 1) :
    Calls Try.prog 57 #[.pointer (some ⟨g, 0, none⟩), .agg #[.int .i64 k, .int .i64 n, .int .u64 a, .int .u64 b, .int .u64 c, .int .u64 d, .int .i64 lo, .int .i64 hi], .func (.func 58) #[] #[.pointer (some ⟨pa, 0, none⟩), .pointer (some ⟨pb, 0, none⟩)]] w fun e w' => e = .returned (.agg #[.int .i64 np, .int .i64 mp]) ∧ ∃ S', MkT w' S' g q (repN ⟨k, n, a, b, c, d, lo, hi⟩ t (aroundP s) part (iff (decide (lo = 0)) (freeS (aroundP s).f (aroundP s).l) (two s)) t).2 F ∧ Gw S w S' w' := by
  have hgq := h.gq
  have hno := h.no (Nat.le_refl _)
  have hno1 := h.no (Nat.le_succ _)
  have hAP : aroundP s = ⟨np, mp⟩ := by rw [hnp, hmp]; rfl
  have HRO := Lib.hid (rep_ok ⟨k, n, a, b, c, d, lo, hi⟩ t part u hp s)
  rw [hAP] at HRO ⊢
  have HPL := Lib.hid hp
  have HPT := Lib.hid hPart
  have HTM : Hid (∀ w, Calls Try.prog 70 #[.agg #[.int .i64 k, .int .i64 n, .int .u64 a, .int .u64 b, .int .u64 c, .int .u64 d, .int .i64 lo, .int .i64 hi]] w fun e w' => e = .returned (.int .i64 (t : Nat)) ∧ ∃ x, w' = ext w x) := Lib.hid (fun w => by rw [← htt]; exact timesP k n a b c d lo hi)
  obtain ⟨Y, hY⟩ : ∃ Y : Nat → Nat × St, Y = repN ⟨k, n, a, b, c, d, lo, hi⟩ t ⟨np, mp⟩ part (iff (decide (lo = 0)) (freeS np mp) (two s)) := ⟨_, rfl⟩
  change Hid (∀ i, RepOk s u i (repN ⟨k, n, a, b, c, d, lo, hi⟩ t ⟨np, mp⟩ part (iff (decide (lo = 0)) (freeS np mp) (two s)) i)) at HRO
  change Calls _ _ _ _ fun e w' => _ ∧ ∃ S', MkT w' S' g q (repN ⟨k, n, a, b, c, d, lo, hi⟩ t ⟨np, mp⟩ part (iff (decide (lo = 0)) (freeS np mp) (two s)) t).2 F ∧ Gw S w S' w'
  rw [← hY] at HRO ⊢
  have HY0 : Hid (Y 0 = (np, iff (decide (lo = 0)) (freeS np mp) (two s))) := Lib.hid (by rw [hY]; rfl)
  have HYS : Hid (∀ i, Y (i + 1) = ((part (Y i).2).1.l, iff (decide (hi < 0 ∧ i + 1 = t)) (freeS (part (Y i).2).1.l (part (Y i).2).1.f) (iff (decide (lo ≤ i + 1)) (freeS (part (Y i).2).1.l mp) (freeS (Y i).1 (part (Y i).2).1.f (part (Y i).2).2)))) := Lib.hid (fun i => by rw [hY]; rfl)
  have hA : Below w.heap.size w ((w.alloc (.cells #[.int .i64 k, .int .i64 n, .int .u64 a, .int .u64 b, .int .u64 c, .int .u64 d, .int .i64 lo, .int .i64 hi] 100)).alloc (.cells #[.int .i64 0, .int .i64 0] 82)) := (below_alloc w _).trans ((below_alloc _ _).mono (by simp))
  have HMA := Lib.hid (h.up hA)
  have HGA : Hid (Gw S w S ((w.alloc (.cells #[.int .i64 k, .int .i64 n, .int .u64 a, .int .u64 b, .int .u64 c, .int .u64 d, .int .i64 lo, .int .i64 hi] 100)).alloc (.cells #[.int .i64 0, .int .i64 0] 82))) := Lib.hid (gw_below S hA)
  have HJA := Lib.hid (hJb _ _ _ hj0 hA)
  have HNA : Hid (FixC ((w.alloc (.cells #[.int .i64 k, .int .i64 n, .int .u64 a, .int .u64 b, .int .u64 c, .int .u64 d, .int .i64 lo, .int .i64 hi] 100)).alloc (.cells #[.int .i64 0, .int .i64 0] 82)) S w.heap.size #[.int .i64 k, .int .i64 n, .int .u64 a, .int .u64 b, .int .u64 c, .int .u64 d, .int .i64 lo, .int .i64 hi]) := Lib.hid ((fixC_new w S _ 100 hno).up (below_alloc _ _))
  have HPA : Hid (LB ((w.alloc (.cells #[.int .i64 k, .int .i64 n, .int .u64 a, .int .u64 b, .int .u64 c, .int .u64 d, .int .i64 lo, .int .i64 hi] 100)).alloc (.cells #[.int .i64 0, .int .i64 0] 82)) S (w.heap.size + 1) 0 0) := Lib.hid ⟨by
    have h := pcB_new (w.alloc (.cells #[.int .i64 k, .int .i64 n, .int .u64 a, .int .u64 b, .int .u64 c, .int .u64 d, .int .i64 lo, .int .i64 hi] 100)) 0 0
    simpa using h, hno1⟩
  have HAR := Lib.hid (aroundM HMA.out (by omega) (by omega) np mp hnp hmp)
  have HBD : Hid (s.e.length = np ∧ tot s.e + 1 + t * (2 * u) ≤ 90000 ∧ s.e.length + 2 + t * u ≤ 4000 ∧ s.r.length + 2 + t * u ≤ 4000) := Lib.hid ⟨hnp.symm, htot, hl, hr⟩
  have T2 := two_tot s
  have L2 := two_len s
  obtain ⟨s0, hs0⟩ : ∃ s0, s0 = two s := ⟨_, rfl⟩
  rw [← hs0] at T2 L2 HAR HY0
  have hs0l : s0.e.length ≤ 4000 := by omega
  have hs0n : np < s0.e.length := by omega
  have hs0t : tot s0.e ≤ 90000 := by omega
  have hsz2 : w.heap.size + 2 ≤ ((w.alloc (.cells #[.int .i64 k, .int .i64 n, .int .u64 a, .int .u64 b, .int .u64 c, .int .u64 d, .int .i64 lo, .int .i64 hi] 100)).alloc (.cells #[.int .i64 0, .int .i64 0] 82)).heap.size := by simp
  clear h hp hPart htt hY hAP hA hj0 hl hr htot hnp hmp hs0 T2 L2
  have hld : decide (lo = 0) = true := by simpa using hl0
  rw [hld] at HY0
  simp only [iff, if_true] at HY0
  have hlb : (lo == 0) = true := by simpa using hl0
  clear hl0 hld
  go_enter Try.func57, Try.ntmps57
  go_wp2_with ((with_reducible go_at_call 56); refine HAR.out.mono ?_; rintro en w1 ⟨rfl, S1, hm1, hg1⟩; have HM1 := Lib.hid hm1; have HG1 := Lib.hid (HGA.out.trans hg1); have HJ1 := Lib.hid (hJg _ _ _ _ HJA.out hg1); have HN1 := Lib.hid (HNA.out.gw hg1); have P61 := Lib.hid (HPA.out.gw hg1); (have hsz1 := Nat.le_trans hsz2 hg1.size); clear hm1 hg1; (have hn6 : w1.cell? ⟨w.heap.size, 6, none⟩ = some (.int .i64 lo) := HN1.out.c 6 (show 6 < 8 by decide)); have hnlt := HN1.out.lt)
  have HM2 := Lib.hid (HM1.out.up (below_alloc w1 (.cells #[.int .i64 np, .int .i64 mp] 82)))
  have HJ2 := Lib.hid (hJb _ _ _ HJ1.out (below_alloc w1 (.cells #[.int .i64 np, .int .i64 mp] 82)))
  have HN2 := Lib.hid (HN1.out.up (below_alloc w1 (.cells #[.int .i64 np, .int .i64 mp] 82)))
  have P62 := Lib.hid (P61.out.up (below_alloc w1 (.cells #[.int .i64 np, .int .i64 mp] 82)))
  have P72 : Hid (LB (w1.alloc (.cells #[.int .i64 np, .int .i64 mp] 82)) S1 w1.heap.size np mp) := Lib.hid ⟨pcB_new w1 np mp, HM1.out.no (Nat.le_refl _)⟩
  have HG2 := Lib.hid (HG1.out.up (below_alloc w1 (.cells #[.int .i64 np, .int .i64 mp] 82)))
  clear HM1 HG1 HJ1 HN1 P61 hn6 hnlt HMA HGA HJA HNA HPA HAR
  generalize w1.heap.size = p7 at *
  generalize w1.alloc (.cells #[.int .i64 np, .int .i64 mp] 82) = w2 at *
  have hc4 := HM2.out.f4
  have hgl := HM2.out.glt
  have P7a := P72.out.box.c0
  have P7b := P72.out.box.c1
  have P7l := P72.out.box.lt
  have hn6 : w2.cell? ⟨w.heap.size, 6, none⟩ = some (.int .i64 lo) := HN2.out.c 6 (show 6 < 8 by decide)
  have hn7 : w2.cell? ⟨w.heap.size, 7, none⟩ = some (.int .i64 hi) := HN2.out.c 7 (show 7 < 8 by decide)
  have hnlt := HN2.out.lt
  try go_wp2
  refine wp_region_tailg [0,1,2,3,4,5,6] [] [7] (by kernel_rfl) (by kernel_rfl) ?_
  simp only [pick, List.map_cons, List.map_nil, List.getD_cons_zero, List.getD_cons_succ]
  repeat (go_big_quiet_step (fail))
  refine wpQuiet_nil ?_
  unfold wpAct
  unfold wpAct
  go_wp2_with ((with_reducible go_at_call 54); refine (freeT (HM2.out.up (drew_b _)) np mp hs0n (by omega) (by omega)).mono ?_; rintro en w3 ⟨rfl, S3, hm, hg⟩; have HM3 := Lib.hid hm; have HG3 := Lib.hid ((HG2.out.up (drew_b _)).trans hg); have P73 := Lib.hid ((P72.out.up (drew_b _)).gw hg); have HN3 := Lib.hid ((HN2.out.up (drew_b _)).gw hg); have P63 := Lib.hid ((P62.out.up (drew_b _)).gw hg); have HJ3 := Lib.hid (hJg _ _ _ _ (hJb _ _ _ HJ2.out (drew_b _)) hg); clear hm hg)
  refine ⟨trivial, ?_⟩
  unfold wpAct
  clear hc4 hgl hn6 hn7 hnlt P7a P7b P7l HM2 HG2 HJ2 P72 HN2 P62
  have HMY : Hid (MkT w3 S3 g q (Y 0).2 F) := Lib.hid (by rw [HY0.out]; exact HM3.out)
  generalize w3 = wx at *
  generalize S3 = Sx at *
  have HMX := HMY
  have HGX := HG3
  have HJX := HJ3
  have HNX := HN3
  have P6X := P63
  have P7X := P73
  clear HMY HG3 HJ3 HN3 P63 P73 HM3
  have hY0f : ((Y 0).1 : Int) = np := by rw [HY0.out]
  clear hlb
  have hszx := HGX.out.size
  have P7a := P7X.out.box.c0
  have P7b := P7X.out.box.c1
  have P7l := P7X.out.box.lt
  have hn6 : wx.cell? ⟨w.heap.size, 6, none⟩ = some (.int .i64 lo) := HNX.out.c 6 (show 6 < 8 by decide)
  have hnlt := HNX.out.lt
  go_wp2_with (first | (refine wpList_load_cells rfl 100 _ rfl w.heap.size 0 8 rfl _ _ (fixC_cells HNX.out 8 rfl) rfl Try.underlying100 rfl (by kernel_rfl) ?_) | ((with_reducible go_at_call 70); refine (HTM.out _).mono ?_; rintro en' w' ⟨rfl, x5, rfl⟩))
  go_loopg [8, 28] t (fun gk av iv wr => ∃ (j : Nat) (Sr : Nat → Prop), iv = .int .i64 j ∧ av = .int .i64 ((Y j).1 : Nat) ∧ j ≤ t ∧ MkT wr Sr g q (Y j).2 F ∧ Gw S w Sr wr ∧ J Sr wr ∧ FixC wr Sr w.heap.size #[.int .i64 k, .int .i64 n, .int .u64 a, .int .u64 b, .int .u64 c, .int .u64 d, .int .i64 lo, .int .i64 hi] ∧ LB wr Sr (w.heap.size + 1) 0 0 ∧ LB wr Sr p7 np mp ∧ gk = t - j)
  case atStart =>
    refine ⟨0, Sx, rfl, ?_, Nat.zero_le _, HMX.out.up (ext_below _ _), HGX.out.up (ext_below _ _), hJb _ _ _ HJX.out (ext_below _ _), HNX.out.up (ext_below _ _), P6X.out.up (ext_below _ _), P7X.out.up (ext_below _ _), rfl⟩
    rw [hY0f]
  case round =>
    obtain ⟨j, Sr, rfl, rfl, hj, hm, hgw, hjj, hnn, hp6, hp7, rfl⟩ := hrel
    have HM1 := Lib.hid hm
    have HG1 := Lib.hid hgw
    have HJ1 := Lib.hid hjj
    have HN1 := Lib.hid hnn
    have P61 := Lib.hid hp6
    have P71 := Lib.hid hp7
    clear hm hgw hjj hnn hp6 hp7 HMX HGX HJX HNX P6X P7X P7a P7b P7l hn6 hnlt
    have hro := HRO.out j
    have r1 := hro.len
    have r2 := hro.rlen
    have r3 := hro.at_
    have r4 := hro.tot
    obtain ⟨b1, b2, b3, b4⟩ := HBD.out
    by_cases hlt : j < t
    · have e1 : (j + 1) * u ≤ t * u := Nat.mul_le_mul_right u hlt
      have e2 : (j + 1) * (2 * u) ≤ t * (2 * u) := Nat.mul_le_mul_right (2 * u) hlt
      rw [Nat.add_mul, Nat.one_mul] at e1 e2
      have hys := HYS.out j
      have hlp := HPL.out (Y j).2
      have q1 := hlp.len
      have q3 := hlp.rng 0 (by omega)
      have q4 := hlp.tot
      simp only [List.getD_cons_zero] at q1 q3 q4
      have HCL := Lib.hid (HPT.out wr Sr (Y j).2 HM1.out HJ1.out (by omega) (by omega) (by omega) (part (Y j).2).1.f (part (Y j).2).1.l rfl rfl)
      obtain ⟨at_, hat⟩ : ∃ at_, at_ = (Y j).1 := ⟨_, rfl⟩
      obtain ⟨sj, hsj⟩ : ∃ sj, sj = (part (Y j).2).2 := ⟨_, rfl⟩
      obtain ⟨qf, hqf⟩ : ∃ qf, qf = (part (Y j).2).1.f := ⟨_, rfl⟩
      obtain ⟨ql, hql⟩ : ∃ ql, ql = (part (Y j).2).1.l := ⟨_, rfl⟩
      rw [← hqf, ← hql] at HCL
      rw [← hat, ← hsj, ← hqf, ← hql] at hys
      rw [← hsj] at HCL q1 q3 q4
      rw [← hqf, ← hql] at q3
      rw [← hat] at r3 ⊢
      have k1 : at_ < sj.e.length := by omega
      have k2 : sj.e.length ≤ 4000 := by omega
      have k3 : tot sj.e ≤ 95000 := by omega
      have k4 : np < sj.e.length := by omega
      obtain ⟨k5, k6⟩ := q3
      have HYJ := Lib.hid hys
      have hszr := HG1.out.size
      clear hys hlp q1 q4 e1 e2 hat hsj hqf hql r1 r2 r3 r4 hro hszx hY0f
      go_wp2_with ((with_reducible go_at_call 58); refine HCL.out.mono ?_; rintro en' w5 ⟨rfl, S5, hm, hg⟩; have HM5 := Lib.hid hm; have HG5 := Lib.hid (HG1.out.trans hg); have HJ5 := Lib.hid (hJg _ _ _ _ HJ1.out hg); have HN5 := Lib.hid (HN1.out.gw hg); have P65 := Lib.hid (P61.out.gw hg); have P75 := Lib.hid (P71.out.gw hg); clear hm hg)
      have HM6 := Lib.hid (HM5.out.up (below_alloc w5 (.cells #[.int .i64 qf, .int .i64 ql] 82)))
      have HJ6 := Lib.hid (hJb _ _ _ HJ5.out (below_alloc w5 (.cells #[.int .i64 qf, .int .i64 ql] 82)))
      have HN6 := Lib.hid (HN5.out.up (below_alloc w5 (.cells #[.int .i64 qf, .int .i64 ql] 82)))
      have P66 := Lib.hid (P65.out.up (below_alloc w5 (.cells #[.int .i64 qf, .int .i64 ql] 82)))
      have P76 := Lib.hid (P75.out.up (below_alloc w5 (.cells #[.int .i64 qf, .int .i64 ql] 82)))
      have PA6 : Hid (LB (w5.alloc (.cells #[.int .i64 qf, .int .i64 ql] 82)) S5 w5.heap.size qf ql) := Lib.hid ⟨pcB_new w5 qf ql, HM5.out.no (Nat.le_refl _)⟩
      have HG6 := Lib.hid (HG5.out.up (below_alloc w5 (.cells #[.int .i64 qf, .int .i64 ql] 82)))
      clear HM1 HG1 HJ1 HN1 P61 P71 HM5 HG5 HJ5 HN5 P65 P75 HCL
      generalize w5.heap.size = p10 at *
      generalize w5.alloc (.cells #[.int .i64 qf, .int .i64 ql] 82) = w6 at *
      have hc4 := HM6.out.f4
      have hgl := HM6.out.glt
      have PAa := PA6.out.box.c0
      have PAb := PA6.out.box.c1
      have PAl := PA6.out.box.lt
      have hn6 : w6.cell? ⟨w.heap.size, 6, none⟩ = some (.int .i64 lo) := HN6.out.c 6 (show 6 < 8 by decide)
      have hn7 : w6.cell? ⟨w.heap.size, 7, none⟩ = some (.int .i64 hi) := HN6.out.c 7 (show 7 < 8 by decide)
      have hnlt := HN6.out.lt
      try go_wp2
      refine wp_region_tailg [0,1,2,3,4,5,6] [] [7] (by kernel_rfl) (by kernel_rfl) ?_
      simp only [pick, List.map_cons, List.map_nil, List.getD_cons_zero, List.getD_cons_succ]
      repeat (go_big_quiet_step (fail))
      refine wpQuiet_nil ?_
      unfold wpAct
      unfold wpAct
      go_wp2_with ((with_reducible go_at_call 54); refine (freeT (HM6.out.up (drew_b _)) at_ qf k1 (by omega) (by omega)).mono ?_; rintro en w7 ⟨rfl, S7, hm, hg⟩; have HM7 := Lib.hid hm; have HG7 := Lib.hid ((HG6.out.up (drew_b _)).trans hg); have PA7 := Lib.hid ((PA6.out.up (drew_b _)).gw hg); have HN7 := Lib.hid ((HN6.out.up (drew_b _)).gw hg); have P67 := Lib.hid ((P66.out.up (drew_b _)).gw hg); have P77 := Lib.hid ((P76.out.up (drew_b _)).gw hg); have HJ7 := Lib.hid (hJg _ _ _ _ (hJb _ _ _ HJ6.out (drew_b _)) hg); clear hm hg)
      refine ⟨trivial, ?_⟩
      unfold wpAct
      clear hc4 hgl hn6 hn7 hnlt PAa PAb PAl HM6 HG6 HJ6 PA6 HN6 P66 P76
      have t7 := freeS_tot at_ qf sj
      have l7 := freeS_len at_ qf sj
      obtain ⟨s7, hs7⟩ : ∃ s7, s7 = freeS at_ qf sj := ⟨_, rfl⟩
      rw [← hs7] at t7 l7 HM7 HYJ
      clear hs7
      by_cases hc1 : lo ≤ (j : Int) + 1
      · have hd1 : decide (lo ≤ (j : Int) + 1) = true := by simpa using hc1
        rw [hd1] at HYJ
        clear hd1
        have hc4 := HM7.out.f4
        have hgl := HM7.out.glt
        have PAa := PA7.out.box.c0
        have PAb := PA7.out.box.c1
        have PAl := PA7.out.box.lt
        have P7a := P77.out.box.c0
        have P7b := P77.out.box.c1
        have P7l := P77.out.box.lt
        have hn6 : w7.cell? ⟨w.heap.size, 6, none⟩ = some (.int .i64 lo) := HN7.out.c 6 (show 6 < 8 by decide)
        have hn7 : w7.cell? ⟨w.heap.size, 7, none⟩ = some (.int .i64 hi) := HN7.out.c 7 (show 7 < 8 by decide)
        have hnlt := HN7.out.lt
        try go_wp2
        refine wp_region_tailg [0,1,2,3,4,5,6] [] [7] (by kernel_rfl) (by kernel_rfl) ?_
        simp only [pick, List.map_cons, List.map_nil, List.getD_cons_zero, List.getD_cons_succ]
        repeat (go_big_quiet_step (fail))
        refine wpQuiet_nil ?_
        unfold wpAct
        unfold wpAct
        go_wp2_with ((with_reducible go_at_call 54); refine (freeT (HM7.out.up (drew_b _)) ql mp (by omega) (by omega) (by omega)).mono ?_; rintro en w8 ⟨rfl, S8, hm, hg⟩; have HM8 := Lib.hid hm; have HG8 := Lib.hid ((HG7.out.up (drew_b _)).trans hg); have PA8 := Lib.hid ((PA7.out.up (drew_b _)).gw hg); have P78 := Lib.hid ((P77.out.up (drew_b _)).gw hg); have HN8 := Lib.hid ((HN7.out.up (drew_b _)).gw hg); have P68 := Lib.hid ((P67.out.up (drew_b _)).gw hg); have HJ8 := Lib.hid (hJg _ _ _ _ (hJb _ _ _ HJ7.out (drew_b _)) hg); clear hm hg)
        refine ⟨trivial, ?_⟩
        unfold wpAct
        clear hc4 hgl hn6 hn7 hnlt PAa PAb PAl P7a P7b P7l HM7 HG7 HJ7 PA7 P77 HN7 P67
        simp only [show ∀ f s, iff true f s = f s from fun f s => rfl] at HYJ
        have t8 := freeS_tot ql mp s7
        have l8 := freeS_len ql mp s7
        obtain ⟨s8, hs8⟩ : ∃ s8, s8 = freeS ql mp s7 := ⟨_, rfl⟩
        rw [← hs8] at t8 l8 HM8 HYJ
        clear hs8
        by_cases hc2 : hi < 0
        · have hd2 : ∀ p : Prop, [Decidable p] → decide (hi < 0 ∧ p) = decide p := fun p _ => by simp [hc2]
          rw [hd2] at HYJ
          clear hd2
          by_cases hce : j + 1 = t
          · have hcb : (((j : Int) + 1) == (t : Int)) = true := by simpa using (by omega : (j : Int) + 1 = t)
            have hdc : decide (j + 1 = t) = true := by simpa using hce
            rw [hdc] at HYJ
            simp only [show ∀ f s, iff true f s = f s from fun f s => rfl] at HYJ
            clear hce hdc
            have PAa := PA8.out.box.c0
            have PAb := PA8.out.box.c1
            have PAl := PA8.out.box.lt
            have hn6 : w8.cell? ⟨w.heap.size, 6, none⟩ = some (.int .i64 lo) := HN8.out.c 6 (show 6 < 8 by decide)
            have hn7 : w8.cell? ⟨w.heap.size, 7, none⟩ = some (.int .i64 hi) := HN8.out.c 7 (show 7 < 8 by decide)
            have hnlt := HN8.out.lt
            have hn0 : w8.cell? ⟨w.heap.size, 0, none⟩ = some (.int .i64 k) := HN8.out.c 0 (show 0 < 8 by decide)
            have hn1 : w8.cell? ⟨w.heap.size, 1, none⟩ = some (.int .i64 n) := HN8.out.c 1 (show 1 < 8 by decide)
            have hn2 : w8.cell? ⟨w.heap.size, 2, none⟩ = some (.int .u64 a) := HN8.out.c 2 (show 2 < 8 by decide)
            have hn3 : w8.cell? ⟨w.heap.size, 3, none⟩ = some (.int .u64 b) := HN8.out.c 3 (show 3 < 8 by decide)
            have hn4 : w8.cell? ⟨w.heap.size, 4, none⟩ = some (.int .u64 c) := HN8.out.c 4 (show 4 < 8 by decide)
            have hn5 : w8.cell? ⟨w.heap.size, 5, none⟩ = some (.int .u64 d) := HN8.out.c 5 (show 5 < 8 by decide)
            go_wp2_with ((with_reducible go_at_call 70); refine (HTM.out _).mono ?_; rintro en' w' ⟨rfl, x9, rfl⟩; (have HM9 := Lib.hid (HM8.out.up (ext_below w8 x9))); (have HG9 := Lib.hid (HG8.out.up (ext_below w8 x9))); (have HN9 := Lib.hid (HN8.out.up (ext_below w8 x9))); (have P69 := Lib.hid (P68.out.up (ext_below w8 x9))); (have P79 := Lib.hid (P78.out.up (ext_below w8 x9))); (have PA9 := Lib.hid (PA8.out.up (ext_below w8 x9))); (have HJ9 := Lib.hid (hJb _ _ _ HJ8.out (ext_below w8 x9))))
            clear PAa PAb PAl hn0 hn1 hn2 hn3 hn4 hn5 hn6 hn7 hnlt
            generalize ext w8 x9 = w9 at *
            have hc4 := HM9.out.f4
            have hgl := HM9.out.glt
            have PAa := PA9.out.box.c0
            have PAb := PA9.out.box.c1
            have PAl := PA9.out.box.lt
            have hn6 : w9.cell? ⟨w.heap.size, 6, none⟩ = some (.int .i64 lo) := HN9.out.c 6 (show 6 < 8 by decide)
            have hn7 : w9.cell? ⟨w.heap.size, 7, none⟩ = some (.int .i64 hi) := HN9.out.c 7 (show 7 < 8 by decide)
            have hnlt := HN9.out.lt
            try go_wp2
            refine wp_region_tailg [0,1,2,3,4,5,6] [] [7] (by kernel_rfl) (by kernel_rfl) ?_
            simp only [pick, List.map_cons, List.map_nil, List.getD_cons_zero, List.getD_cons_succ]
            repeat (go_big_quiet_step (fail))
            refine wpQuiet_nil ?_
            unfold wpAct
            unfold wpAct
            go_wp2_with ((with_reducible go_at_call 54); refine (freeT (HM9.out.up (drew_b _)) ql qf (by omega) (by omega) (by omega)).mono ?_; rintro en w10 ⟨rfl, S10, hm, hg⟩; have HM10 := Lib.hid hm; have HG10 := Lib.hid ((HG9.out.up (drew_b _)).trans hg); have PA10 := Lib.hid ((PA9.out.up (drew_b _)).gw hg); have HN10 := Lib.hid ((HN9.out.up (drew_b _)).gw hg); have P610 := Lib.hid ((P69.out.up (drew_b _)).gw hg); have P710 := Lib.hid ((P79.out.up (drew_b _)).gw hg); have HJ10 := Lib.hid (hJg _ _ _ _ (hJb _ _ _ HJ9.out (drew_b _)) hg); clear hm hg)
            refine ⟨trivial, ?_⟩
            unfold wpAct
            clear hc4 hgl hn6 hn7 hnlt PAa PAb PAl HM9 HG9 HJ9 PA9 HN9 P69 P79
            go_wp2
            go_roundg (t - (j + 1))
            case measure => omega
            case rel =>
              exact ⟨j + 1, S10, by go_num, by rw [HYJ.out], by omega, by rw [HYJ.out]; exact HM10.out, HG10.out, HJ10.out, HN10.out, P610.out, P710.out, rfl⟩
          · have hcb : (((j : Int) + 1) == (t : Int)) = false := by simpa using (by omega : ¬ (j : Int) + 1 = t)
            have hdc : decide (j + 1 = t) = false := by simpa using hce
            rw [hdc] at HYJ
            simp only [show ∀ f s, iff false f s = s from fun f s => rfl] at HYJ
            clear hce hdc
            have PAa := PA8.out.box.c0
            have PAb := PA8.out.box.c1
            have PAl := PA8.out.box.lt
            have hn6 : w8.cell? ⟨w.heap.size, 6, none⟩ = some (.int .i64 lo) := HN8.out.c 6 (show 6 < 8 by decide)
            have hn7 : w8.cell? ⟨w.heap.size, 7, none⟩ = some (.int .i64 hi) := HN8.out.c 7 (show 7 < 8 by decide)
            have hnlt := HN8.out.lt
            have hn0 : w8.cell? ⟨w.heap.size, 0, none⟩ = some (.int .i64 k) := HN8.out.c 0 (show 0 < 8 by decide)
            have hn1 : w8.cell? ⟨w.heap.size, 1, none⟩ = some (.int .i64 n) := HN8.out.c 1 (show 1 < 8 by decide)
            have hn2 : w8.cell? ⟨w.heap.size, 2, none⟩ = some (.int .u64 a) := HN8.out.c 2 (show 2 < 8 by decide)
            have hn3 : w8.cell? ⟨w.heap.size, 3, none⟩ = some (.int .u64 b) := HN8.out.c 3 (show 3 < 8 by decide)
            have hn4 : w8.cell? ⟨w.heap.size, 4, none⟩ = some (.int .u64 c) := HN8.out.c 4 (show 4 < 8 by decide)
            have hn5 : w8.cell? ⟨w.heap.size, 5, none⟩ = some (.int .u64 d) := HN8.out.c 5 (show 5 < 8 by decide)
            go_wp2_with ((with_reducible go_at_call 70); refine (HTM.out _).mono ?_; rintro en' w' ⟨rfl, x9, rfl⟩; (have HM9 := Lib.hid (HM8.out.up (ext_below w8 x9))); (have HG9 := Lib.hid (HG8.out.up (ext_below w8 x9))); (have HN9 := Lib.hid (HN8.out.up (ext_below w8 x9))); (have P69 := Lib.hid (P68.out.up (ext_below w8 x9))); (have P79 := Lib.hid (P78.out.up (ext_below w8 x9))); (have PA9 := Lib.hid (PA8.out.up (ext_below w8 x9))); (have HJ9 := Lib.hid (hJb _ _ _ HJ8.out (ext_below w8 x9))))
            clear PAa PAb PAl hn0 hn1 hn2 hn3 hn4 hn5 hn6 hn7 hnlt
            generalize ext w8 x9 = w9 at *
            go_roundg (t - (j + 1))
            case measure => omega
            case rel =>
              exact ⟨j + 1, S8, by go_num, by rw [HYJ.out], by omega, by rw [HYJ.out]; exact HM9.out, HG9.out, HJ9.out, HN9.out, P69.out, P79.out, rfl⟩
        · have hd2 : ∀ p : Prop, [Decidable p] → decide (hi < 0 ∧ p) = false := fun p _ => by simp [hc2]
          rw [hd2] at HYJ
          clear hd2
          simp only [iff, Bool.false_eq_true, if_false] at HYJ
          have PAa := PA8.out.box.c0
          have PAb := PA8.out.box.c1
          have PAl := PA8.out.box.lt
          have hn6 : w8.cell? ⟨w.heap.size, 6, none⟩ = some (.int .i64 lo) := HN8.out.c 6 (show 6 < 8 by decide)
          have hn7 : w8.cell? ⟨w.heap.size, 7, none⟩ = some (.int .i64 hi) := HN8.out.c 7 (show 7 < 8 by decide)
          have hnlt := HN8.out.lt
          go_wp2
          go_roundg (t - (j + 1))
          case measure => omega
          case rel =>
            exact ⟨j + 1, S8, by go_num, by rw [HYJ.out], by omega, by rw [HYJ.out]; exact HM8.out, HG8.out, HJ8.out, HN8.out, P68.out, P78.out, rfl⟩
      · have hd1 : decide (lo ≤ (j : Int) + 1) = false := by simpa using hc1
        rw [hd1] at HYJ
        clear hd1
        simp only [show ∀ f s, iff false f s = s from fun f s => rfl] at HYJ
        by_cases hc2 : hi < 0
        · have hd2 : ∀ p : Prop, [Decidable p] → decide (hi < 0 ∧ p) = decide p := fun p _ => by simp [hc2]
          rw [hd2] at HYJ
          clear hd2
          by_cases hce : j + 1 = t
          · have hcb : (((j : Int) + 1) == (t : Int)) = true := by simpa using (by omega : (j : Int) + 1 = t)
            have hdc : decide (j + 1 = t) = true := by simpa using hce
            rw [hdc] at HYJ
            simp only [show ∀ f s, iff true f s = f s from fun f s => rfl] at HYJ
            clear hce hdc
            have PAa := PA7.out.box.c0
            have PAb := PA7.out.box.c1
            have PAl := PA7.out.box.lt
            have hn6 : w7.cell? ⟨w.heap.size, 6, none⟩ = some (.int .i64 lo) := HN7.out.c 6 (show 6 < 8 by decide)
            have hn7 : w7.cell? ⟨w.heap.size, 7, none⟩ = some (.int .i64 hi) := HN7.out.c 7 (show 7 < 8 by decide)
            have hnlt := HN7.out.lt
            have hn0 : w7.cell? ⟨w.heap.size, 0, none⟩ = some (.int .i64 k) := HN7.out.c 0 (show 0 < 8 by decide)
            have hn1 : w7.cell? ⟨w.heap.size, 1, none⟩ = some (.int .i64 n) := HN7.out.c 1 (show 1 < 8 by decide)
            have hn2 : w7.cell? ⟨w.heap.size, 2, none⟩ = some (.int .u64 a) := HN7.out.c 2 (show 2 < 8 by decide)
            have hn3 : w7.cell? ⟨w.heap.size, 3, none⟩ = some (.int .u64 b) := HN7.out.c 3 (show 3 < 8 by decide)
            have hn4 : w7.cell? ⟨w.heap.size, 4, none⟩ = some (.int .u64 c) := HN7.out.c 4 (show 4 < 8 by decide)
            have hn5 : w7.cell? ⟨w.heap.size, 5, none⟩ = some (.int .u64 d) := HN7.out.c 5 (show 5 < 8 by decide)
            go_wp2_with ((with_reducible go_at_call 70); refine (HTM.out _).mono ?_; rintro en' w' ⟨rfl, x9, rfl⟩; (have HM8 := Lib.hid (HM7.out.up (ext_below w7 x9))); (have HG8 := Lib.hid (HG7.out.up (ext_below w7 x9))); (have HN8 := Lib.hid (HN7.out.up (ext_below w7 x9))); (have P68 := Lib.hid (P67.out.up (ext_below w7 x9))); (have P78 := Lib.hid (P77.out.up (ext_below w7 x9))); (have PA8 := Lib.hid (PA7.out.up (ext_below w7 x9))); (have HJ8 := Lib.hid (hJb _ _ _ HJ7.out (ext_below w7 x9))))
            clear PAa PAb PAl hn0 hn1 hn2 hn3 hn4 hn5 hn6 hn7 hnlt
            generalize ext w7 x9 = w8 at *
            have hc4 := HM8.out.f4
            have hgl := HM8.out.glt
            have PAa := PA8.out.box.c0
            have PAb := PA8.out.box.c1
            have PAl := PA8.out.box.lt
            have hn6 : w8.cell? ⟨w.heap.size, 6, none⟩ = some (.int .i64 lo) := HN8.out.c 6 (show 6 < 8 by decide)
            have hn7 : w8.cell? ⟨w.heap.size, 7, none⟩ = some (.int .i64 hi) := HN8.out.c 7 (show 7 < 8 by decide)
            have hnlt := HN8.out.lt
            try go_wp2
            refine wp_region_tailg [0,1,2,3,4,5,6] [] [7] (by kernel_rfl) (by kernel_rfl) ?_
            simp only [pick, List.map_cons, List.map_nil, List.getD_cons_zero, List.getD_cons_succ]
            repeat (go_big_quiet_step (fail))
            refine wpQuiet_nil ?_
            unfold wpAct
            unfold wpAct
            go_wp2_with ((with_reducible go_at_call 54); refine (freeT (HM8.out.up (drew_b _)) ql qf (by omega) (by omega) (by omega)).mono ?_; rintro en w9 ⟨rfl, S9, hm, hg⟩; have HM9 := Lib.hid hm; have HG9 := Lib.hid ((HG8.out.up (drew_b _)).trans hg); have PA9 := Lib.hid ((PA8.out.up (drew_b _)).gw hg); have HN9 := Lib.hid ((HN8.out.up (drew_b _)).gw hg); have P69 := Lib.hid ((P68.out.up (drew_b _)).gw hg); have P79 := Lib.hid ((P78.out.up (drew_b _)).gw hg); have HJ9 := Lib.hid (hJg _ _ _ _ (hJb _ _ _ HJ8.out (drew_b _)) hg); clear hm hg)
            refine ⟨trivial, ?_⟩
            unfold wpAct
            clear hc4 hgl hn6 hn7 hnlt PAa PAb PAl HM8 HG8 HJ8 PA8 HN8 P68 P78
            go_wp2
            go_roundg (t - (j + 1))
            case measure => omega
            case rel =>
              exact ⟨j + 1, S9, by go_num, by rw [HYJ.out], by omega, by rw [HYJ.out]; exact HM9.out, HG9.out, HJ9.out, HN9.out, P69.out, P79.out, rfl⟩
          · have hcb : (((j : Int) + 1) == (t : Int)) = false := by simpa using (by omega : ¬ (j : Int) + 1 = t)
            have hdc : decide (j + 1 = t) = false := by simpa using hce
            rw [hdc] at HYJ
            simp only [show ∀ f s, iff false f s = s from fun f s => rfl] at HYJ
            clear hce hdc
            have PAa := PA7.out.box.c0
            have PAb := PA7.out.box.c1
            have PAl := PA7.out.box.lt
            have hn6 : w7.cell? ⟨w.heap.size, 6, none⟩ = some (.int .i64 lo) := HN7.out.c 6 (show 6 < 8 by decide)
            have hn7 : w7.cell? ⟨w.heap.size, 7, none⟩ = some (.int .i64 hi) := HN7.out.c 7 (show 7 < 8 by decide)
            have hnlt := HN7.out.lt
            have hn0 : w7.cell? ⟨w.heap.size, 0, none⟩ = some (.int .i64 k) := HN7.out.c 0 (show 0 < 8 by decide)
            have hn1 : w7.cell? ⟨w.heap.size, 1, none⟩ = some (.int .i64 n) := HN7.out.c 1 (show 1 < 8 by decide)
            have hn2 : w7.cell? ⟨w.heap.size, 2, none⟩ = some (.int .u64 a) := HN7.out.c 2 (show 2 < 8 by decide)
            have hn3 : w7.cell? ⟨w.heap.size, 3, none⟩ = some (.int .u64 b) := HN7.out.c 3 (show 3 < 8 by decide)
            have hn4 : w7.cell? ⟨w.heap.size, 4, none⟩ = some (.int .u64 c) := HN7.out.c 4 (show 4 < 8 by decide)
            have hn5 : w7.cell? ⟨w.heap.size, 5, none⟩ = some (.int .u64 d) := HN7.out.c 5 (show 5 < 8 by decide)
            go_wp2_with ((with_reducible go_at_call 70); refine (HTM.out _).mono ?_; rintro en' w' ⟨rfl, x9, rfl⟩; (have HM8 := Lib.hid (HM7.out.up (ext_below w7 x9))); (have HG8 := Lib.hid (HG7.out.up (ext_below w7 x9))); (have HN8 := Lib.hid (HN7.out.up (ext_below w7 x9))); (have P68 := Lib.hid (P67.out.up (ext_below w7 x9))); (have P78 := Lib.hid (P77.out.up (ext_below w7 x9))); (have PA8 := Lib.hid (PA7.out.up (ext_below w7 x9))); (have HJ8 := Lib.hid (hJb _ _ _ HJ7.out (ext_below w7 x9))))
            clear PAa PAb PAl hn0 hn1 hn2 hn3 hn4 hn5 hn6 hn7 hnlt
            generalize ext w7 x9 = w8 at *
            go_roundg (t - (j + 1))
            case measure => omega
            case rel =>
              exact ⟨j + 1, S7, by go_num, by rw [HYJ.out], by omega, by rw [HYJ.out]; exact HM8.out, HG8.out, HJ8.out, HN8.out, P68.out, P78.out, rfl⟩
        · have hd2 : ∀ p : Prop, [Decidable p] → decide (hi < 0 ∧ p) = false := fun p _ => by simp [hc2]
          rw [hd2] at HYJ
          clear hd2
          simp only [iff, Bool.false_eq_true, if_false] at HYJ
          have PAa := PA7.out.box.c0
          have PAb := PA7.out.box.c1
          have PAl := PA7.out.box.lt
          have hn6 : w7.cell? ⟨w.heap.size, 6, none⟩ = some (.int .i64 lo) := HN7.out.c 6 (show 6 < 8 by decide)
          have hn7 : w7.cell? ⟨w.heap.size, 7, none⟩ = some (.int .i64 hi) := HN7.out.c 7 (show 7 < 8 by decide)
          have hnlt := HN7.out.lt
          go_wp2
          go_roundg (t - (j + 1))
          case measure => omega
          case rel =>
            exact ⟨j + 1, S7, by go_num, by rw [HYJ.out], by omega, by rw [HYJ.out]; exact HM7.out, HG7.out, HJ7.out, HN7.out, P67.out, P77.out, rfl⟩
    · have hje : j = t := by omega
      subst hje
      have P6a := P61.out.box.c0
      have P6b := P61.out.box.c1
      have P6l := P61.out.box.lt
      have P6f := P61.out.box.free 0
      have P6g := P61.out.box.free 1
      have P7a := P71.out.box.c0
      have P7b := P71.out.box.c1
      have P7l := P71.out.box.lt
      have HST := Lib.hid (P61.out.box.set np mp)
      clear r1 r2 r3 r4 hro
      go_wp2
      refine ret_cell rfl rfl rfl HST.out.1.load ?_
      exact ⟨rfl, Sr, HM1.out.keep HST.out.2 P61.out.no (by omega), HG1.out.new HST.out.2 (by omega)⟩
set_option maxRecDepth 100000 in
set_option maxHeartbeats 8000000 in
theorem repeatM1 {w : World} {S : Nat → Prop} {g q : Nat} {s : St} {F : Int} (J : (Nat → Prop) → World → Prop) (hJg : ∀ S w S' w', J S w → Gw S w S' w' → J S' w') (hJb : ∀ S w w', J S w → Below w.heap.size w w' → J S w')
    (k n a b c d lo hi : Int) (pa pb : Nat) (part : St → Pc × St) (u t : Nat) (htt : timesN ⟨k, n, a, b, c, d, lo, hi⟩ = t) (ht30 : t ≤ 30) (_hlo : 0 ≤ lo) (_hlo2 : lo ≤ 30) (_hhi : -1 ≤ hi) (hp : ∀ s, LayOk s ([(part s).1], (part s).2) u 1)
    (hPart : ∀ (w1 : World) (S1 : Nat → Prop) (s1 : St), MkT w1 S1 g q s1 F → J S1 w1 → s1.e.length + u ≤ 4000 → s1.r.length + u ≤ 4000 → tot s1.e + 2 * u ≤ 90000 → ∀ n m : Nat, n = (part s1).1.f → m = (part s1).1.l → Calls Try.prog 58 #[.pointer (some ⟨pa, 0, none⟩), .pointer (some ⟨pb, 0, none⟩)] w1 fun e w2 => e = .returned (.agg #[.int .i64 n, .int .i64 m]) ∧ ∃ S2, MkT w2 S2 g q (part s1).2 F ∧ Gw S1 w1 S2 w2)
    (h : MkT w S g q s F) (hj0 : J S w) (hl : s.e.length + 2 + t * u ≤ 4000) (hr : s.r.length + 2 + t * u ≤ 4000) (htot : tot s.e + 1 + t * (2 * u) ≤ 90000) (np mp : Nat) (hl0 : lo ≠ 0) (hnp : np = s.e.length) (hmp : mp = s.e.length + 1) :
    Calls Try.prog 57 #[.pointer (some ⟨g, 0, none⟩), .agg #[.int .i64 k, .int .i64 n, .int .u64 a, .int .u64 b, .int .u64 c, .int .u64 d, .int .i64 lo, .int .i64 hi], .func (.func 58) #[] #[.pointer (some ⟨pa, 0, none⟩), .pointer (some ⟨pb, 0, none⟩)]] w fun e w' => e = .returned (.agg #[.int .i64 np, .int .i64 mp]) ∧ ∃ S', MkT w' S' g q (repN ⟨k, n, a, b, c, d, lo, hi⟩ t (aroundP s) part (iff (decide (lo = 0)) (freeS (aroundP s).f (aroundP s).l) (two s)) t).2 F ∧ Gw S w S' w' := by
  have hgq := h.gq
  have hno := h.no (Nat.le_refl _)
  have hno1 := h.no (Nat.le_succ _)
  have hAP : aroundP s = ⟨np, mp⟩ := by rw [hnp, hmp]; rfl
  have HRO := Lib.hid (rep_ok ⟨k, n, a, b, c, d, lo, hi⟩ t part u hp s)
  rw [hAP] at HRO ⊢
  have HPL := Lib.hid hp
  have HPT := Lib.hid hPart
  have HTM : Hid (∀ w, Calls Try.prog 70 #[.agg #[.int .i64 k, .int .i64 n, .int .u64 a, .int .u64 b, .int .u64 c, .int .u64 d, .int .i64 lo, .int .i64 hi]] w fun e w' => e = .returned (.int .i64 (t : Nat)) ∧ ∃ x, w' = ext w x) := Lib.hid (fun w => by rw [← htt]; exact timesP k n a b c d lo hi)
  obtain ⟨Y, hY⟩ : ∃ Y : Nat → Nat × St, Y = repN ⟨k, n, a, b, c, d, lo, hi⟩ t ⟨np, mp⟩ part (iff (decide (lo = 0)) (freeS np mp) (two s)) := ⟨_, rfl⟩
  change Hid (∀ i, RepOk s u i (repN ⟨k, n, a, b, c, d, lo, hi⟩ t ⟨np, mp⟩ part (iff (decide (lo = 0)) (freeS np mp) (two s)) i)) at HRO
  change Calls _ _ _ _ fun e w' => _ ∧ ∃ S', MkT w' S' g q (repN ⟨k, n, a, b, c, d, lo, hi⟩ t ⟨np, mp⟩ part (iff (decide (lo = 0)) (freeS np mp) (two s)) t).2 F ∧ Gw S w S' w'
  rw [← hY] at HRO ⊢
  have HY0 : Hid (Y 0 = (np, iff (decide (lo = 0)) (freeS np mp) (two s))) := Lib.hid (by rw [hY]; rfl)
  have HYS : Hid (∀ i, Y (i + 1) = ((part (Y i).2).1.l, iff (decide (hi < 0 ∧ i + 1 = t)) (freeS (part (Y i).2).1.l (part (Y i).2).1.f) (iff (decide (lo ≤ i + 1)) (freeS (part (Y i).2).1.l mp) (freeS (Y i).1 (part (Y i).2).1.f (part (Y i).2).2)))) := Lib.hid (fun i => by rw [hY]; rfl)
  have hA : Below w.heap.size w ((w.alloc (.cells #[.int .i64 k, .int .i64 n, .int .u64 a, .int .u64 b, .int .u64 c, .int .u64 d, .int .i64 lo, .int .i64 hi] 100)).alloc (.cells #[.int .i64 0, .int .i64 0] 82)) := (below_alloc w _).trans ((below_alloc _ _).mono (by simp))
  have HMA := Lib.hid (h.up hA)
  have HGA : Hid (Gw S w S ((w.alloc (.cells #[.int .i64 k, .int .i64 n, .int .u64 a, .int .u64 b, .int .u64 c, .int .u64 d, .int .i64 lo, .int .i64 hi] 100)).alloc (.cells #[.int .i64 0, .int .i64 0] 82))) := Lib.hid (gw_below S hA)
  have HJA := Lib.hid (hJb _ _ _ hj0 hA)
  have HNA : Hid (FixC ((w.alloc (.cells #[.int .i64 k, .int .i64 n, .int .u64 a, .int .u64 b, .int .u64 c, .int .u64 d, .int .i64 lo, .int .i64 hi] 100)).alloc (.cells #[.int .i64 0, .int .i64 0] 82)) S w.heap.size #[.int .i64 k, .int .i64 n, .int .u64 a, .int .u64 b, .int .u64 c, .int .u64 d, .int .i64 lo, .int .i64 hi]) := Lib.hid ((fixC_new w S _ 100 hno).up (below_alloc _ _))
  have HPA : Hid (LB ((w.alloc (.cells #[.int .i64 k, .int .i64 n, .int .u64 a, .int .u64 b, .int .u64 c, .int .u64 d, .int .i64 lo, .int .i64 hi] 100)).alloc (.cells #[.int .i64 0, .int .i64 0] 82)) S (w.heap.size + 1) 0 0) := Lib.hid ⟨by
    have h := pcB_new (w.alloc (.cells #[.int .i64 k, .int .i64 n, .int .u64 a, .int .u64 b, .int .u64 c, .int .u64 d, .int .i64 lo, .int .i64 hi] 100)) 0 0
    simpa using h, hno1⟩
  have HAR := Lib.hid (aroundM HMA.out (by omega) (by omega) np mp hnp hmp)
  have HBD : Hid (s.e.length = np ∧ tot s.e + 1 + t * (2 * u) ≤ 90000 ∧ s.e.length + 2 + t * u ≤ 4000 ∧ s.r.length + 2 + t * u ≤ 4000) := Lib.hid ⟨hnp.symm, htot, hl, hr⟩
  have T2 := two_tot s
  have L2 := two_len s
  obtain ⟨s0, hs0⟩ : ∃ s0, s0 = two s := ⟨_, rfl⟩
  rw [← hs0] at T2 L2 HAR HY0
  have hs0l : s0.e.length ≤ 4000 := by omega
  have hs0n : np < s0.e.length := by omega
  have hs0t : tot s0.e ≤ 90000 := by omega
  have hsz2 : w.heap.size + 2 ≤ ((w.alloc (.cells #[.int .i64 k, .int .i64 n, .int .u64 a, .int .u64 b, .int .u64 c, .int .u64 d, .int .i64 lo, .int .i64 hi] 100)).alloc (.cells #[.int .i64 0, .int .i64 0] 82)).heap.size := by simp
  clear h hp hPart htt hY hAP hA hj0 hl hr htot hnp hmp hs0 T2 L2
  have hld : decide (lo = 0) = false := by simpa using hl0
  rw [hld] at HY0
  simp only [iff, Bool.false_eq_true, if_false] at HY0
  have hlb : (lo == 0) = false := by simpa using hl0
  clear hl0 hld
  go_enter Try.func57, Try.ntmps57
  go_upto_region 5 with ((with_reducible go_at_call 56); refine HAR.out.mono ?_; rintro en w1 ⟨rfl, S1, hm1, hg1⟩; have HM1 := Lib.hid hm1; have HG1 := Lib.hid (HGA.out.trans hg1); have HJ1 := Lib.hid (hJg _ _ _ _ HJA.out hg1); have HN1 := Lib.hid (HNA.out.gw hg1); have P61 := Lib.hid (HPA.out.gw hg1); (have hsz1 := Nat.le_trans hsz2 hg1.size); clear hm1 hg1; (have hn6 : w1.cell? ⟨w.heap.size, 6, none⟩ = some (.int .i64 lo) := HN1.out.c 6 (show 6 < 8 by decide)); have hnlt := HN1.out.lt)
  have HM2 := Lib.hid (HM1.out.up (below_alloc w1 (.cells #[.int .i64 np, .int .i64 mp] 82)))
  have HJ2 := Lib.hid (hJb _ _ _ HJ1.out (below_alloc w1 (.cells #[.int .i64 np, .int .i64 mp] 82)))
  have HN2 := Lib.hid (HN1.out.up (below_alloc w1 (.cells #[.int .i64 np, .int .i64 mp] 82)))
  have P62 := Lib.hid (P61.out.up (below_alloc w1 (.cells #[.int .i64 np, .int .i64 mp] 82)))
  have P72 : Hid (LB (w1.alloc (.cells #[.int .i64 np, .int .i64 mp] 82)) S1 w1.heap.size np mp) := Lib.hid ⟨pcB_new w1 np mp, HM1.out.no (Nat.le_refl _)⟩
  have HG2 := Lib.hid (HG1.out.up (below_alloc w1 (.cells #[.int .i64 np, .int .i64 mp] 82)))
  clear HM1 HG1 HJ1 HN1 P61 hn6 hnlt HMA HGA HJA HNA HPA HAR
  generalize w1.heap.size = p7 at *
  generalize w1.alloc (.cells #[.int .i64 np, .int .i64 mp] 82) = w2 at *
  have HMY : Hid (MkT w2 S1 g q (Y 0).2 F) := Lib.hid (by rw [HY0.out]; exact HM2.out)
  generalize w2 = wx at *
  generalize S1 = Sx at *
  have HMX := HMY
  have HGX := HG2
  have HJX := HJ2
  have HNX := HN2
  have P6X := P62
  have P7X := P72
  clear HMY HG2 HJ2 HN2 P62 P72 HM2
  have hY0f : ((Y 0).1 : Int) = np := by rw [HY0.out]
  clear hlb
  have hszx := HGX.out.size
  have P7a := P7X.out.box.c0
  have P7b := P7X.out.box.c1
  have P7l := P7X.out.box.lt
  have hn6 : wx.cell? ⟨w.heap.size, 6, none⟩ = some (.int .i64 lo) := HNX.out.c 6 (show 6 < 8 by decide)
  have hnlt := HNX.out.lt
  go_wp2_with (first | (refine wpList_load_cells rfl 100 _ rfl w.heap.size 0 8 rfl _ _ (fixC_cells HNX.out 8 rfl) rfl Try.underlying100 rfl (by kernel_rfl) ?_) | ((with_reducible go_at_call 70); refine (HTM.out _).mono ?_; rintro en' w' ⟨rfl, x5, rfl⟩))
  go_loopg [8, 28] t (fun gk av iv wr => ∃ (j : Nat) (Sr : Nat → Prop), iv = .int .i64 j ∧ av = .int .i64 ((Y j).1 : Nat) ∧ j ≤ t ∧ MkT wr Sr g q (Y j).2 F ∧ Gw S w Sr wr ∧ J Sr wr ∧ FixC wr Sr w.heap.size #[.int .i64 k, .int .i64 n, .int .u64 a, .int .u64 b, .int .u64 c, .int .u64 d, .int .i64 lo, .int .i64 hi] ∧ LB wr Sr (w.heap.size + 1) 0 0 ∧ LB wr Sr p7 np mp ∧ gk = t - j)
  case atStart =>
    refine ⟨0, Sx, rfl, ?_, Nat.zero_le _, HMX.out.up (ext_below _ _), HGX.out.up (ext_below _ _), hJb _ _ _ HJX.out (ext_below _ _), HNX.out.up (ext_below _ _), P6X.out.up (ext_below _ _), P7X.out.up (ext_below _ _), rfl⟩
    rw [hY0f]
  case round =>
    obtain ⟨j, Sr, rfl, rfl, hj, hm, hgw, hjj, hnn, hp6, hp7, rfl⟩ := hrel
    have HM1 := Lib.hid hm
    have HG1 := Lib.hid hgw
    have HJ1 := Lib.hid hjj
    have HN1 := Lib.hid hnn
    have P61 := Lib.hid hp6
    have P71 := Lib.hid hp7
    clear hm hgw hjj hnn hp6 hp7 HMX HGX HJX HNX P6X P7X P7a P7b P7l hn6 hnlt
    have hro := HRO.out j
    have r1 := hro.len
    have r2 := hro.rlen
    have r3 := hro.at_
    have r4 := hro.tot
    obtain ⟨b1, b2, b3, b4⟩ := HBD.out
    by_cases hlt : j < t
    · have e1 : (j + 1) * u ≤ t * u := Nat.mul_le_mul_right u hlt
      have e2 : (j + 1) * (2 * u) ≤ t * (2 * u) := Nat.mul_le_mul_right (2 * u) hlt
      rw [Nat.add_mul, Nat.one_mul] at e1 e2
      have hys := HYS.out j
      have hlp := HPL.out (Y j).2
      have q1 := hlp.len
      have q3 := hlp.rng 0 (by omega)
      have q4 := hlp.tot
      simp only [List.getD_cons_zero] at q1 q3 q4
      have HCL := Lib.hid (HPT.out wr Sr (Y j).2 HM1.out HJ1.out (by omega) (by omega) (by omega) (part (Y j).2).1.f (part (Y j).2).1.l rfl rfl)
      obtain ⟨at_, hat⟩ : ∃ at_, at_ = (Y j).1 := ⟨_, rfl⟩
      obtain ⟨sj, hsj⟩ : ∃ sj, sj = (part (Y j).2).2 := ⟨_, rfl⟩
      obtain ⟨qf, hqf⟩ : ∃ qf, qf = (part (Y j).2).1.f := ⟨_, rfl⟩
      obtain ⟨ql, hql⟩ : ∃ ql, ql = (part (Y j).2).1.l := ⟨_, rfl⟩
      rw [← hqf, ← hql] at HCL
      rw [← hat, ← hsj, ← hqf, ← hql] at hys
      rw [← hsj] at HCL q1 q3 q4
      rw [← hqf, ← hql] at q3
      rw [← hat] at r3 ⊢
      have k1 : at_ < sj.e.length := by omega
      have k2 : sj.e.length ≤ 4000 := by omega
      have k3 : tot sj.e ≤ 95000 := by omega
      have k4 : np < sj.e.length := by omega
      obtain ⟨k5, k6⟩ := q3
      have HYJ := Lib.hid hys
      have hszr := HG1.out.size
      clear hys hlp q1 q4 e1 e2 hat hsj hqf hql r1 r2 r3 r4 hro hszx hY0f
      go_wp2_with ((with_reducible go_at_call 58); refine HCL.out.mono ?_; rintro en' w5 ⟨rfl, S5, hm, hg⟩; have HM5 := Lib.hid hm; have HG5 := Lib.hid (HG1.out.trans hg); have HJ5 := Lib.hid (hJg _ _ _ _ HJ1.out hg); have HN5 := Lib.hid (HN1.out.gw hg); have P65 := Lib.hid (P61.out.gw hg); have P75 := Lib.hid (P71.out.gw hg); clear hm hg)
      have HM6 := Lib.hid (HM5.out.up (below_alloc w5 (.cells #[.int .i64 qf, .int .i64 ql] 82)))
      have HJ6 := Lib.hid (hJb _ _ _ HJ5.out (below_alloc w5 (.cells #[.int .i64 qf, .int .i64 ql] 82)))
      have HN6 := Lib.hid (HN5.out.up (below_alloc w5 (.cells #[.int .i64 qf, .int .i64 ql] 82)))
      have P66 := Lib.hid (P65.out.up (below_alloc w5 (.cells #[.int .i64 qf, .int .i64 ql] 82)))
      have P76 := Lib.hid (P75.out.up (below_alloc w5 (.cells #[.int .i64 qf, .int .i64 ql] 82)))
      have PA6 : Hid (LB (w5.alloc (.cells #[.int .i64 qf, .int .i64 ql] 82)) S5 w5.heap.size qf ql) := Lib.hid ⟨pcB_new w5 qf ql, HM5.out.no (Nat.le_refl _)⟩
      have HG6 := Lib.hid (HG5.out.up (below_alloc w5 (.cells #[.int .i64 qf, .int .i64 ql] 82)))
      clear HM1 HG1 HJ1 HN1 P61 P71 HM5 HG5 HJ5 HN5 P65 P75 HCL
      generalize w5.heap.size = p10 at *
      generalize w5.alloc (.cells #[.int .i64 qf, .int .i64 ql] 82) = w6 at *
      have hc4 := HM6.out.f4
      have hgl := HM6.out.glt
      have PAa := PA6.out.box.c0
      have PAb := PA6.out.box.c1
      have PAl := PA6.out.box.lt
      have hn6 : w6.cell? ⟨w.heap.size, 6, none⟩ = some (.int .i64 lo) := HN6.out.c 6 (show 6 < 8 by decide)
      have hn7 : w6.cell? ⟨w.heap.size, 7, none⟩ = some (.int .i64 hi) := HN6.out.c 7 (show 7 < 8 by decide)
      have hnlt := HN6.out.lt
      try go_wp2
      refine wp_region_tailg [0,1,2,3,4,5,6] [] [7] (by kernel_rfl) (by kernel_rfl) ?_
      simp only [pick, List.map_cons, List.map_nil, List.getD_cons_zero, List.getD_cons_succ]
      repeat (go_big_quiet_step (fail))
      refine wpQuiet_nil ?_
      unfold wpAct
      unfold wpAct
      go_wp2_with ((with_reducible go_at_call 54); refine (freeT (HM6.out.up (drew_b _)) at_ qf k1 (by omega) (by omega)).mono ?_; rintro en w7 ⟨rfl, S7, hm, hg⟩; have HM7 := Lib.hid hm; have HG7 := Lib.hid ((HG6.out.up (drew_b _)).trans hg); have PA7 := Lib.hid ((PA6.out.up (drew_b _)).gw hg); have HN7 := Lib.hid ((HN6.out.up (drew_b _)).gw hg); have P67 := Lib.hid ((P66.out.up (drew_b _)).gw hg); have P77 := Lib.hid ((P76.out.up (drew_b _)).gw hg); have HJ7 := Lib.hid (hJg _ _ _ _ (hJb _ _ _ HJ6.out (drew_b _)) hg); clear hm hg)
      refine ⟨trivial, ?_⟩
      unfold wpAct
      clear hc4 hgl hn6 hn7 hnlt PAa PAb PAl HM6 HG6 HJ6 PA6 HN6 P66 P76
      have t7 := freeS_tot at_ qf sj
      have l7 := freeS_len at_ qf sj
      obtain ⟨s7, hs7⟩ : ∃ s7, s7 = freeS at_ qf sj := ⟨_, rfl⟩
      rw [← hs7] at t7 l7 HM7 HYJ
      clear hs7
      by_cases hc1 : lo ≤ (j : Int) + 1
      · have hd1 : decide (lo ≤ (j : Int) + 1) = true := by simpa using hc1
        rw [hd1] at HYJ
        clear hd1
        have hc4 := HM7.out.f4
        have hgl := HM7.out.glt
        have PAa := PA7.out.box.c0
        have PAb := PA7.out.box.c1
        have PAl := PA7.out.box.lt
        have P7a := P77.out.box.c0
        have P7b := P77.out.box.c1
        have P7l := P77.out.box.lt
        have hn6 : w7.cell? ⟨w.heap.size, 6, none⟩ = some (.int .i64 lo) := HN7.out.c 6 (show 6 < 8 by decide)
        have hn7 : w7.cell? ⟨w.heap.size, 7, none⟩ = some (.int .i64 hi) := HN7.out.c 7 (show 7 < 8 by decide)
        have hnlt := HN7.out.lt
        try go_wp2
        refine wp_region_tailg [0,1,2,3,4,5,6] [] [7] (by kernel_rfl) (by kernel_rfl) ?_
        simp only [pick, List.map_cons, List.map_nil, List.getD_cons_zero, List.getD_cons_succ]
        repeat (go_big_quiet_step (fail))
        refine wpQuiet_nil ?_
        unfold wpAct
        unfold wpAct
        go_wp2_with ((with_reducible go_at_call 54); refine (freeT (HM7.out.up (drew_b _)) ql mp (by omega) (by omega) (by omega)).mono ?_; rintro en w8 ⟨rfl, S8, hm, hg⟩; have HM8 := Lib.hid hm; have HG8 := Lib.hid ((HG7.out.up (drew_b _)).trans hg); have PA8 := Lib.hid ((PA7.out.up (drew_b _)).gw hg); have P78 := Lib.hid ((P77.out.up (drew_b _)).gw hg); have HN8 := Lib.hid ((HN7.out.up (drew_b _)).gw hg); have P68 := Lib.hid ((P67.out.up (drew_b _)).gw hg); have HJ8 := Lib.hid (hJg _ _ _ _ (hJb _ _ _ HJ7.out (drew_b _)) hg); clear hm hg)
        refine ⟨trivial, ?_⟩
        unfold wpAct
        clear hc4 hgl hn6 hn7 hnlt PAa PAb PAl P7a P7b P7l HM7 HG7 HJ7 PA7 P77 HN7 P67
        simp only [show ∀ f s, iff true f s = f s from fun f s => rfl] at HYJ
        have t8 := freeS_tot ql mp s7
        have l8 := freeS_len ql mp s7
        obtain ⟨s8, hs8⟩ : ∃ s8, s8 = freeS ql mp s7 := ⟨_, rfl⟩
        rw [← hs8] at t8 l8 HM8 HYJ
        clear hs8
        by_cases hc2 : hi < 0
        · have hd2 : ∀ p : Prop, [Decidable p] → decide (hi < 0 ∧ p) = decide p := fun p _ => by simp [hc2]
          rw [hd2] at HYJ
          clear hd2
          by_cases hce : j + 1 = t
          · have hcb : (((j : Int) + 1) == (t : Int)) = true := by simpa using (by omega : (j : Int) + 1 = t)
            have hdc : decide (j + 1 = t) = true := by simpa using hce
            rw [hdc] at HYJ
            simp only [show ∀ f s, iff true f s = f s from fun f s => rfl] at HYJ
            clear hce hdc
            have PAa := PA8.out.box.c0
            have PAb := PA8.out.box.c1
            have PAl := PA8.out.box.lt
            have hn6 : w8.cell? ⟨w.heap.size, 6, none⟩ = some (.int .i64 lo) := HN8.out.c 6 (show 6 < 8 by decide)
            have hn7 : w8.cell? ⟨w.heap.size, 7, none⟩ = some (.int .i64 hi) := HN8.out.c 7 (show 7 < 8 by decide)
            have hnlt := HN8.out.lt
            have hn0 : w8.cell? ⟨w.heap.size, 0, none⟩ = some (.int .i64 k) := HN8.out.c 0 (show 0 < 8 by decide)
            have hn1 : w8.cell? ⟨w.heap.size, 1, none⟩ = some (.int .i64 n) := HN8.out.c 1 (show 1 < 8 by decide)
            have hn2 : w8.cell? ⟨w.heap.size, 2, none⟩ = some (.int .u64 a) := HN8.out.c 2 (show 2 < 8 by decide)
            have hn3 : w8.cell? ⟨w.heap.size, 3, none⟩ = some (.int .u64 b) := HN8.out.c 3 (show 3 < 8 by decide)
            have hn4 : w8.cell? ⟨w.heap.size, 4, none⟩ = some (.int .u64 c) := HN8.out.c 4 (show 4 < 8 by decide)
            have hn5 : w8.cell? ⟨w.heap.size, 5, none⟩ = some (.int .u64 d) := HN8.out.c 5 (show 5 < 8 by decide)
            go_wp2_with ((with_reducible go_at_call 70); refine (HTM.out _).mono ?_; rintro en' w' ⟨rfl, x9, rfl⟩; (have HM9 := Lib.hid (HM8.out.up (ext_below w8 x9))); (have HG9 := Lib.hid (HG8.out.up (ext_below w8 x9))); (have HN9 := Lib.hid (HN8.out.up (ext_below w8 x9))); (have P69 := Lib.hid (P68.out.up (ext_below w8 x9))); (have P79 := Lib.hid (P78.out.up (ext_below w8 x9))); (have PA9 := Lib.hid (PA8.out.up (ext_below w8 x9))); (have HJ9 := Lib.hid (hJb _ _ _ HJ8.out (ext_below w8 x9))))
            clear PAa PAb PAl hn0 hn1 hn2 hn3 hn4 hn5 hn6 hn7 hnlt
            generalize ext w8 x9 = w9 at *
            have hc4 := HM9.out.f4
            have hgl := HM9.out.glt
            have PAa := PA9.out.box.c0
            have PAb := PA9.out.box.c1
            have PAl := PA9.out.box.lt
            have hn6 : w9.cell? ⟨w.heap.size, 6, none⟩ = some (.int .i64 lo) := HN9.out.c 6 (show 6 < 8 by decide)
            have hn7 : w9.cell? ⟨w.heap.size, 7, none⟩ = some (.int .i64 hi) := HN9.out.c 7 (show 7 < 8 by decide)
            have hnlt := HN9.out.lt
            try go_wp2
            refine wp_region_tailg [0,1,2,3,4,5,6] [] [7] (by kernel_rfl) (by kernel_rfl) ?_
            simp only [pick, List.map_cons, List.map_nil, List.getD_cons_zero, List.getD_cons_succ]
            repeat (go_big_quiet_step (fail))
            refine wpQuiet_nil ?_
            unfold wpAct
            unfold wpAct
            go_wp2_with ((with_reducible go_at_call 54); refine (freeT (HM9.out.up (drew_b _)) ql qf (by omega) (by omega) (by omega)).mono ?_; rintro en w10 ⟨rfl, S10, hm, hg⟩; have HM10 := Lib.hid hm; have HG10 := Lib.hid ((HG9.out.up (drew_b _)).trans hg); have PA10 := Lib.hid ((PA9.out.up (drew_b _)).gw hg); have HN10 := Lib.hid ((HN9.out.up (drew_b _)).gw hg); have P610 := Lib.hid ((P69.out.up (drew_b _)).gw hg); have P710 := Lib.hid ((P79.out.up (drew_b _)).gw hg); have HJ10 := Lib.hid (hJg _ _ _ _ (hJb _ _ _ HJ9.out (drew_b _)) hg); clear hm hg)
            refine ⟨trivial, ?_⟩
            unfold wpAct
            clear hc4 hgl hn6 hn7 hnlt PAa PAb PAl HM9 HG9 HJ9 PA9 HN9 P69 P79
            go_wp2
            go_roundg (t - (j + 1))
            case measure => omega
            case rel =>
              exact ⟨j + 1, S10, by go_num, by rw [HYJ.out], by omega, by rw [HYJ.out]; exact HM10.out, HG10.out, HJ10.out, HN10.out, P610.out, P710.out, rfl⟩
          · have hcb : (((j : Int) + 1) == (t : Int)) = false := by simpa using (by omega : ¬ (j : Int) + 1 = t)
            have hdc : decide (j + 1 = t) = false := by simpa using hce
            rw [hdc] at HYJ
            simp only [show ∀ f s, iff false f s = s from fun f s => rfl] at HYJ
            clear hce hdc
            have PAa := PA8.out.box.c0
            have PAb := PA8.out.box.c1
            have PAl := PA8.out.box.lt
            have hn6 : w8.cell? ⟨w.heap.size, 6, none⟩ = some (.int .i64 lo) := HN8.out.c 6 (show 6 < 8 by decide)
            have hn7 : w8.cell? ⟨w.heap.size, 7, none⟩ = some (.int .i64 hi) := HN8.out.c 7 (show 7 < 8 by decide)
            have hnlt := HN8.out.lt
            have hn0 : w8.cell? ⟨w.heap.size, 0, none⟩ = some (.int .i64 k) := HN8.out.c 0 (show 0 < 8 by decide)
            have hn1 : w8.cell? ⟨w.heap.size, 1, none⟩ = some (.int .i64 n) := HN8.out.c 1 (show 1 < 8 by decide)
            have hn2 : w8.cell? ⟨w.heap.size, 2, none⟩ = some (.int .u64 a) := HN8.out.c 2 (show 2 < 8 by decide)
            have hn3 : w8.cell? ⟨w.heap.size, 3, none⟩ = some (.int .u64 b) := HN8.out.c 3 (show 3 < 8 by decide)
            have hn4 : w8.cell? ⟨w.heap.size, 4, none⟩ = some (.int .u64 c) := HN8.out.c 4 (show 4 < 8 by decide)
            have hn5 : w8.cell? ⟨w.heap.size, 5, none⟩ = some (.int .u64 d) := HN8.out.c 5 (show 5 < 8 by decide)
            go_wp2_with ((with_reducible go_at_call 70); refine (HTM.out _).mono ?_; rintro en' w' ⟨rfl, x9, rfl⟩; (have HM9 := Lib.hid (HM8.out.up (ext_below w8 x9))); (have HG9 := Lib.hid (HG8.out.up (ext_below w8 x9))); (have HN9 := Lib.hid (HN8.out.up (ext_below w8 x9))); (have P69 := Lib.hid (P68.out.up (ext_below w8 x9))); (have P79 := Lib.hid (P78.out.up (ext_below w8 x9))); (have PA9 := Lib.hid (PA8.out.up (ext_below w8 x9))); (have HJ9 := Lib.hid (hJb _ _ _ HJ8.out (ext_below w8 x9))))
            clear PAa PAb PAl hn0 hn1 hn2 hn3 hn4 hn5 hn6 hn7 hnlt
            generalize ext w8 x9 = w9 at *
            go_roundg (t - (j + 1))
            case measure => omega
            case rel =>
              exact ⟨j + 1, S8, by go_num, by rw [HYJ.out], by omega, by rw [HYJ.out]; exact HM9.out, HG9.out, HJ9.out, HN9.out, P69.out, P79.out, rfl⟩
        · have hd2 : ∀ p : Prop, [Decidable p] → decide (hi < 0 ∧ p) = false := fun p _ => by simp [hc2]
          rw [hd2] at HYJ
          clear hd2
          simp only [iff, Bool.false_eq_true, if_false] at HYJ
          have PAa := PA8.out.box.c0
          have PAb := PA8.out.box.c1
          have PAl := PA8.out.box.lt
          have hn6 : w8.cell? ⟨w.heap.size, 6, none⟩ = some (.int .i64 lo) := HN8.out.c 6 (show 6 < 8 by decide)
          have hn7 : w8.cell? ⟨w.heap.size, 7, none⟩ = some (.int .i64 hi) := HN8.out.c 7 (show 7 < 8 by decide)
          have hnlt := HN8.out.lt
          go_wp2
          go_roundg (t - (j + 1))
          case measure => omega
          case rel =>
            exact ⟨j + 1, S8, by go_num, by rw [HYJ.out], by omega, by rw [HYJ.out]; exact HM8.out, HG8.out, HJ8.out, HN8.out, P68.out, P78.out, rfl⟩
      · have hd1 : decide (lo ≤ (j : Int) + 1) = false := by simpa using hc1
        rw [hd1] at HYJ
        clear hd1
        simp only [show ∀ f s, iff false f s = s from fun f s => rfl] at HYJ
        by_cases hc2 : hi < 0
        · have hd2 : ∀ p : Prop, [Decidable p] → decide (hi < 0 ∧ p) = decide p := fun p _ => by simp [hc2]
          rw [hd2] at HYJ
          clear hd2
          by_cases hce : j + 1 = t
          · have hcb : (((j : Int) + 1) == (t : Int)) = true := by simpa using (by omega : (j : Int) + 1 = t)
            have hdc : decide (j + 1 = t) = true := by simpa using hce
            rw [hdc] at HYJ
            simp only [show ∀ f s, iff true f s = f s from fun f s => rfl] at HYJ
            clear hce hdc
            have PAa := PA7.out.box.c0
            have PAb := PA7.out.box.c1
            have PAl := PA7.out.box.lt
            have hn6 : w7.cell? ⟨w.heap.size, 6, none⟩ = some (.int .i64 lo) := HN7.out.c 6 (show 6 < 8 by decide)
            have hn7 : w7.cell? ⟨w.heap.size, 7, none⟩ = some (.int .i64 hi) := HN7.out.c 7 (show 7 < 8 by decide)
            have hnlt := HN7.out.lt
            have hn0 : w7.cell? ⟨w.heap.size, 0, none⟩ = some (.int .i64 k) := HN7.out.c 0 (show 0 < 8 by decide)
            have hn1 : w7.cell? ⟨w.heap.size, 1, none⟩ = some (.int .i64 n) := HN7.out.c 1 (show 1 < 8 by decide)
            have hn2 : w7.cell? ⟨w.heap.size, 2, none⟩ = some (.int .u64 a) := HN7.out.c 2 (show 2 < 8 by decide)
            have hn3 : w7.cell? ⟨w.heap.size, 3, none⟩ = some (.int .u64 b) := HN7.out.c 3 (show 3 < 8 by decide)
            have hn4 : w7.cell? ⟨w.heap.size, 4, none⟩ = some (.int .u64 c) := HN7.out.c 4 (show 4 < 8 by decide)
            have hn5 : w7.cell? ⟨w.heap.size, 5, none⟩ = some (.int .u64 d) := HN7.out.c 5 (show 5 < 8 by decide)
            go_wp2_with ((with_reducible go_at_call 70); refine (HTM.out _).mono ?_; rintro en' w' ⟨rfl, x9, rfl⟩; (have HM8 := Lib.hid (HM7.out.up (ext_below w7 x9))); (have HG8 := Lib.hid (HG7.out.up (ext_below w7 x9))); (have HN8 := Lib.hid (HN7.out.up (ext_below w7 x9))); (have P68 := Lib.hid (P67.out.up (ext_below w7 x9))); (have P78 := Lib.hid (P77.out.up (ext_below w7 x9))); (have PA8 := Lib.hid (PA7.out.up (ext_below w7 x9))); (have HJ8 := Lib.hid (hJb _ _ _ HJ7.out (ext_below w7 x9))))
            clear PAa PAb PAl hn0 hn1 hn2 hn3 hn4 hn5 hn6 hn7 hnlt
            generalize ext w7 x9 = w8 at *
            have hc4 := HM8.out.f4
            have hgl := HM8.out.glt
            have PAa := PA8.out.box.c0
            have PAb := PA8.out.box.c1
            have PAl := PA8.out.box.lt
            have hn6 : w8.cell? ⟨w.heap.size, 6, none⟩ = some (.int .i64 lo) := HN8.out.c 6 (show 6 < 8 by decide)
            have hn7 : w8.cell? ⟨w.heap.size, 7, none⟩ = some (.int .i64 hi) := HN8.out.c 7 (show 7 < 8 by decide)
            have hnlt := HN8.out.lt
            try go_wp2
            refine wp_region_tailg [0,1,2,3,4,5,6] [] [7] (by kernel_rfl) (by kernel_rfl) ?_
            simp only [pick, List.map_cons, List.map_nil, List.getD_cons_zero, List.getD_cons_succ]
            repeat (go_big_quiet_step (fail))
            refine wpQuiet_nil ?_
            unfold wpAct
            unfold wpAct
            go_wp2_with ((with_reducible go_at_call 54); refine (freeT (HM8.out.up (drew_b _)) ql qf (by omega) (by omega) (by omega)).mono ?_; rintro en w9 ⟨rfl, S9, hm, hg⟩; have HM9 := Lib.hid hm; have HG9 := Lib.hid ((HG8.out.up (drew_b _)).trans hg); have PA9 := Lib.hid ((PA8.out.up (drew_b _)).gw hg); have HN9 := Lib.hid ((HN8.out.up (drew_b _)).gw hg); have P69 := Lib.hid ((P68.out.up (drew_b _)).gw hg); have P79 := Lib.hid ((P78.out.up (drew_b _)).gw hg); have HJ9 := Lib.hid (hJg _ _ _ _ (hJb _ _ _ HJ8.out (drew_b _)) hg); clear hm hg)
            refine ⟨trivial, ?_⟩
            unfold wpAct
            clear hc4 hgl hn6 hn7 hnlt PAa PAb PAl HM8 HG8 HJ8 PA8 HN8 P68 P78
            go_wp2
            go_roundg (t - (j + 1))
            case measure => omega
            case rel =>
              exact ⟨j + 1, S9, by go_num, by rw [HYJ.out], by omega, by rw [HYJ.out]; exact HM9.out, HG9.out, HJ9.out, HN9.out, P69.out, P79.out, rfl⟩
          · have hcb : (((j : Int) + 1) == (t : Int)) = false := by simpa using (by omega : ¬ (j : Int) + 1 = t)
            have hdc : decide (j + 1 = t) = false := by simpa using hce
            rw [hdc] at HYJ
            simp only [show ∀ f s, iff false f s = s from fun f s => rfl] at HYJ
            clear hce hdc
            have PAa := PA7.out.box.c0
            have PAb := PA7.out.box.c1
            have PAl := PA7.out.box.lt
            have hn6 : w7.cell? ⟨w.heap.size, 6, none⟩ = some (.int .i64 lo) := HN7.out.c 6 (show 6 < 8 by decide)
            have hn7 : w7.cell? ⟨w.heap.size, 7, none⟩ = some (.int .i64 hi) := HN7.out.c 7 (show 7 < 8 by decide)
            have hnlt := HN7.out.lt
            have hn0 : w7.cell? ⟨w.heap.size, 0, none⟩ = some (.int .i64 k) := HN7.out.c 0 (show 0 < 8 by decide)
            have hn1 : w7.cell? ⟨w.heap.size, 1, none⟩ = some (.int .i64 n) := HN7.out.c 1 (show 1 < 8 by decide)
            have hn2 : w7.cell? ⟨w.heap.size, 2, none⟩ = some (.int .u64 a) := HN7.out.c 2 (show 2 < 8 by decide)
            have hn3 : w7.cell? ⟨w.heap.size, 3, none⟩ = some (.int .u64 b) := HN7.out.c 3 (show 3 < 8 by decide)
            have hn4 : w7.cell? ⟨w.heap.size, 4, none⟩ = some (.int .u64 c) := HN7.out.c 4 (show 4 < 8 by decide)
            have hn5 : w7.cell? ⟨w.heap.size, 5, none⟩ = some (.int .u64 d) := HN7.out.c 5 (show 5 < 8 by decide)
            go_wp2_with ((with_reducible go_at_call 70); refine (HTM.out _).mono ?_; rintro en' w' ⟨rfl, x9, rfl⟩; (have HM8 := Lib.hid (HM7.out.up (ext_below w7 x9))); (have HG8 := Lib.hid (HG7.out.up (ext_below w7 x9))); (have HN8 := Lib.hid (HN7.out.up (ext_below w7 x9))); (have P68 := Lib.hid (P67.out.up (ext_below w7 x9))); (have P78 := Lib.hid (P77.out.up (ext_below w7 x9))); (have PA8 := Lib.hid (PA7.out.up (ext_below w7 x9))); (have HJ8 := Lib.hid (hJb _ _ _ HJ7.out (ext_below w7 x9))))
            clear PAa PAb PAl hn0 hn1 hn2 hn3 hn4 hn5 hn6 hn7 hnlt
            generalize ext w7 x9 = w8 at *
            go_roundg (t - (j + 1))
            case measure => omega
            case rel =>
              exact ⟨j + 1, S7, by go_num, by rw [HYJ.out], by omega, by rw [HYJ.out]; exact HM8.out, HG8.out, HJ8.out, HN8.out, P68.out, P78.out, rfl⟩
        · have hd2 : ∀ p : Prop, [Decidable p] → decide (hi < 0 ∧ p) = false := fun p _ => by simp [hc2]
          rw [hd2] at HYJ
          clear hd2
          simp only [iff, Bool.false_eq_true, if_false] at HYJ
          have PAa := PA7.out.box.c0
          have PAb := PA7.out.box.c1
          have PAl := PA7.out.box.lt
          have hn6 : w7.cell? ⟨w.heap.size, 6, none⟩ = some (.int .i64 lo) := HN7.out.c 6 (show 6 < 8 by decide)
          have hn7 : w7.cell? ⟨w.heap.size, 7, none⟩ = some (.int .i64 hi) := HN7.out.c 7 (show 7 < 8 by decide)
          have hnlt := HN7.out.lt
          go_wp2
          go_roundg (t - (j + 1))
          case measure => omega
          case rel =>
            exact ⟨j + 1, S7, by go_num, by rw [HYJ.out], by omega, by rw [HYJ.out]; exact HM7.out, HG7.out, HJ7.out, HN7.out, P67.out, P77.out, rfl⟩
    · have hje : j = t := by omega
      subst hje
      have P6a := P61.out.box.c0
      have P6b := P61.out.box.c1
      have P6l := P61.out.box.lt
      have P6f := P61.out.box.free 0
      have P6g := P61.out.box.free 1
      have P7a := P71.out.box.c0
      have P7b := P71.out.box.c1
      have P7l := P71.out.box.lt
      have HST := Lib.hid (P61.out.box.set np mp)
      clear r1 r2 r3 r4 hro
      go_wp2
      refine ret_cell rfl rfl rfl HST.out.1.load ?_
      exact ⟨rfl, Sr, HM1.out.keep HST.out.2 P61.out.no (by omega), HG1.out.new HST.out.2 (by omega)⟩
end Go.Cm
