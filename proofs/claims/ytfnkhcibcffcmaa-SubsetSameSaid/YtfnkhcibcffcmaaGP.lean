/- Texts of this claim, joined: walks of small functions and plain facts about them. Conditions: as each says. -/
import Derived.Test.YtfnkhcibcffcmaaGO
/- The walk of what a set matches between two places, and of nothing. Conditions: none. -/
namespace Go.Cm
open Go.RowKit Go.Proofs

/-- what Pairs makes of a tree at a place -/
def PairsOk (w : World) (v : Value) (s : ByteArray) (y : Nd) (ky : Fo) (at_ : Nat) : Prop := ∀ x', Below w.heap.size w x' →
  Calls Try.prog 61 #[v, .int .i64 at_, .string s] x' fun e w' => ∃ u, e = .returned u ∧ (∃ G, GridR w' u (s.size + 1) G ∧ GL (langN y (langs ky)) (txt s) (s.size + 1) G) ∧ Below x'.heap.size x' w'
def KidsOk (w : World) (v : Value) (s : ByteArray) : Fo → Nat → Prop
  | .nil, _ => True
  | .cons y ky r, at_ => PairsOk w v s y ky at_ ∧ KidsOk w v s r (at_ + 1 + (flat ky).length)
/-- a node at a place of a list, in memory -/
structure NodeAt (w : World) (v : Value) (l : List Nd) (i : Nat) (x : Nd) (k : Fo) : Prop where
  at_ : NodesAt w v l
  len : l.length ≤ 400
  drop : ∃ post, l.drop i = x :: (flat k ++ post)
  n : x.n = cnt k
  wf : wf k
theorem NodeAt.up {w w' : World} {v : Value} {l : List Nd} {i : Nat} {x : Nd} {k : Fo} (h : NodeAt w v l i x k) (hb : Below w.heap.size w w') : NodeAt w' v l i x k := ⟨h.at_.up hb, h.len, h.drop, h.n, h.wf⟩
/-- its kids, and its cells -/
theorem NodeAt.kids {w : World} {v : Value} {l : List Nd} {i : Nat} {x : Nd} {k : Fo} (h : NodeAt w v l i x k) :
    Calls Try.prog 50 #[v, .int .i64 i] w fun e w' => ∃ u, e = .returned u ∧ IntsAt w' u (nz (kidsAt k (i + 1))) ∧ ∃ x, w' = ext w x := by
  obtain ⟨post, hd⟩ := h.drop
  exact kidsR h.at_ h.len hd h.n h.wf
theorem NodeAt.open {w : World} {v : Value} {l : List Nd} {i : Nat} {x : Nd} {k : Fo} (h : NodeAt w v l i x k) :
    ∃ oa cap b off, v = .slice oa l.length cap ∧ (∀ W : World, (Instr.indexAt 48 v (.int .i64 i)).run Try.prog W = .ok (.pointer (some ⟨b, off + i * 8, none⟩)) W) ∧ b < w.heap.size ∧ ∀ c, c < 8 → w.cell? ⟨b, off + i * 8 + c, none⟩ = some ((ndC x).getD c undef) := by
  obtain ⟨post, hd0⟩ := h.drop
  obtain ⟨oa, cap, b, off, rfl, hd, hc⟩ := h.at_.open
  obtain ⟨hi, hx, -⟩ := drop_cons (d := zN) hd0
  refine ⟨oa, cap, b, off, rfl, fun W => ?_, hd.hblk (by omega), fun c hcl => by rw [hc i hi c hcl, hx]⟩
  have := index_node hd W .i64 i (by omega) (by omega)
  simpa using this
theorem mid_one (t : List Nat) {p : Nat} (h : p < t.length) : (t.drop p).take 1 = [t.getD p 0] := by
  rw [List.drop_eq_getElem_cons h, List.take_succ_cons, List.take_zero]
  simp [List.getD, h]
theorem gl_set {x : Nd} {t : List Nat} {N : Nat} (hN : N = t.length + 1) {G : Nat → Nat → Bool} (h : ∀ p r, p < N → r < N → (G p r = true ↔ p < t.length ∧ r = p + 1 ∧ hasN (setEd x 0) (t.getD p 0) = true)) : GL (setL1 x) t N G := fun p r hp hr => by
  rw [h p r hp hr]
  constructor
  · rintro ⟨h1, rfl, h2⟩
    refine ⟨Nat.le_succ _, t.getD p 0, ?_, h2⟩
    rw [Nat.add_sub_cancel_left]
    exact mid_one t h1
  · rintro ⟨hpr, c, h1, h2⟩
    have hl := mid_len (t := t) (p := p) (r := r) (by omega) hpr
    rw [h1] at hl
    have hr1 : r = p + 1 := by simp at hl; omega
    subst hr1
    rw [Nat.add_sub_cancel_left, mid_one t (by omega)] at h1
    simp only [List.cons.injEq, and_true] at h1
    exact ⟨by omega, rfl, by rw [h1]; exact h2⟩
theorem setW_nd {x : Nd} (h : NdQ x) : SetW (setEd x 0) := fun q => by
  obtain ⟨h1, h2, h3, h4⟩ := h
  unfold wordN setEd
  (repeat' split) <;> first | exact h1.1 | exact h2.1 | exact h3.1 | exact h4.1
set_option maxRecDepth 100000 in
set_option maxHeartbeats 8000000 in
theorem pairs2 {w : World} {v : Value} {l : List Nd} {i : Nat} {x : Nd} {k : Fo} (h : NodeAt w v l i x k) (hk : x.kd = 2) (s : ByteArray) (hs : s.size ≤ 1000) : PairsOk w v s x k i := by
  intro x' hx'
  have HKI := Lib.hid (h.up hx').kids
  obtain ⟨oa, cap, b, off, rfl, hix, hb, hc⟩ := (h.up hx').open
  have hc0 := hc 0 (by decide)
  change x'.cell? ⟨b, off + i * 8, none⟩ = some (.int .i64 x.kd) at hc0
  rw [hk] at hc0
  have HLN : Hid (∀ w, eps w ↔ langN x (langs k) w) := Lib.hid (fun w => by unfold langN; rw [if_neg (by omega), if_pos hk])
  have HT := Lib.hid (txt_len s)
  clear hk hc h hx'
  go_enter Try.func61, Try.ntmps61
  go_upto_region 2 with ((with_reducible go_at_call 50); refine HKI.out.mono ?_; rintro en w1 ⟨u, rfl, -, x1, rfl⟩)
  have HW1 := Lib.hid (ext_below x' x1)
  have HCX := Lib.hid (((ext_below x' x1).cell (p := ⟨b, off + i * 8, none⟩) hb).trans hc0)
  have hs1 := (ext_below x' x1).size
  clear hc0 HKI
  generalize ext x' x1 = w1 at *
  have HG := Lib.hid (gridR (w := w1) (N := s.size + 1) (by omega))
  have HSM := Lib.hid (fun (W : World) => sameR (w := W) (N := s.size + 1) (by omega) (by omega))
  rw [show ((s.size + 1 : Nat) : Int) = (s.size : Int) + 1 by push_cast; rfl] at HG HSM
  go_upto_region 3 with ((with_reducible go_at_call 71); refine HG.out.mono ?_; rintro en w2 ⟨u2, rfl, -, hb2⟩; have HB2 := Lib.hid hb2; clear hb2)
  have hbw1 : b < w1.heap.size := by omega
  have hc0 := (HB2.out.cell (p := ⟨b, off + i * 8, none⟩) hbw1).trans HCX.out
  have hbw : b < w2.heap.size := by have := HB2.out.size; omega
  go_wp2_with ((with_reducible go_at_call 72); refine (HSM.out _).mono ?_; rintro en w3 ⟨u3, rfl, ⟨G, hg, hgs⟩, hb3⟩; have HG3 := Lib.hid hg; have HL3 := Lib.hid (gl_same (by rw [HT.out]) hgs); have HB3 := Lib.hid hb3; clear hg hgs hb3)
  go_ret
  exact ⟨_, rfl, ⟨G, HG3.out, HL3.out.congr HLN.out⟩, HW1.out.trans ((HB2.out.trans (HB3.out.mono HB2.out.size)).mono HW1.out.size)⟩
theorem getD_ndC_set (x : Nd) : ∀ c, c < 4 → (ndC x).getD (2 + c) undef = (#[.int .u64 (setEd x 0).a, .int .u64 (setEd x 0).b, .int .u64 (setEd x 0).c, .int .u64 (setEd x 0).d] : Array Value).getD c undef := fun c hc => by
  rcases (show c = 0 ∨ c = 1 ∨ c = 2 ∨ c = 3 by omega) with rfl | rfl | rfl | rfl <;> rfl
set_option maxRecDepth 100000 in
set_option maxHeartbeats 8000000 in
theorem pairs1 {w : World} {v : Value} {l : List Nd} {i : Nat} {x : Nd} {k : Fo} (h : NodeAt w v l i x k) (hk : x.kd = 1) (hq : NdQ x) (s : ByteArray) (hs : s.size ≤ 1000) : PairsOk w v s x k i := by
  intro x' hx'
  have HKI := Lib.hid (h.up hx').kids
  obtain ⟨oa, cap, b, off, rfl, hix, hb, hc⟩ := (h.up hx').open
  have hc0 := hc 0 (by decide)
  change x'.cell? ⟨b, off + i * 8, none⟩ = some (.int .i64 x.kd) at hc0
  rw [hk] at hc0
  have HC := Lib.hid hc
  have HLN : Hid (∀ w, setL1 x w ↔ langN x (langs k) w) := Lib.hid (fun w => by unfold langN; rw [if_pos hk])
  have HT := Lib.hid (txt_len s)
  have HSW := Lib.hid (setW_nd hq)
  have HIX := Lib.hid (fun (j : Nat) (hj : j < s.size) (W : World) => index_txt (s := s) hj W)
  clear hk hc h hx' hq
  go_enter Try.func61, Try.ntmps61
  go_upto_region 2 with ((with_reducible go_at_call 50); refine HKI.out.mono ?_; rintro en w1 ⟨u, rfl, -, x1, rfl⟩)
  have HW1 := Lib.hid (ext_below x' x1)
  have HCX := Lib.hid (((ext_below x' x1).cell (p := ⟨b, off + i * 8, none⟩) hb).trans hc0)
  have hs1 := (ext_below x' x1).size
  clear hc0 HKI
  generalize ext x' x1 = w1 at *
  have HG := Lib.hid (gridR (w := w1) (N := s.size + 1) (by omega))
  rw [show ((s.size + 1 : Nat) : Int) = (s.size : Int) + 1 by push_cast; rfl] at HG
  go_upto_region 3 with ((with_reducible go_at_call 71); refine HG.out.mono ?_; rintro en w2 ⟨u2, rfl, ho, hb2⟩; obtain ⟨g, cp0, rfl, hgb, hd⟩ := ho.form (by omega); have HO := Lib.hid ho; have HD := Lib.hid hd; have HB2 := Lib.hid hb2; clear hb2 ho hd)
  have hbw1 : b < w1.heap.size := by omega
  have hc0 := (HB2.out.cell (p := ⟨b, off + i * 8, none⟩) hbw1).trans HCX.out
  have hbw : b < w2.heap.size := by have := HB2.out.size; omega
  have hixo := index_grid HD.out
  simp only [Nat.zero_add] at hixo
  have HB12 := Lib.hid (HW1.out.trans (HB2.out.mono HW1.out.size))
  have hg1 : w1.heap.size ≤ g := hgb
  clear HD
  go_wp2
  clear hc0 HCX HG HB2
  go_loopg [9] s.size (fun gk jv wr => ∃ (j : Nat) (G : Nat → Nat → Bool), jv = .int .i64 j ∧ j ≤ s.size ∧ GridO wr w1.heap.size (.slice (some ⟨g, 0, none⟩) (s.size + 1) cp0) (s.size + 1) G ∧ (∀ p r, p < s.size + 1 → r < s.size + 1 → (G p r = true ↔ p < j ∧ r = p + 1 ∧ hasN (setEd x 0) ((txt s).getD p 0) = true)) ∧ Below x'.heap.size x' wr ∧ gk = s.size - j)
  case atStart => exact ⟨0, _, rfl, Nat.zero_le _, HO.out, fun p r _ _ => by simp, HB12.out, rfl⟩
  case round =>
    obtain ⟨j, G, rfl, hj, ho, hg, hbl, rfl⟩ := hrel
    have HGO := Lib.hid ho
    have HGS := Lib.hid hg
    have HW := Lib.hid hbl
    clear hg hbl HO HB12
    by_cases hlt : j < s.size
    · obtain ⟨bp, cp, hcr, hdp, hgw, hbp, hqq⟩ := ho.at (show j < s.size + 1 by omega)
      obtain ⟨hcq, hfq, hst⟩ := hqq (j + 1) (by omega)
      have hbw3 := hdp.hblk (by omega)
      have hixp := fun W => index_bool hdp W (j + 1) (by omega)
      simp only [Nat.zero_add] at hixp
      rw [show ((j + 1 : Nat) : Int) = (j : Int) + 1 by push_cast; rfl] at hixp
      have hidx := HIX.out j hlt
      have hc8 := txt_lt s j
      have hws := HW.out.size
      have HCS : Hid (∀ w', (∃ y, w' = ext wr y) → ∀ c, c < 4 → w'.cell? ⟨b, off + i * 8 + 2 + c, none⟩ = some ((#[.int .u64 (setEd x 0).a, .int .u64 (setEd x 0).b, .int .u64 (setEd x 0).c, .int .u64 (setEd x 0).d] : Array Value).getD c undef)) := Lib.hid (by
        rintro w' ⟨y, rfl⟩ c hcl
        rw [(HW.out.trans ((ext_below wr y).mono hws)).cell (p := ⟨b, off + i * 8 + 2 + c, none⟩) hb, Nat.add_assoc, HC.out (2 + c) (by omega), getD_ndC_set x c hcl])
      have HST := Lib.hid hst
      have HHS := Lib.hid (fun (W : World) => hasR (w := W) (setEd x 0) HSW.out _ hc8)
      obtain ⟨z, hz⟩ : ∃ z, z = hasN (setEd x 0) ((txt s).getD j 0) := ⟨_, rfl⟩
      have HZ := Lib.hid hz
      rw [← hz] at HHS
      have hbpw : w1.heap.size ≤ bp := hbp
      have HGA := Lib.hid (fun (W : World) (hW : Below wr.heap.size wr W) => (GridO.at (HGO.out.up hW) (show j < s.size + 1 by omega)))
      clear ho hqq hdp hst hz
      go_wp2
      refine wp_region_tailg [0,1,2,3,4,5,6,7,8,9,10,11,12,13] [14] [15,16] (by kernel_rfl) (by kernel_rfl) ?_
      simp only [pick, List.map_cons, List.map_nil, List.getD_cons_zero, List.getD_cons_succ]
      repeat (first | (go_big_quiet_want; refine quiet_load_cells 55 4 _ rfl b (off + i * 8 + 2) rfl #[.int .u64 (setEd x 0).a, .int .u64 (setEd x 0).b, .int .u64 (setEd x 0).c, .int .u64 (setEd x 0).d] rfl HCS.out _ Try.underlying55 rfl (by kernel_rfl) ?_; go_simp; go_big_quiet_on) | go_big_quiet_step (fail))
      refine wpQuiet_nil ?_
      unfold wpAct
      go_wp2_with ((with_reducible go_at_call 41); refine (HHS.out _).mono ?_; rintro en w7 ⟨rfl, x7, rfl⟩)
      refine ⟨ex_ext (b_ext' (drew_b wr) x7), ?_⟩
      have hW7 : Below wr.heap.size wr (ext wr.drew x7) := b_ext' (drew_b wr) x7
      generalize ext wr.drew x7 = w7 at *
      obtain ⟨bp7, cp7, hcr7, -, -, -, hqq7⟩ := HGA.out w7 hW7
      have hbpe : bp7 = bp := by
        have h1 := (hW7.cell (p := ⟨g, j, none⟩) hgw).trans hcr
        rw [hcr7] at h1
        simp at h1
        exact h1.1
      subst hbpe
      obtain ⟨hcq7, hfq7, hst7⟩ := hqq7 (j + 1) (by omega)
      have HST7 := Lib.hid hst7
      have HW7 := Lib.hid (HW.out.trans (hW7.mono HW.out.size))
      have hbp7 : bp7 < w7.heap.size := Nat.lt_of_lt_of_le hbw3 hW7.size
      have HSET : Hid (∀ p r, p < s.size + 1 → r < s.size + 1 → (upd G j (j + 1) z p r = true ↔ p < j + 1 ∧ r = p + 1 ∧ hasN (setEd x 0) ((txt s).getD p 0) = true)) := Lib.hid (fun p r hp hr => by
        unfold upd
        by_cases hpr : p = j ∧ r = j + 1
        · rw [if_pos hpr, HZ.out]
          obtain ⟨rfl, rfl⟩ := hpr
          exact ⟨fun h => ⟨by omega, rfl, h⟩, fun h => h.2.2⟩
        · rw [if_neg hpr, HGS.out p r hp hr]
          exact ⟨fun h => ⟨by omega, h.2⟩, fun h => ⟨by omega, h.2⟩⟩)
      clear HGA hqq7 hst7 hcr7 HST hW7 hcq hfq hcr
      unfold wpAct
      unfold wpAct
      go_wp2
      refine ⟨trivial, ?_⟩
      unfold wpAct
      go_wp2
      refine ⟨trivial, ?_⟩
      unfold wpAct
      go_wp2
      go_roundg (s.size - (j + 1))
      case measure => omega
      case rel =>
        have h1 := HST7.out z
        exact ⟨j + 1, upd G j (j + 1) z, by go_num, by omega, h1.1, HSET.out, HW7.out.grown h1.2 HW7.out.size (fun k hk => by cases hk; omega), rfl⟩
    · have hje : j = s.size := by omega
      subst hje
      go_wp2
      go_ret
      exact ⟨_, rfl, ⟨G, HGO.out.read, (gl_set (by rw [HT.out]) (fun p r hp hr => by rw [HGS.out p r hp hr, HT.out])).congr HLN.out⟩, HW.out⟩
end Go.Cm

/- The walk of what a chain and what branches match between two places. Conditions: none. -/
namespace Go.Cm
open Go.RowKit Go.Proofs

/-- what Pairs makes of each kid -/
def KidC (w : World) (s : ByteArray) (v : Value) (k : Fo) (i : Nat) : Prop := ∀ (j : Nat) (x' : World), j < cnt k → Below w.heap.size w x' →
  Calls Try.prog 61 #[v, .int .i64 ((kidsAt k i).getD j 0 : Nat), .string s] x' fun e w' => ∃ u, e = .returned u ∧ (∃ G, GridR w' u (s.size + 1) G ∧ GL ((langs k).getD j botL) (txt s) (s.size + 1) G) ∧ Below x'.heap.size x' w'
theorem KidsOk.to {w : World} {v : Value} {s : ByteArray} : ∀ {f : Fo} {at_ : Nat}, KidsOk w v s f at_ → KidC w s v f at_
  | .nil, _, _, _, _, h, _ => absurd h (Nat.not_lt_zero _)
  | .cons y ky r, at_, h, 0, x', _, hb => h.1 x' hb
  | .cons y ky r, at_, h, j + 1, x', hj, hb => KidsOk.to h.2 j x' (by simpa [cnt] using hj) hb
theorem KidC.up {w w' : World} {v : Value} {s : ByteArray} {f : Fo} {at_ : Nat} (h : KidC w s v f at_) (hb : Below w.heap.size w w') : KidC w' s v f at_ := fun j y hj hy => h j y hj (hb.trans (hy.mono hb.size))
theorem gl_false (Ls : List Lng) (t : List Nat) (N : Nat) : GL (altTo Ls 0) t N (fun _ _ => false) := fun p r _ _ => by
  simp [altTo]
theorem alt_succ (Ls : List Lng) (j : Nat) (w : List Nat) : (altTo Ls j w ∨ Ls.getD j botL w) ↔ altTo Ls (j + 1) w := by
  unfold altTo
  constructor
  · rintro (⟨i, hi, h⟩ | h)
    · exact ⟨i, by omega, h⟩
    · exact ⟨j, by omega, h⟩
  · rintro ⟨i, hi, h⟩
    rcases Nat.lt_or_ge i j with h1 | h1
    · exact .inl ⟨i, h1, h⟩
    · have : i = j := by omega
      exact .inr (this ▸ h)
theorem NodeAt.cnt_le {w : World} {v : Value} {l : List Nd} {i : Nat} {x : Nd} {k : Fo} (h : NodeAt w v l i x k) : cnt k ≤ 400 := by
  obtain ⟨post, hd⟩ := h.drop
  have h1 := congrArg List.length hd
  simp only [List.length_drop, List.length_cons, List.length_append] at h1
  have h2 := Cm.cnt_le k
  have := h.len
  omega
set_option maxRecDepth 100000 in
set_option maxHeartbeats 8000000 in
theorem pairs3 {w : World} {v : Value} {l : List Nd} {i : Nat} {x : Nd} {k : Fo} (h : NodeAt w v l i x k) (hk : x.kd = 3) (s : ByteArray) (hs : s.size ≤ 1000) (hko : KidC w s v k (i + 1)) : PairsOk w v s x k i := by
  intro x' hx'
  have HKI := Lib.hid (h.up hx').kids
  have HKC := Lib.hid (hko.up hx')
  have hcn := h.cnt_le
  obtain ⟨oa, cap, b, off, rfl, hix, hb, hc⟩ := (h.up hx').open
  have hc0 := hc 0 (by decide)
  change x'.cell? ⟨b, off + i * 8, none⟩ = some (.int .i64 x.kd) at hc0
  rw [hk] at hc0
  have HLN : Hid (∀ w, catTo (langs k) (cnt k) w ↔ langN x (langs k) w) := Lib.hid (fun w => by unfold langN; simp [hk, langs_len])
  have HT := Lib.hid (txt_len s)
  clear hk hc h hx' hko
  go_enter Try.func61, Try.ntmps61
  go_upto_region 2 with ((with_reducible go_at_call 50); refine HKI.out.mono ?_; rintro en w1 ⟨u, rfl, hu, x1, rfl⟩; obtain ⟨ok, ck, bk, fk, rfl, hdk, hck1⟩ := hu.open; (rw [show (nz (kidsAt k (i + 1))).length = cnt k by rw [nz_length, kidsAt_length]] at hdk hck1 ⊢))
  have HW1 := Lib.hid (ext_below x' x1)
  have HCX := Lib.hid (((ext_below x' x1).cell (p := ⟨b, off + i * 8, none⟩) hb).trans hc0)
  have hs1 := (ext_below x' x1).size
  clear hc0 HKI hu
  generalize ext x' x1 = w1 at *
  have hixk := index_any (P := Try.prog) 23 3 Try.underlying23 (by kernel_rfl) hdk
  have HCK := Lib.hid hck1
  have HBK := Lib.hid hdk.hblk
  clear hdk hck1
  have HG := Lib.hid (gridR (w := w1) (N := s.size + 1) (by omega))
  have HSM := Lib.hid (fun (W : World) => sameR (w := W) (N := s.size + 1) (by omega) (by omega))
  rw [show ((s.size + 1 : Nat) : Int) = (s.size : Int) + 1 by push_cast; rfl] at HG HSM
  go_upto_region 3 with ((with_reducible go_at_call 71); refine HG.out.mono ?_; rintro en w2 ⟨u2, rfl, -, hb2⟩; have HB2 := Lib.hid hb2; clear hb2)
  have hbw1 : b < w1.heap.size := by omega
  have hc0 := (HB2.out.cell (p := ⟨b, off + i * 8, none⟩) hbw1).trans HCX.out
  have hbw : b < w2.heap.size := by have := HB2.out.size; omega
  go_wp2_with ((with_reducible go_at_call 72); refine (HSM.out _).mono ?_; rintro en w3 ⟨u3, rfl, ⟨G, hg, hgs⟩, hb3⟩; have HG3 := Lib.hid hg; have HL3 := Lib.hid (gl_same (by rw [HT.out]) hgs); have HB3 := Lib.hid (HB2.out.trans (hb3.mono HB2.out.size)); clear hg hgs hb3)
  clear HG HSM HCX hc0 HB2
  go_loopg [8, 10] (cnt k) (fun gk ov jv wr => ∃ (j : Nat) (G : Nat → Nat → Bool), jv = .int .i64 j ∧ j ≤ cnt k ∧ GridR wr ov (s.size + 1) G ∧ GL (catTo (langs k) j) (txt s) (s.size + 1) G ∧ Below w1.heap.size w1 wr ∧ gk = cnt k - j)
  case atStart => exact ⟨0, G, rfl, Nat.zero_le _, HG3.out, HL3.out, HB3.out, rfl⟩
  case round =>
    obtain ⟨j, G, rfl, hj, hg, hgl, hbl, rfl⟩ := hrel
    have HGR := Lib.hid hg
    have HGL := Lib.hid hgl
    have HW := Lib.hid hbl
    clear hg hgl hbl HG3 HL3 HB3
    by_cases hlt : j < cnt k
    · have hcj := HCK.out j hlt
      rw [nz_getD _ _ (by rw [kidsAt_length]; exact hlt)] at hcj
      have hbk := HBK.out (by omega)
      have hcjw := (HW.out.cell (p := ⟨bk, fk + j, none⟩) hbk).trans hcj
      have hbkw : bk < wr.heap.size := by have := HW.out.size; omega
      have HP := Lib.hid (HKC.out j wr hlt (HW1.out.trans (HW.out.mono HW1.out.size)))
      generalize (kidsAt k (i + 1)).getD j 0 = kj at *
      clear hcj
      go_wp2_with (first
        | ((with_reducible go_at_call 61); refine HP.out.mono ?_; rintro en w4 ⟨u4, rfl, ⟨G4, hg4, hl4⟩, hb⟩; have HG4 := Lib.hid hg4; have HL4 := Lib.hid hl4; have HB4 := Lib.hid hb; clear hg4 hl4 hb)
        | ((with_reducible go_at_call 73); refine (thenR (HGR.out.up HB4.out) HG4.out (Nat.succ_pos _) (by omega)).mono ?_; rintro en w5 ⟨u5, rfl, ⟨G5, hg5, hs5⟩, hb⟩; have HG5 := Lib.hid hg5; have HL5 := Lib.hid (gl_then (by rw [HT.out]) HGL.out HL4.out hs5); have HB5 := Lib.hid (HW.out.trans ((HB4.out.trans (hb.mono HB4.out.size)).mono HW.out.size)); clear hg5 hs5 hb))
      go_roundg (cnt k - (j + 1))
      case measure => omega
      case rel => exact ⟨j + 1, G5, by go_num, by omega, HG5.out, HL5.out, HB5.out, rfl⟩
    · have hje : j = cnt k := by omega
      subst hje
      go_wp2
      go_ret
      exact ⟨_, rfl, ⟨G, HGR.out, HGL.out.congr HLN.out⟩, HW1.out.trans (HW.out.mono HW1.out.size)⟩
set_option maxRecDepth 100000 in
set_option maxHeartbeats 8000000 in
theorem pairs4 {w : World} {v : Value} {l : List Nd} {i : Nat} {x : Nd} {k : Fo} (h : NodeAt w v l i x k) (hk : x.kd = 4) (s : ByteArray) (hs : s.size ≤ 1000) (hko : KidC w s v k (i + 1)) : PairsOk w v s x k i := by
  intro x' hx'
  have HKI := Lib.hid (h.up hx').kids
  have HKC := Lib.hid (hko.up hx')
  have hcn := h.cnt_le
  obtain ⟨oa, cap, b, off, rfl, hix, hb, hc⟩ := (h.up hx').open
  have hc0 := hc 0 (by decide)
  change x'.cell? ⟨b, off + i * 8, none⟩ = some (.int .i64 x.kd) at hc0
  rw [hk] at hc0
  have HLN : Hid (∀ w, altTo (langs k) (cnt k) w ↔ langN x (langs k) w) := Lib.hid (fun w => by unfold langN; simp [hk, langs_len])
  have HT := Lib.hid (txt_len s)
  clear hk hc h hx' hko
  go_enter Try.func61, Try.ntmps61
  go_upto_region 2 with ((with_reducible go_at_call 50); refine HKI.out.mono ?_; rintro en w1 ⟨u, rfl, hu, x1, rfl⟩; obtain ⟨ok, ck, bk, fk, rfl, hdk, hck1⟩ := hu.open; (rw [show (nz (kidsAt k (i + 1))).length = cnt k by rw [nz_length, kidsAt_length]] at hdk hck1 ⊢))
  have HW1 := Lib.hid (ext_below x' x1)
  have HCX := Lib.hid (((ext_below x' x1).cell (p := ⟨b, off + i * 8, none⟩) hb).trans hc0)
  have hs1 := (ext_below x' x1).size
  clear hc0 HKI hu
  generalize ext x' x1 = w1 at *
  have hixk := index_any (P := Try.prog) 23 3 Try.underlying23 (by kernel_rfl) hdk
  have HCK := Lib.hid hck1
  have HBK := Lib.hid hdk.hblk
  clear hdk hck1
  have HG := Lib.hid (gridR (w := w1) (N := s.size + 1) (by omega))
  rw [show ((s.size + 1 : Nat) : Int) = (s.size : Int) + 1 by push_cast; rfl] at HG
  go_upto_region 3 with ((with_reducible go_at_call 71); refine HG.out.mono ?_; rintro en w2 ⟨u2, rfl, ho, hb2⟩; have HO := Lib.hid ho.read; have HB2 := Lib.hid hb2; clear hb2 ho)
  have hbw1 : b < w1.heap.size := by omega
  have hc0 := (HB2.out.cell (p := ⟨b, off + i * 8, none⟩) hbw1).trans HCX.out
  have hbw : b < w2.heap.size := by have := HB2.out.size; omega
  go_wp2
  clear HG HCX hc0
  go_loopg [8, 11] (cnt k) (fun gk ov jv wr => ∃ (j : Nat) (G : Nat → Nat → Bool), jv = .int .i64 j ∧ j ≤ cnt k ∧ GridR wr ov (s.size + 1) G ∧ GL (altTo (langs k) j) (txt s) (s.size + 1) G ∧ Below w1.heap.size w1 wr ∧ gk = cnt k - j)
  case atStart => exact ⟨0, _, rfl, Nat.zero_le _, HO.out, gl_false _ _ _, HB2.out, rfl⟩
  case round =>
    obtain ⟨j, G, rfl, hj, hg, hgl, hbl, rfl⟩ := hrel
    have HGR := Lib.hid hg
    have HGL := Lib.hid hgl
    have HW := Lib.hid hbl
    clear hg hgl hbl HO HB2
    by_cases hlt : j < cnt k
    · have hcj := HCK.out j hlt
      rw [nz_getD _ _ (by rw [kidsAt_length]; exact hlt)] at hcj
      have hbk := HBK.out (by omega)
      have hcjw := (HW.out.cell (p := ⟨bk, fk + j, none⟩) hbk).trans hcj
      have hbkw : bk < wr.heap.size := by have := HW.out.size; omega
      have HP := Lib.hid (HKC.out j wr hlt (HW1.out.trans (HW.out.mono HW1.out.size)))
      generalize (kidsAt k (i + 1)).getD j 0 = kj at *
      clear hcj
      go_wp2_with (first
        | ((with_reducible go_at_call 61); refine HP.out.mono ?_; rintro en w4 ⟨u4, rfl, ⟨G4, hg4, hl4⟩, hb⟩; have HG4 := Lib.hid hg4; have HL4 := Lib.hid hl4; have HB4 := Lib.hid hb; clear hg4 hl4 hb)
        | ((with_reducible go_at_call 74); refine (eitherR (HGR.out.up HB4.out) HG4.out (Nat.succ_pos _) (by omega)).mono ?_; rintro en w5 ⟨u5, rfl, ⟨G5, hg5, hs5⟩, hb⟩; have HG5 := Lib.hid hg5.read; have HL5 := Lib.hid ((gl_either HGL.out HL4.out hs5).congr (alt_succ _ _)); have HB5 := Lib.hid (HW.out.trans ((HB4.out.trans (hb.mono HB4.out.size)).mono HW.out.size)); clear hg5 hs5 hb))
      go_roundg (cnt k - (j + 1))
      case measure => omega
      case rel => exact ⟨j + 1, G5, by go_num, by omega, HG5.out, HL5.out, HB5.out, rfl⟩
    · have hje : j = cnt k := by omega
      subst hje
      go_wp2
      go_ret
      exact ⟨_, rfl, ⟨G, HGR.out, HGL.out.congr HLN.out⟩, HW1.out.trans (HW.out.mono HW1.out.size)⟩
end Go.Cm

/- The walk of what a repetition matches between two places. Conditions: none. -/
namespace Go.Cm
open Go.RowKit Go.Proofs

theorem cnt_one {k : Fo} (h : cnt k = 1) (i : Nat) : (kidsAt k i).getD 0 0 = i ∧ kidsAt k i = [i] := by
  cases k with
  | nil => cases h
  | cons y ky r =>
    have : r = .nil := cnt_zero r (by simpa [cnt] using h)
    subst this
    exact ⟨rfl, rfl⟩
set_option maxRecDepth 100000 in
set_option maxHeartbeats 8000000 in
theorem pairs5 {w : World} {v : Value} {l : List Nd} {i : Nat} {x : Nd} {k : Fo} (h : NodeAt w v l i x k) (hk : x.kd = 5) (hk1 : cnt k = 1) (s : ByteArray) (hs : s.size ≤ 1000) (hko : KidC w s v k (i + 1)) : PairsOk w v s x k i := by
  intro x' hx'
  have HKI := Lib.hid (h.up hx').kids
  have HKC := Lib.hid (hko.up hx')
  obtain ⟨oa, cap, b, off, rfl, hix, hb, hc⟩ := (h.up hx').open
  have hc0 := hc 0 (by decide)
  change x'.cell? ⟨b, off + i * 8, none⟩ = some (.int .i64 x.kd) at hc0
  rw [hk] at hc0
  have HLN : Hid (∀ w, repL 0 (-1) ((langs k).getD 0 botL) w ↔ langN x (langs k) w) := Lib.hid (fun w => by unfold langN; simp [hk])
  have HT := Lib.hid (txt_len s)
  obtain ⟨hk0, hkl⟩ := cnt_one hk1 (i + 1)
  have HK0 := Lib.hid hk0
  have HKL := Lib.hid hkl
  have HK1 := Lib.hid hk1
  clear hk hc h hx' hko hk0 hkl hk1
  go_enter Try.func61, Try.ntmps61
  go_upto_region 2 with ((with_reducible go_at_call 50); refine HKI.out.mono ?_; rintro en w1 ⟨u, rfl, hu, x1, rfl⟩; obtain ⟨ok, ck, bk, fk, rfl, hdk, hck1⟩ := hu.open; rw [HKL.out] at hdk hck1 ⊢; rw [show (nz [i + 1]).length = 1 from rfl] at hdk hck1 ⊢)
  have HW1 := Lib.hid (ext_below x' x1)
  have HCX := Lib.hid (((ext_below x' x1).cell (p := ⟨b, off + i * 8, none⟩) hb).trans hc0)
  have hs1 := (ext_below x' x1).size
  have hck0 := hck1 0 (by decide)
  change (ext x' x1).cell? ⟨bk, fk + 0, none⟩ = some (.int .i64 ((i + 1 : Nat) : Int)) at hck0
  rw [Nat.add_zero] at hck0
  clear hc0 HKI hu hck1 HKL
  generalize ext x' x1 = w1 at *
  have hixk := index_any (P := Try.prog) 23 3 Try.underlying23 (by kernel_rfl) hdk
  have hbk1 := hdk.hblk (by decide)
  have hixk0 : ∀ W : World, (Instr.indexAt 23 (.slice ok 1 ck) (.int .i64 0)).run Try.prog W = .ok (.pointer (some ⟨bk, fk, none⟩)) W := fun W => by
    have := hixk W .i64 0 (by decide) (by decide)
    simpa using this
  clear hdk hixk
  have HG := Lib.hid (gridR (w := w1) (N := s.size + 1) (by omega))
  rw [show ((s.size + 1 : Nat) : Int) = (s.size : Int) + 1 by push_cast; rfl] at HG
  obtain ⟨kj, hkj⟩ : ∃ kj, kj = ((i + 1 : Nat) : Int) := ⟨_, rfl⟩
  rw [← hkj] at hck0
  have HKJ := Lib.hid hkj
  clear hkj
  go_upto_region 3 with ((with_reducible go_at_call 71); refine HG.out.mono ?_; rintro en w2 ⟨u2, rfl, -, hb2⟩; have HB2 := Lib.hid hb2; clear hb2)
  have hbw1 : b < w1.heap.size := by omega
  have hc0 := (HB2.out.cell (p := ⟨b, off + i * 8, none⟩) hbw1).trans HCX.out
  have hbw : b < w2.heap.size := by have := HB2.out.size; omega
  have hck2 := (HB2.out.cell (p := ⟨bk, fk, none⟩) hbk1).trans hck0
  have hbkw : bk < w2.heap.size := by have := HB2.out.size; omega
  have HP := Lib.hid (HKC.out 0 w2 (by rw [HK1.out]; exact Nat.zero_lt_one) (HW1.out.trans (HB2.out.mono HW1.out.size)))
  rw [HK0.out, ← HKJ.out] at HP
  clear hck0 HKC
  go_wp2_with (first
    | ((with_reducible go_at_call 61); refine HP.out.mono ?_; rintro en w4 ⟨u4, rfl, ⟨G4, hg4, hl4⟩, hb⟩; have HG4 := Lib.hid hg4; have HL4 := Lib.hid hl4; have HB4 := Lib.hid hb; have HTI := Lib.hid (timesR (w := w4) hg4 hl4 (by rw [HT.out]) (by omega) 0 (by decide) (-1) (by decide)); clear hg4 hl4 hb)
    | ((with_reducible go_at_call 75); refine HTI.out.mono ?_; rintro en w5 ⟨u5, rfl, ⟨G5, hg5, hs5⟩, hb⟩; have HG5 := Lib.hid hg5; have HL5 := Lib.hid (hs5.congr HLN.out); have HB5 := Lib.hid (HW1.out.trans ((HB2.out.trans ((HB4.out.trans (hb.mono HB4.out.size)).mono HB2.out.size)).mono HW1.out.size)); clear hg5 hs5 hb))
  go_ret
  exact ⟨_, rfl, ⟨G5, HG5.out, HL5.out⟩, HB5.out⟩
set_option maxRecDepth 100000 in
set_option maxHeartbeats 8000000 in
theorem pairs6 {w : World} {v : Value} {l : List Nd} {i : Nat} {x : Nd} {k : Fo} (h : NodeAt w v l i x k) (hk : x.kd = 6) (hk1 : cnt k = 1) (s : ByteArray) (hs : s.size ≤ 1000) (hko : KidC w s v k (i + 1)) : PairsOk w v s x k i := by
  intro x' hx'
  have HKI := Lib.hid (h.up hx').kids
  have HKC := Lib.hid (hko.up hx')
  obtain ⟨oa, cap, b, off, rfl, hix, hb, hc⟩ := (h.up hx').open
  have hc0 := hc 0 (by decide)
  change x'.cell? ⟨b, off + i * 8, none⟩ = some (.int .i64 x.kd) at hc0
  rw [hk] at hc0
  have HLN : Hid (∀ w, repL 1 (-1) ((langs k).getD 0 botL) w ↔ langN x (langs k) w) := Lib.hid (fun w => by unfold langN; simp [hk])
  have HT := Lib.hid (txt_len s)
  obtain ⟨hk0, hkl⟩ := cnt_one hk1 (i + 1)
  have HK0 := Lib.hid hk0
  have HKL := Lib.hid hkl
  have HK1 := Lib.hid hk1
  clear hk hc h hx' hko hk0 hkl hk1
  go_enter Try.func61, Try.ntmps61
  go_upto_region 2 with ((with_reducible go_at_call 50); refine HKI.out.mono ?_; rintro en w1 ⟨u, rfl, hu, x1, rfl⟩; obtain ⟨ok, ck, bk, fk, rfl, hdk, hck1⟩ := hu.open; rw [HKL.out] at hdk hck1 ⊢; rw [show (nz [i + 1]).length = 1 from rfl] at hdk hck1 ⊢)
  have HW1 := Lib.hid (ext_below x' x1)
  have HCX := Lib.hid (((ext_below x' x1).cell (p := ⟨b, off + i * 8, none⟩) hb).trans hc0)
  have hs1 := (ext_below x' x1).size
  have hck0 := hck1 0 (by decide)
  change (ext x' x1).cell? ⟨bk, fk + 0, none⟩ = some (.int .i64 ((i + 1 : Nat) : Int)) at hck0
  rw [Nat.add_zero] at hck0
  clear hc0 HKI hu hck1 HKL
  generalize ext x' x1 = w1 at *
  have hixk := index_any (P := Try.prog) 23 3 Try.underlying23 (by kernel_rfl) hdk
  have hbk1 := hdk.hblk (by decide)
  have hixk0 : ∀ W : World, (Instr.indexAt 23 (.slice ok 1 ck) (.int .i64 0)).run Try.prog W = .ok (.pointer (some ⟨bk, fk, none⟩)) W := fun W => by
    have := hixk W .i64 0 (by decide) (by decide)
    simpa using this
  clear hdk hixk
  have HG := Lib.hid (gridR (w := w1) (N := s.size + 1) (by omega))
  rw [show ((s.size + 1 : Nat) : Int) = (s.size : Int) + 1 by push_cast; rfl] at HG
  obtain ⟨kj, hkj⟩ : ∃ kj, kj = ((i + 1 : Nat) : Int) := ⟨_, rfl⟩
  rw [← hkj] at hck0
  have HKJ := Lib.hid hkj
  clear hkj
  go_upto_region 3 with ((with_reducible go_at_call 71); refine HG.out.mono ?_; rintro en w2 ⟨u2, rfl, -, hb2⟩; have HB2 := Lib.hid hb2; clear hb2)
  have hbw1 : b < w1.heap.size := by omega
  have hc0 := (HB2.out.cell (p := ⟨b, off + i * 8, none⟩) hbw1).trans HCX.out
  have hbw : b < w2.heap.size := by have := HB2.out.size; omega
  have hck2 := (HB2.out.cell (p := ⟨bk, fk, none⟩) hbk1).trans hck0
  have hbkw : bk < w2.heap.size := by have := HB2.out.size; omega
  have HP := Lib.hid (HKC.out 0 w2 (by rw [HK1.out]; exact Nat.zero_lt_one) (HW1.out.trans (HB2.out.mono HW1.out.size)))
  rw [HK0.out, ← HKJ.out] at HP
  clear hck0 HKC
  go_wp2_with (first
    | ((with_reducible go_at_call 61); refine HP.out.mono ?_; rintro en w4 ⟨u4, rfl, ⟨G4, hg4, hl4⟩, hb⟩; have HG4 := Lib.hid hg4; have HL4 := Lib.hid hl4; have HB4 := Lib.hid hb; have HTI := Lib.hid (timesR (w := w4) hg4 hl4 (by rw [HT.out]) (by omega) 1 (by decide) (-1) (by decide)); clear hg4 hl4 hb)
    | ((with_reducible go_at_call 75); refine HTI.out.mono ?_; rintro en w5 ⟨u5, rfl, ⟨G5, hg5, hs5⟩, hb⟩; have HG5 := Lib.hid hg5; have HL5 := Lib.hid (hs5.congr HLN.out); have HB5 := Lib.hid (HW1.out.trans ((HB2.out.trans ((HB4.out.trans (hb.mono HB4.out.size)).mono HB2.out.size)).mono HW1.out.size)); clear hg5 hs5 hb))
  go_ret
  exact ⟨_, rfl, ⟨G5, HG5.out, HL5.out⟩, HB5.out⟩
set_option maxRecDepth 100000 in
set_option maxHeartbeats 8000000 in
theorem pairs7 {w : World} {v : Value} {l : List Nd} {i : Nat} {x : Nd} {k : Fo} (h : NodeAt w v l i x k) (hk : x.kd = 7) (hk1 : cnt k = 1) (s : ByteArray) (hs : s.size ≤ 1000) (hko : KidC w s v k (i + 1)) : PairsOk w v s x k i := by
  intro x' hx'
  have HKI := Lib.hid (h.up hx').kids
  have HKC := Lib.hid (hko.up hx')
  obtain ⟨oa, cap, b, off, rfl, hix, hb, hc⟩ := (h.up hx').open
  have hc0 := hc 0 (by decide)
  change x'.cell? ⟨b, off + i * 8, none⟩ = some (.int .i64 x.kd) at hc0
  rw [hk] at hc0
  have HLN : Hid (∀ w, repL 0 1 ((langs k).getD 0 botL) w ↔ langN x (langs k) w) := Lib.hid (fun w => by unfold langN; simp [hk])
  have HT := Lib.hid (txt_len s)
  obtain ⟨hk0, hkl⟩ := cnt_one hk1 (i + 1)
  have HK0 := Lib.hid hk0
  have HKL := Lib.hid hkl
  have HK1 := Lib.hid hk1
  clear hk hc h hx' hko hk0 hkl hk1
  go_enter Try.func61, Try.ntmps61
  go_upto_region 2 with ((with_reducible go_at_call 50); refine HKI.out.mono ?_; rintro en w1 ⟨u, rfl, hu, x1, rfl⟩; obtain ⟨ok, ck, bk, fk, rfl, hdk, hck1⟩ := hu.open; rw [HKL.out] at hdk hck1 ⊢; rw [show (nz [i + 1]).length = 1 from rfl] at hdk hck1 ⊢)
  have HW1 := Lib.hid (ext_below x' x1)
  have HCX := Lib.hid (((ext_below x' x1).cell (p := ⟨b, off + i * 8, none⟩) hb).trans hc0)
  have hs1 := (ext_below x' x1).size
  have hck0 := hck1 0 (by decide)
  change (ext x' x1).cell? ⟨bk, fk + 0, none⟩ = some (.int .i64 ((i + 1 : Nat) : Int)) at hck0
  rw [Nat.add_zero] at hck0
  clear hc0 HKI hu hck1 HKL
  generalize ext x' x1 = w1 at *
  have hixk := index_any (P := Try.prog) 23 3 Try.underlying23 (by kernel_rfl) hdk
  have hbk1 := hdk.hblk (by decide)
  have hixk0 : ∀ W : World, (Instr.indexAt 23 (.slice ok 1 ck) (.int .i64 0)).run Try.prog W = .ok (.pointer (some ⟨bk, fk, none⟩)) W := fun W => by
    have := hixk W .i64 0 (by decide) (by decide)
    simpa using this
  clear hdk hixk
  have HG := Lib.hid (gridR (w := w1) (N := s.size + 1) (by omega))
  rw [show ((s.size + 1 : Nat) : Int) = (s.size : Int) + 1 by push_cast; rfl] at HG
  obtain ⟨kj, hkj⟩ : ∃ kj, kj = ((i + 1 : Nat) : Int) := ⟨_, rfl⟩
  rw [← hkj] at hck0
  have HKJ := Lib.hid hkj
  clear hkj
  go_upto_region 3 with ((with_reducible go_at_call 71); refine HG.out.mono ?_; rintro en w2 ⟨u2, rfl, -, hb2⟩; have HB2 := Lib.hid hb2; clear hb2)
  have hbw1 : b < w1.heap.size := by omega
  have hc0 := (HB2.out.cell (p := ⟨b, off + i * 8, none⟩) hbw1).trans HCX.out
  have hbw : b < w2.heap.size := by have := HB2.out.size; omega
  have hck2 := (HB2.out.cell (p := ⟨bk, fk, none⟩) hbk1).trans hck0
  have hbkw : bk < w2.heap.size := by have := HB2.out.size; omega
  have HP := Lib.hid (HKC.out 0 w2 (by rw [HK1.out]; exact Nat.zero_lt_one) (HW1.out.trans (HB2.out.mono HW1.out.size)))
  rw [HK0.out, ← HKJ.out] at HP
  clear hck0 HKC
  go_wp2_with (first
    | ((with_reducible go_at_call 61); refine HP.out.mono ?_; rintro en w4 ⟨u4, rfl, ⟨G4, hg4, hl4⟩, hb⟩; have HG4 := Lib.hid hg4; have HL4 := Lib.hid hl4; have HB4 := Lib.hid hb; have HTI := Lib.hid (timesR (w := w4) hg4 hl4 (by rw [HT.out]) (by omega) 0 (by decide) (1) (by decide)); clear hg4 hl4 hb)
    | ((with_reducible go_at_call 75); refine HTI.out.mono ?_; rintro en w5 ⟨u5, rfl, ⟨G5, hg5, hs5⟩, hb⟩; have HG5 := Lib.hid hg5; have HL5 := Lib.hid (hs5.congr HLN.out); have HB5 := Lib.hid (HW1.out.trans ((HB2.out.trans ((HB4.out.trans (hb.mono HB4.out.size)).mono HB2.out.size)).mono HW1.out.size)); clear hg5 hs5 hb))
  go_ret
  exact ⟨_, rfl, ⟨G5, HG5.out, HL5.out⟩, HB5.out⟩
set_option maxRecDepth 100000 in
set_option maxHeartbeats 8000000 in
theorem pairs8 {w : World} {v : Value} {l : List Nd} {i : Nat} {x : Nd} {k : Fo} (h : NodeAt w v l i x k) (hk : x.kd = 8) (hk1 : cnt k = 1) (hlo : 0 ≤ x.lo ∧ x.lo ≤ 30 ∧ (x.hi = -1 ∨ (x.lo ≤ x.hi ∧ x.hi ≤ 30))) (s : ByteArray) (hs : s.size ≤ 1000) (hko : KidC w s v k (i + 1)) : PairsOk w v s x k i := by
  intro x' hx'
  have HKI := Lib.hid (h.up hx').kids
  have HKC := Lib.hid (hko.up hx')
  obtain ⟨oa, cap, b, off, rfl, hix, hb, hc⟩ := (h.up hx').open
  have hc0 := hc 0 (by decide)
  change x'.cell? ⟨b, off + i * 8, none⟩ = some (.int .i64 x.kd) at hc0
  rw [hk] at hc0
  have hc6 := hc 6 (by decide)
  change x'.cell? ⟨b, off + i * 8 + 6, none⟩ = some (.int .i64 x.lo) at hc6
  have hc7 := hc 7 (by decide)
  change x'.cell? ⟨b, off + i * 8 + 7, none⟩ = some (.int .i64 x.hi) at hc7
  have HLN : Hid (∀ w, repL x.lo x.hi ((langs k).getD 0 botL) w ↔ langN x (langs k) w) := Lib.hid (fun w => by unfold langN; simp [hk])
  have HT := Lib.hid (txt_len s)
  obtain ⟨hk0, hkl⟩ := cnt_one hk1 (i + 1)
  have HK0 := Lib.hid hk0
  have HKL := Lib.hid hkl
  have HK1 := Lib.hid hk1
  clear hk hc h hx' hko hk0 hkl hk1
  obtain ⟨lo, hlo0⟩ := Int.eq_ofNat_of_zero_le hlo.1
  have HLO : Hid (lo ≤ 1000 ∧ (x.hi = -1 ∨ ((lo : Int) ≤ x.hi ∧ x.hi ≤ 1000))) := Lib.hid (by omega)
  rw [hlo0] at hc6 HLN
  generalize x.hi = hi at *
  clear hlo hlo0
  go_enter Try.func61, Try.ntmps61
  go_upto_region 2 with ((with_reducible go_at_call 50); refine HKI.out.mono ?_; rintro en w1 ⟨u, rfl, hu, x1, rfl⟩; obtain ⟨ok, ck, bk, fk, rfl, hdk, hck1⟩ := hu.open; rw [HKL.out] at hdk hck1 ⊢; rw [show (nz [i + 1]).length = 1 from rfl] at hdk hck1 ⊢)
  have HW1 := Lib.hid (ext_below x' x1)
  have HCX := Lib.hid (((ext_below x' x1).cell (p := ⟨b, off + i * 8, none⟩) hb).trans hc0)
  have hs1 := (ext_below x' x1).size
  have hck0 := hck1 0 (by decide)
  change (ext x' x1).cell? ⟨bk, fk + 0, none⟩ = some (.int .i64 ((i + 1 : Nat) : Int)) at hck0
  rw [Nat.add_zero] at hck0
  clear hc0 HKI hu hck1 HKL
  generalize ext x' x1 = w1 at *
  have hixk := index_any (P := Try.prog) 23 3 Try.underlying23 (by kernel_rfl) hdk
  have hbk1 := hdk.hblk (by decide)
  have hixk0 : ∀ W : World, (Instr.indexAt 23 (.slice ok 1 ck) (.int .i64 0)).run Try.prog W = .ok (.pointer (some ⟨bk, fk, none⟩)) W := fun W => by
    have := hixk W .i64 0 (by decide) (by decide)
    simpa using this
  clear hdk hixk
  have HG := Lib.hid (gridR (w := w1) (N := s.size + 1) (by omega))
  rw [show ((s.size + 1 : Nat) : Int) = (s.size : Int) + 1 by push_cast; rfl] at HG
  obtain ⟨kj, hkj⟩ : ∃ kj, kj = ((i + 1 : Nat) : Int) := ⟨_, rfl⟩
  rw [← hkj] at hck0
  have HKJ := Lib.hid hkj
  clear hkj
  go_upto_region 3 with ((with_reducible go_at_call 71); refine HG.out.mono ?_; rintro en w2 ⟨u2, rfl, -, hb2⟩; have HB2 := Lib.hid hb2; clear hb2)
  have hbw1 : b < w1.heap.size := by omega
  have hc0 := (HB2.out.cell (p := ⟨b, off + i * 8, none⟩) hbw1).trans HCX.out
  have hbw : b < w2.heap.size := by have := HB2.out.size; omega
  have hck2 := (HB2.out.cell (p := ⟨bk, fk, none⟩) hbk1).trans hck0
  have hbkw : bk < w2.heap.size := by have := HB2.out.size; omega
  have HW2 := Lib.hid (HW1.out.trans (HB2.out.mono HW1.out.size))
  have HP := Lib.hid (HKC.out 0 w2.drew (by rw [HK1.out]; exact Nat.zero_lt_one) (HW2.out.trans ((drew_b w2).mono HW2.out.size)))
  rw [HK0.out, ← HKJ.out] at HP
  clear hck0 HKC
  have HC6 := Lib.hid ((HW1.out.trans (HB2.out.mono HW1.out.size)).cell (p := ⟨b, off + i * 8 + 6, none⟩) hb |>.trans hc6)
  have HC7 := Lib.hid ((HW1.out.trans (HB2.out.mono HW1.out.size)).cell (p := ⟨b, off + i * 8 + 7, none⟩) hb |>.trans hc7)
  have h6 := HC6.out
  have h7 := HC7.out
  clear hc6 hc7
  go_wp2
  refine wp_region_phg [([0,1,2,3,4,6,7,8,9,10,11,12,13,14,15],[5,16]), ([17],[])] (by kernel_rfl) (by kernel_rfl) ?_
  (unfold wpPhases; simp only [pick, List.map_cons, List.map_nil, List.getD_cons_zero, List.getD_cons_succ])
  repeat (go_big_quiet_step (fail))
  refine wpQuiet_nil ?_
  unfold wpAct
  go_wp2_with ((with_reducible go_at_call 61); refine HP.out.mono ?_; rintro en w4 ⟨u4, rfl, ⟨G4, hg4, hl4⟩, hb⟩; have HG4 := Lib.hid hg4; have HL4 := Lib.hid hl4; have HB4 := Lib.hid ((drew_b w2).trans (hb.mono (drew_b w2).size)); have HTI := Lib.hid (timesR (w := w4) hg4 hl4 (by rw [HT.out]) (by omega) lo HLO.out.1 hi HLO.out.2); clear hg4 hl4 hb)
  refine ⟨ex_ext HB4.out, ?_⟩
  unfold wpAct
  go_wp2_with ((with_reducible go_at_call 75); refine HTI.out.mono ?_; rintro en w5 ⟨u5, rfl, ⟨G5, hg5, hs5⟩, hb⟩; have HG5 := Lib.hid hg5; have HL5 := Lib.hid (hs5.congr HLN.out); have HB5 := Lib.hid (HB4.out.trans (hb.mono HB4.out.size)); clear hg5 hs5 hb)
  refine ⟨ex_ext HB5.out, ?_⟩
  unfold wpAct
  (unfold wpPhases; simp only [pick, List.map_cons, List.map_nil, List.getD_cons_zero, List.getD_cons_succ])
  repeat (go_big_quiet_step (fail))
  refine wpQuiet_nil ?_
  unfold wpAct
  unfold wpPhases
  intro hz; clear hz
  go_wp2
  go_ret
  exact ⟨_, rfl, ⟨G5, HG5.out, HL5.out⟩, HW2.out.trans (HB5.out.mono HW2.out.size)⟩
end Go.Cm

/- What the document says of matching, walked for any tree, and which trees of a list match. Conditions: none. -/
namespace Go.Cm
open Go.RowKit Go.Proofs

theorem pairsF {w : World} {v : Value} {l : List Nd} (hat : NodesAt w v l) (hl : l.length ≤ 400) (s : ByteArray) (hs : s.size ≤ 1000) : ∀ (f : Fo) (at_ : Nat) (post : List Nd), l.drop at_ = flat f ++ post → wf f → allF okN f → allF NdQ f → KidsOk w v s f at_
  | .nil, _, _, _, _, _, _ => trivial
  | .cons x k r, at_, post, hd, hw, ho, hq => by
    obtain ⟨hn, hwk, hwr⟩ := hw
    obtain ⟨hox, hok, hor⟩ := ho
    obtain ⟨hqx, hqk, hqr⟩ := hq
    simp only [flat, List.cons_append, List.append_assoc] at hd
    obtain ⟨-, -, hd1⟩ := drop_cons (d := zN) hd
    have hN : NodeAt w v l at_ x k := ⟨hat, hl, ⟨flat r ++ post, hd⟩, hn, hwk⟩
    have hK : KidC w s v k (at_ + 1) := (pairsF hat hl s hs k (at_ + 1) (flat r ++ post) hd1 hwk hok hqk).to
    refine ⟨?_, pairsF hat hl s hs r (at_ + 1 + (flat k).length) post (drop_app hd1) hwr hor hqr⟩
    rcases hox with ⟨h, -⟩ | ⟨h, -⟩ | ⟨h | h, -⟩ | ⟨h | h | h, h1, -⟩ | ⟨h, h1, -, h2, h3, h4⟩
    · exact pairs1 hN h hqx s hs
    · exact pairs2 hN h s hs
    · exact pairs3 hN h s hs hK
    · exact pairs4 hN h s hs hK
    · exact pairs5 hN h (by omega) s hs hK
    · exact pairs6 hN h (by omega) s hs hK
    · exact pairs7 hN h (by omega) s hs hK
    · exact pairs8 hN h (by omega) ⟨h2, h3, h4⟩ s hs hK
set_option maxRecDepth 100000 in
theorem matchR {w : World} {v : Value} {l : List Nd} (h : NodesAt w v l) (hc : Chk l) (hq : ∀ x ∈ l, NdQ x) (s : ByteArray) (hs : s.size ≤ 1000) :
    Calls Try.prog 37 #[v, .string s] w fun e w' => ∃ b : Bool, e = .returned (.bool b) ∧ (b = true ↔ langL l (txt s)) ∧ ∃ x, w' = ext w x := by
  obtain ⟨x, k, h1, h2, h3, h4, h5, h6, h7, -⟩ := chk_facts hc
  have hlang : langL l = langN x (langs k) := by
    unfold langL langT
    rw [h1, List.append_nil, treeOf_flat x k h2 h3]
    rfl
  have hd0 : l.drop 0 = flat (.cons x k .nil) ++ [] := by rw [List.drop_zero, h1]; simp [flat]
  have hP := (pairsF h h6 s hs (.cons x k .nil) 0 [] hd0 ⟨h2, h3, trivial⟩ ⟨h4, h5, trivial⟩ ⟨hq x (by rw [h1]; simp), (allF_iff k).2 fun z hz => hq z (by rw [h1]; simp [hz]), trivial⟩).1 w (Below.refl _ _)
  rw [← hlang] at hP
  have HP := Lib.hid hP
  rw [show ((0 : Nat) : Int) = 0 from rfl] at HP
  have HT := Lib.hid (txt_len s)
  clear h hc hq h1 h2 h3 h4 h5 h7 hd0 hP hlang
  go_enter Try.func37, Try.ntmps37
  go_wp2_with ((with_reducible go_at_call 61); refine HP.out.mono ?_; rintro en w1 ⟨u, rfl, ⟨G, hg, hl⟩, hb⟩; have HB := Lib.hid hb; (have HG := Lib.hid (hl 0 s.size (by omega) (by omega))); obtain ⟨oa, cap, b, off, rfl, hd, hr⟩ := hg.open; obtain ⟨op, cp, bp, fp, hcr, hdp, hcp⟩ := hr 0 (by omega); (have hcc := hcp s.size (by omega)); (have hix0 := fun W => index_grid hd W 0 (by omega)); (have hix1 := fun W => index_bool hdp W s.size (by omega)); (rw [Nat.add_zero] at hix0 hcr); (rw [show ((0 : Nat) : Int) = 0 from rfl] at hix0); (have hbl1 := hd.hblk (by omega)); (have hbl2 := hdp.hblk (by omega)); generalize G 0 s.size = g at *; clear hg hl hb hr hcp hd hdp)
  go_ret
  refine ⟨g, rfl, ?_, ex_ext HB.out⟩
  rw [HG.out, List.drop_zero, Nat.sub_zero, ← HT.out, List.take_length]
  simp
/-- which trees of a list match -/
theorem matchingR {w : World} {v : Value} {ll : List (List Nd)} (h : TreesAt w v ll) (hc : ∀ l ∈ ll, Chk l) (hq : TreesQ ll) (h32 : ll.length ≤ 32) (s : ByteArray) (hs : s.size ≤ 1000) :
    Calls Try.prog 15 #[v, .string s] w fun e w' => ∃ u, e = .returned u ∧ IntsAt w' u (nz (setL ll.length (fun k => langL (ll.getD k []) (txt s)))) ∧ ∃ x, w' = ext w x := by
  obtain ⟨P, hP⟩ : ∃ P : Nat → Prop, P = fun k => langL (ll.getD k []) (txt s) := ⟨_, rfl⟩
  have HMA : Hid (∀ (W : World) (i : Nat) (u : Value), Below w.heap.size w W → i < ll.length → NodesAt w u (ll.getD i []) → Calls Try.prog 37 #[u, .string s] W fun e w' => ∃ b : Bool, e = .returned (.bool b) ∧ (b = true ↔ P i) ∧ ∃ x, w' = ext W x) := Lib.hid (fun W i u hb hi hn => by
    have hm : ll.getD i [] ∈ ll := by simp [List.getD, hi]
    rw [hP]
    exact matchR (hn.up hb) (hc _ hm) (hq _ hm) s hs)
  rw [← hP]
  obtain ⟨oa, cap, b, off, rfl, hd, hcl⟩ := h.open
  have HC := Lib.hid hcl
  have hix := index_tree hd
  have hbk := hd.hblk
  clear h hc hq hP hcl hd
  obtain ⟨n, hn⟩ : ∃ n, n = ll.length := ⟨_, rfl⟩
  rw [← hn] at hix hbk HC HMA h32 ⊢
  clear hn
  go_enter Try.func15, Try.ntmps15
  go_wp2
  go_loopg [5, 6] n (fun gk ov iv wr => ∃ i : Nat, iv = .int .i64 i ∧ i ≤ n ∧ Own wr w.heap.size 3 ov (ints (nz (setL i P))) ∧ Below w.heap.size w wr ∧ gk = n - i)
  case atStart => exact ⟨0, rfl, Nat.zero_le _, Own.nil _ _ _, Below.refl _ _, rfl⟩
  case round =>
    obtain ⟨i, rfl, hi, hown, hbl, rfl⟩ := hrel
    have HO := Lib.hid hown
    have HW := Lib.hid hbl
    clear hown hbl
    by_cases hlt : i < n
    · obtain ⟨u, hcu, hnu⟩ := HC.out i hlt
      have hb := hbk (by omega)
      have hcw := (HW.out.cell (p := ⟨b, off + i, none⟩) hb).trans hcu
      have hbw : b < wr.heap.size := by have := HW.out.size; omega
      have hixi := fun W => hix W .i64 (i : Int) (by omega) (by omega)
      simp only [Int.toNat_natCast] at hixi
      have HM := Lib.hid (HMA.out wr i u HW.out hlt hnu)
      have HSU : Hid ((P i → setL (i + 1) P = setL i P ++ [i]) ∧ (¬ P i → setL (i + 1) P = setL i P)) := Lib.hid ⟨fun hp => by rw [setL_succ, @decide_eq_true _ (Classical.propDecidable _) hp]; simp, fun hp => by rw [setL_succ, @decide_eq_false _ (Classical.propDecidable _) hp]; simp⟩
      have HLE : Hid ((setL i P).length ≤ 32) := Lib.hid (Nat.le_trans (filter_len _ _) (by omega))
      clear hcu hnu
      go_upto_region 6 with ((with_reducible go_at_call 37); refine HM.out.mono ?_; rintro en w1 ⟨bm, rfl, hbm, x1, rfl⟩; have HBM := Lib.hid hbm; have HB1 := Lib.hid (ext_below wr x1); have HO1 := Lib.hid (HO.out.up (ext_below wr x1)); generalize ext wr x1 = w1 at *; clear hbm; cases bm)
      · go_roundg (n - (i + 1))
        case measure => omega
        case rel => exact ⟨i + 1, by go_num, by omega, by rw [HSU.out.2 (fun hp => by have := HBM.out.2 hp; cases this)]; exact HO1.out, HW.out.trans (HB1.out.mono HW.out.size), rfl⟩
      · have HS1 := Lib.hid (HW.out.trans (HB1.out.mono HW.out.size))
        have hlW := Lib.hid (below_alloc w1 (.cells #[.int .i64 (i : Int)] 3))
        have HX : Hid (Sl (w1.alloc (.cells #[.int .i64 (i : Int)] 3)) (.slice (some ⟨w1.heap.size, 0, none⟩) 1 1) (ints (nz [i]))) := Lib.hid (by simpa [ints, nz] using sl_lit w1 #[.int .i64 (i : Int)] 3 (by simp))
        have HT1 := Lib.hid (HO1.out.up hlW.out)
        have HT3 : Hid ((ints (nz (setL i P))).length + (ints (nz [i])).length ≤ 4294967296) := Lib.hid (by have := HLE.out; simp [nz]; omega)
        have HT4 : Hid (w.heap.size ≤ (w1.alloc (.cells #[.int .i64 (i : Int)] 3)).heap.size) := Lib.hid (Nat.le_trans HS1.out.size hlW.out.size)
        go_wp2_with (at_builtin; refine wpList_app rfl (.tmp 19) (.tmp 21) 23 rfl w.heap.size 3 (.int .i64 0) 8 Try.underlying23 (by kernel_rfl) rfl (by decide) u5 (ints (nz (setL i P))) rfl HT1.out (.slice (some ⟨w1.heap.size, 0, none⟩) 1 1) (ints (nz [i])) rfl HX.out (ints_sing _) HT3.out HT4.out ?_; intro v' w5 hown1 hg1 hk1; have HO5 := Lib.hid hown1; have HG1 := Lib.hid hg1; clear hown1 hg1 hk1; have HB5 := Lib.hid (below_grown (HS1.out.trans (hlW.out.mono HS1.out.size)) HT4.out HT1.out HG1.out))
        go_roundg (n - (i + 1))
        case measure => omega
        case rel =>
          refine ⟨i + 1, by go_num, by omega, ?_, HB5.out, rfl⟩
          rw [HSU.out.1 (HBM.out.1 trivial), nz_append, ints_app]
          exact HO5.out
    · have hie : i = n := by omega
      subst hie
      go_wp2
      go_ret
      exact ⟨_, rfl, HO.out.sl, ex_ext HW.out⟩
end Go.Cm
