/- Texts of this claim, joined: walks of small functions and plain facts about them. Conditions: as each says. -/
import Derived.Test.YtfnkhcibcffcmaaGB
/- The walks of the document's kids of a node. Conditions: none. -/
namespace Go.Cm
open Go.RowKit Go.Proofs

/-- the places of a forest's trees -/
def kidsAt : Fo → Nat → List Nat
  | .nil, _ => []
  | .cons _ k r, at_ => at_ :: kidsAt r (at_ + 1 + (flat k).length)
theorem kidsAt_length : ∀ (f : Fo) (at_ : Nat), (kidsAt f at_).length = cnt f
  | .nil, _ => rfl
  | .cons x k r, at_ => by simp [kidsAt, cnt, kidsAt_length r]
def nz (l : List Nat) : List Int := l.map Int.ofNat
theorem nz_length (l : List Nat) : (nz l).length = l.length := by simp [nz]
theorem nz_getD (l : List Nat) (j : Nat) (h : j < l.length) : (nz l).getD j 0 = (l.getD j 0 : Nat) := by simp [nz, List.getD, h]
theorem nz_append (a b : List Nat) : nz (a ++ b) = nz a ++ nz b := by simp [nz]
theorem ints_app (a b : List Int) : ints (a ++ b) = ints a ++ ints b := by simp [ints]
theorem ints_sing (l : List Int) : ∀ u ∈ ints l, u.oneCell' = true := by
  intro u hu
  simp only [ints, List.mem_map] at hu
  obtain ⟨x, -, rfl⟩ := hu
  rfl
theorem drop_cons {α : Type} {l t : List α} {x d : α} {i : Nat} (h : l.drop i = x :: t) : i < l.length ∧ l.getD i d = x ∧ l.drop (i + 1) = t := by
  have hi : i < l.length := by
    apply Classical.byContradiction; intro hn
    rw [List.drop_eq_nil_of_le (by omega)] at h; cases h
  rw [List.drop_eq_getElem_cons hi] at h
  simp only [List.cons.injEq] at h
  exact ⟨hi, by simp [List.getD, hi, h.1], h.2⟩
theorem drop_app {α : Type} {l a b : List α} {i : Nat} (h : l.drop i = a ++ b) : l.drop (i + a.length) = b := by
  rw [← List.drop_drop, h, List.drop_left]

set_option maxRecDepth 100000 in
theorem kidsR {w : World} {v : Value} {l post : List Nd} {x : Nd} {k : Fo} {i : Nat} (h : NodesAt w v l) (hl : l.length ≤ 400) (hd0 : l.drop i = x :: (flat k ++ post)) (hn : x.n = cnt k) (hk : wf k) :
    Calls Try.prog 50 #[v, .int .i64 i] w fun e w' => ∃ u, e = .returned u ∧ IntsAt w' u (nz (kidsAt k (i + 1))) ∧ ∃ x, w' = ext w x := by
  have HEND := Lib.hid (fun w' hb j => endR (NodesAt.up h hb (w' := w')) hl j)
  obtain ⟨oa, cap, b, off, rfl, hd, hc⟩ := h.open
  obtain ⟨hi, hx, hd1⟩ := drop_cons (d := zN) hd0
  have hix := fun (W : World) => index_node hd W .i64 i (by omega) (by omega)
  have hcell := hc i hi 1 (by decide)
  rw [hx] at hcell
  have hcell1 : w.cell? ⟨b, off + i * 8 + 1, none⟩ = some (.int .i64 (cnt k : Nat)) := by rw [← hn]; exact hcell
  have hb := hd.hblk (by omega)
  have hck := cnt_le k
  have hlk : i + 1 + (flat k).length + post.length = l.length := by
    have := congrArg List.length hd1
    simp only [List.length_drop, List.length_append] at this; omega
  simp only [Int.toNat_natCast] at hix
  have HD := Lib.hid hd1
  have HK := Lib.hid hk
  clear h hd hc hcell hx hd0 hd1 hk hn
  go_enter Try.func50, Try.ntmps50
  go_wp2
  go_loopg [5, 6, 7] (cnt k) (fun gk ov av jv wr => ∃ (j at_ : Nat) (r : Fo) (ls : List Nat), jv = .int .i64 j ∧ av = .int .i64 at_ ∧ at_ + (flat r).length + post.length = l.length ∧ j + cnt r = cnt k ∧ l.drop at_ = flat r ++ post ∧ wf r ∧ ls ++ kidsAt r at_ = kidsAt k (i + 1) ∧ ls.length = j ∧ Own wr w.heap.size 3 ov (ints (nz ls)) ∧ Below w.heap.size w wr ∧ gk = cnt k - j)
  case atStart => exact ⟨0, i + 1, k, [], rfl, by push_cast; rfl, by omega, by omega, HD.out, HK.out, rfl, rfl, Own.nil _ _ _, Below.refl _ _, rfl⟩
  case round =>
    obtain ⟨j, at_, r, ls, rfl, rfl, hatl, hj, hdr, hwr, hls, hll, hown, hbel, rfl⟩ := hrel
    have HO := Lib.hid hown
    have HBL := Lib.hid hbel
    have HLS := Lib.hid hls
    clear hown hbel hls
    have hcw := (HBL.out.cell (p := ⟨b, off + i * 8 + 1, none⟩) hb).trans hcell1
    have hbw : b < wr.heap.size := by have := HBL.out.size; omega
    cases r with
    | nil =>
      have hje : j = cnt k := by simpa [cnt] using hj
      have HE : Hid (nz ls = nz (kidsAt k (i + 1))) := Lib.hid (by rw [← HLS.out]; simp [kidsAt])
      go_wp2
      go_ret
      refine ⟨u5, rfl, ?_, ex_ext HBL.out⟩
      rw [← HE.out]
      exact HO.out.sl
    | cons y ky r' =>
      simp only [cnt] at hj
      simp only [flat, List.cons_append, List.append_assoc] at hdr
      simp only [flat, List.length_cons, List.length_append] at hatl
      obtain ⟨hy1, hy2, hy3⟩ := hwr
      have hend := endF_tree l.length (flat r' ++ post) y ky hy1 hy2 (by omega) at_
      rw [← hdr] at hend
      obtain ⟨-, -, hdr1⟩ := drop_cons (d := zN) hdr
      have HDR : Hid (l.drop (at_ + 1 + (flat ky).length) = flat r' ++ post) := Lib.hid (drop_app hdr1)
      have hee : ((at_ : Int) + (1 + (flat ky).length)) = ((at_ + 1 + (flat ky).length : Nat) : Int) := by push_cast; omega
      rw [hee] at hend
      have HEN := Lib.hid hend
      have HW3 := Lib.hid hy3
      clear hdr hdr1 hend hee hy1 hy2 hy3
      have hlW := Lib.hid (below_alloc wr (.cells #[.int .i64 (at_ : Int)] 3))
      have HX : Hid (Sl (wr.alloc (.cells #[.int .i64 (at_ : Int)] 3)) (.slice (some ⟨wr.heap.size, 0, none⟩) 1 1) (ints (nz [at_]))) := Lib.hid (by simpa [ints, nz] using sl_lit wr #[.int .i64 (at_ : Int)] 3 (by simp))
      have HT1 := Lib.hid (HO.out.up hlW.out)
      have HT3 : Hid ((ints (nz ls)).length + (ints (nz [at_])).length ≤ 4294967296) := Lib.hid (by simp [nz]; omega)
      have HT4 : Hid (w.heap.size ≤ (wr.alloc (.cells #[.int .i64 (at_ : Int)] 3)).heap.size) := Lib.hid (Nat.le_trans HBL.out.size hlW.out.size)
      go_wp2_with (first | (at_builtin; refine wpList_app rfl (.tmp 19) (.tmp 21) 23 rfl w.heap.size 3 (.int .i64 0) 8 Try.underlying23 (by kernel_rfl) rfl (by decide) u5 (ints (nz ls)) rfl HT1.out (.slice (some ⟨wr.heap.size, 0, none⟩) 1 1) (ints (nz [at_])) rfl HX.out (ints_sing _) HT3.out HT4.out ?_; intro v' w5 hown1 hg1 hk1; have HO1 := Lib.hid hown1; have HG1 := Lib.hid hg1; clear hown1 hg1 hk1; have HB5 := Lib.hid (below_grown (HBL.out.trans (hlW.out.mono HBL.out.size)) HT4.out HT1.out HG1.out)) | ((with_reducible go_at_call 48); refine (HEND.out _ HB5.out at_).mono ?_; rintro en w' ⟨rfl, x6, rfl⟩; rw [HEN.out]))
      go_roundg (cnt k - (j + 1))
      case measure => omega
      case rel =>
        refine ⟨j + 1, at_ + 1 + (flat ky).length, r', ls ++ [at_], by go_num, rfl, by omega, by omega, HDR.out, HW3.out, ?_, by simp [hll], ?_, b_ext HB5.out HB5.out.size x6, rfl⟩
        · rw [← HLS.out]; simp [kidsAt]
        · rw [nz_append, ints_app]
          exact HO1.out.upB (Nat.le_refl _) (ext_below w5 x6)
end Go.Cm

/- The walks of the document's size and weight of a tree. Conditions: none. -/
namespace Go.Cm
open Go.RowKit Go.Proofs

theorem okN_kd {x : Nd} (h : okN x) : x.kd = 1 ∨ x.kd = 2 ∨ x.kd = 3 ∨ x.kd = 4 ∨ x.kd = 5 ∨ x.kd = 6 ∨ x.kd = 7 ∨ x.kd = 8 := by
  unfold okN at h; omega

set_option maxRecDepth 100000 in
theorem weightR (N : Nat) : ∀ (w : World) (v : Value) (l post : List Nd) (x : Nd) (k : Fo) (i : Nat), (flat k).length < N → NodesAt w v l → l.length ≤ 400 → l.drop i = x :: (flat k ++ post) → x.n = cnt k → wf k → okN x → allF okN k →
    Calls Try.prog 33 #[v, .int .i64 i] w fun e w' => ∃ n : Int, e = .returned (.int .i64 n) ∧ 0 ≤ n ∧ n ≤ 100000 ∧ ∃ x, w' = ext w x := by
  induction N with
  | zero => intro w v l post x k i h; omega
  | succ N ih =>
  intro w v l post x k i hN h hl hd0 hn hk hok hall
  have HIH := Lib.hid ih
  have HKIDS := Lib.hid (kidsR h hl hd0 hn hk)
  have HAT := Lib.hid h
  obtain ⟨oa, cap, b, off, rfl, hd, hc⟩ := h.open
  obtain ⟨hi, hx, hd1⟩ := drop_cons (d := zN) hd0
  have hix := fun (W : World) => index_node hd W .i64 i (by omega) (by omega)
  have hc0 := hc i hi 0 (by decide)
  have hc6 := hc i hi 6 (by decide)
  have hc7 := hc i hi 7 (by decide)
  rw [hx] at hc0 hc6 hc7
  rw [Nat.add_zero] at hc0
  have hb := hd.hblk (by omega)
  have hck := cnt_le k
  have hlk : i + 1 + (flat k).length + post.length = l.length := by
    have := congrArg List.length hd1
    simp only [List.length_drop, List.length_append] at this; omega
  have hsz := sizeF_le k hall
  simp only [Int.toNat_natCast] at hix
  have HD := Lib.hid hd1
  have HK := Lib.hid hk
  have HA := Lib.hid hall
  have HKD := Lib.hid (okN_kd hok)
  have HTM : Hid (x.kd = 8 → 0 ≤ x.lo ∧ x.lo ≤ 30 ∧ -1 ≤ x.hi ∧ x.hi ≤ 30) := Lib.hid (fun h8 => by unfold okN at hok; omega)
  obtain ⟨xk, xn, xa, xb, xc, xd, xl, xh⟩ := x
  change w.cell? ⟨b, off + i * 8, none⟩ = some (.int .i64 xk) at hc0
  change w.cell? ⟨b, off + i * 8 + 6, none⟩ = some (.int .i64 xl) at hc6
  change w.cell? ⟨b, off + i * 8 + 7, none⟩ = some (.int .i64 xh) at hc7
  clear ih h hd hc hx hd0 hd1 hk hn hok hall hsz
  go_enter Try.func33, Try.ntmps33
  go_wp2_with ((with_reducible go_at_call 50); refine HKIDS.out.mono ?_; rintro en w1 ⟨u, rfl, hu, x1, rfl⟩; (have HB1 := Lib.hid (ext_below w x1)); obtain ⟨ok, ck, bk, fk, rfl, hdk, hck1⟩ := hu.open; (rw [show (nz (kidsAt k (i + 1))).length = cnt k by rw [nz_length, kidsAt_length]] at hdk hck1 ⊢); (generalize ext w x1 = w1 at *))
  have hixk := index_any (P := Try.prog) 23 3 Try.underlying23 (by kernel_rfl) hdk
  have HCK := Lib.hid hck1
  have HBK := Lib.hid hdk.hblk
  have hw1 := HB1.out.size
  clear hu hdk hck1
  go_loopg [6, 7] (cnt k) (fun gk sv jv wr => ∃ (j at_ : Nat) (r : Fo) (s : Int), jv = .int .i64 j ∧ sv = .int .i64 s ∧ at_ + (flat r).length + post.length = l.length ∧ j + cnt r = cnt k ∧ l.drop at_ = flat r ++ post ∧ wf r ∧ allF okN r ∧ (kidsAt k (i + 1)).drop j = kidsAt r at_ ∧ 1 ≤ s ∧ s ≤ 1 + 100000 * j ∧ (flat r).length ≤ (flat k).length ∧ Below w1.heap.size w1 wr ∧ gk = cnt k - j)
  case atStart => exact ⟨0, i + 1, k, 1, rfl, rfl, by omega, by omega, HD.out, HK.out, HA.out, rfl, by omega, by omega, Nat.le_refl _, Below.refl _ _, rfl⟩
  case round =>
    obtain ⟨j, at_, r, s, rfl, rfl, hatl, hj, hdr, hwr, har, hls, hs0, hss, hrk, hbel, rfl⟩ := hrel
    have HBL := Lib.hid hbel
    have HBW := Lib.hid (HB1.out.trans (hbel.mono hw1))
    clear hbel
    cases r with
    | nil =>
      have hje : j = cnt k := by simpa [cnt] using hj
      subst hje
      clear hdr hwr har hls
      have h0 := (HBW.out.cell (p := ⟨b, off + i * 8, none⟩) hb).trans hc0
      have h6 := (HBW.out.cell (p := ⟨b, off + i * 8 + 6, none⟩) hb).trans hc6
      have h7 := (HBW.out.cell (p := ⟨b, off + i * 8 + 7, none⟩) hb).trans hc7
      have hbw : b < wr.heap.size := by have := HBW.out.size; omega
      clear hc0 hc6 hc7
      have HTM2 := HTM.out
      have hkd := HKD.out
      try simp only at HTM2
      try simp only at hkd
      clear HTM HKD
      by_cases h8 : xk = 8
      · subst h8
        have ht := HTM2 rfl
        clear HTM2 hkd
        have fin : ∀ t : Int, 0 ≤ t → t ≤ 31 → 0 ≤ s * t ∧ s * t ≤ 40000001 * 31 := fun t h0 h1 => ⟨Int.mul_nonneg (by omega) h0, Int.le_trans (Int.mul_le_mul_of_nonneg_left h1 (by omega)) (by omega)⟩
        obtain ⟨m, hmx, hm0, hm1⟩ : ∃ m, (if xl < xh then xh else xl) = m ∧ 0 ≤ m ∧ m ≤ 30 := ⟨_, rfl, by split <;> omega, by split <;> omega⟩
        have ft := fin (1 + m) (by omega) (by omega)
        obtain ⟨q, hq⟩ : ∃ q, q = s * (1 + m) := ⟨_, rfl⟩
        rw [← hq] at ft
        have HMX := Lib.hid hmx
        have HWR : Hid (wrap64 (s * (1 + m)) = q) := Lib.hid (by rw [← hq]; exact IntWalk.wrap64_in q ⟨by omega, by omega⟩)
        clear fin hmx hq
        go_wp2
        go_quiet (fail)
        rw [HMX.out, HWR.out]
        go_wp2
        all_goals (go_ret; exact ⟨_, rfl, by omega, by omega, ex_ext (b_drewN HBW.out _)⟩)
      · clear HTM2 hkd
        go_wp2
        all_goals (go_ret; first | exact ⟨_, rfl, by omega, by omega, ex_ext HBW.out⟩ | exact ⟨_, rfl, by omega, by omega, ex_ext (b_drewN HBW.out _)⟩)
    | cons y ky r' =>
      simp only [cnt] at hj
      simp only [flat, List.cons_append, List.append_assoc] at hdr
      simp only [flat, List.length_cons, List.length_append] at hatl hrk
      obtain ⟨hy1, hy2, hy3⟩ := hwr
      obtain ⟨ha1, ha2, ha3⟩ := har
      simp only [kidsAt] at hls
      obtain ⟨hjl, hja, hls1⟩ := drop_cons (d := 0) hls
      rw [kidsAt_length] at hjl
      have hcj := HCK.out j hjl
      rw [nz_getD _ _ (by rw [kidsAt_length]; exact hjl), hja] at hcj
      have hbk := HBK.out (by omega)
      have hcjw := (HBL.out.cell (p := ⟨bk, fk + j, none⟩) hbk).trans hcj
      have hbkw : bk < wr.heap.size := by have := HBL.out.size; omega
      obtain ⟨-, -, hdr1⟩ := drop_cons (d := zN) hdr
      have HDR : Hid (l.drop (at_ + 1 + (flat ky).length) = flat r' ++ post) := Lib.hid (drop_app hdr1)
      have HCL := Lib.hid (HIH.out wr _ l (flat r' ++ post) y ky at_ (by omega) (HAT.out.up HBW.out) hl hdr hy1 hy2 ha1 ha2)
      have HW3 := Lib.hid hy3
      have HA3 := Lib.hid ha3
      have HLS := Lib.hid hls1
      clear hdr hdr1 hy1 hy2 hy3 ha1 ha2 ha3 hls hls1 hja hcj
      go_wp2_with ((with_reducible go_at_call 33); refine HCL.out.mono ?_; rintro en w' ⟨t, rfl, ht0, ht1, x6, rfl⟩)
      go_roundg (cnt k - (j + 1))
      case measure => omega
      case rel =>
        exact ⟨j + 1, at_ + 1 + (flat ky).length, r', s + t, by go_num, by go_num, by omega, by omega, HDR.out, HW3.out, HA3.out, HLS.out, by omega, by omega, by omega, b_ext HBL.out HBL.out.size x6, rfl⟩
end Go.Cm

/- The walks of the program's size of a tree. Conditions: none. -/
namespace Go.Cm
open Go.RowKit Go.Proofs

theorem timesP {w : World} (k n a b c d lo hi : Int) : Calls Try.prog 70 #[.agg #[.int .i64 k, .int .i64 n, .int .u64 a, .int .u64 b, .int .u64 c, .int .u64 d, .int .i64 lo, .int .i64 hi]] w fun e w' => e = .returned (.int .i64 (timesN ⟨k, n, a, b, c, d, lo, hi⟩)) ∧ ∃ x, w' = ext w x := by
  obtain ⟨R, hR⟩ : ∃ R, R = timesN ⟨k, n, a, b, c, d, lo, hi⟩ := ⟨_, rfl⟩
  have HR := Lib.hid hR
  rw [← hR]
  clear hR
  go_enter Try.func70, Try.ntmps70
  by_cases h : hi < 0
  all_goals
    go_wp2
    all_goals (go_ret; refine ⟨congrArg (fun b => Ending.returned (Value.int .i64 b)) ?_, ex_ext ?_⟩)
    all_goals first
      | (rw [HR.out]; simp only [timesN]; omega)
      | (repeat' first | exact Below.refl _ _ | refine Below.alloc ?_ ?_ _ | (simp; done) | (simp; omega))

theorem NodesAt.high {w : World} {v : Value} {l : List Nd} (h : NodesAt w v l) (n : Nat) (hn : n ≤ l.length) :
    ∃ u, (∀ W : World, (Instr.sliceAt 48 v (some (.int .i64 (n : Int))) none none).run Try.prog W = .ok u W) ∧ NodesAt w u (l.drop n) := by
  obtain ⟨u, h1, h2⟩ := SlK.high (P := Try.prog) h 48 100 Try.underlying48 (by kernel_rfl) n (by simpa using hn)
  exact ⟨u, h1, by unfold NodesAt; rw [List.map_drop]; exact h2⟩
theorem NodesAt.mid {w : World} {v : Value} {l : List Nd} (h : NodesAt w v l) (n m : Nat) (hn : n ≤ m) (hm : m ≤ l.length) :
    ∃ u, (∀ W : World, (Instr.sliceAt 48 v (some (.int .i64 (n : Int))) (some (.int .i64 (m : Int))) none).run Try.prog W = .ok u W) ∧ NodesAt w u ((l.drop n).take (m - n)) := by
  obtain ⟨u, h1, h2⟩ := SlK.mid (P := Try.prog) h 48 100 Try.underlying48 (by kernel_rfl) n m hn (by simpa using hm)
  exact ⟨u, h1, by unfold NodesAt; rw [List.map_take, List.map_drop]; exact h2⟩

set_option maxRecDepth 100000 in
theorem sizeP (N : Nat) : ∀ (w : World) (v : Value) (l post : List Nd) (x : Nd) (k : Fo), (flat k).length < N → NodesAt w v l → l.length ≤ 400 → l = x :: (flat k ++ post) → x.n = cnt k → wf k → okN x → allF okN k →
    Calls Try.prog 69 #[v] w fun e w' => e = .returned (.tuple #[.int .i64 (sizeN x (sizeF k)), .int .i64 ((1 + (flat k).length : Nat) : Int)]) ∧ ∃ x, w' = ext w x := by
  induction N with
  | zero => intro w v l post x k h; omega
  | succ N ih =>
  intro w v l post x k hN h hl hd0 hn hk hok hall
  have HIH := Lib.hid ih
  have HAT := Lib.hid h
  obtain ⟨oa, cap, b, off, rfl, hd, hc⟩ := h.open
  obtain ⟨hi, hx, hd1⟩ := drop_cons (d := zN) (i := 0) (l := l) hd0
  have hix : ∀ W : World, (Instr.indexAt 48 (.slice oa l.length cap) (.int .i64 0)).run Try.prog W = .ok (.pointer (some ⟨b, off, none⟩)) W := fun (W : World) => by
    have := index_node hd W .i64 0 (by omega) (by omega)
    simpa using this
  have hb := hd.hblk (by omega)
  have hck := cnt_le k
  have hlk : 1 + (flat k).length + post.length = l.length := by
    have := congrArg List.length hd1
    simp only [List.length_drop, List.length_append] at this; omega
  have hsz := sizeF_le k hall
  have hc0 := hc 0 hi
  rw [hx] at hc0
  have HD := Lib.hid hd1
  have HK := Lib.hid hk
  have HA := Lib.hid hall
  have HKD := Lib.hid (okN_kd hok)
  have HTM := Lib.hid (timesN_le hok)
  obtain ⟨R, hR⟩ : ∃ R, R = sizeN x (sizeF k) := ⟨_, rfl⟩
  have HR := Lib.hid hR
  obtain ⟨T, hT⟩ : ∃ T : Nat, T = 1 + (flat k).length := ⟨_, rfl⟩
  rw [← hR, ← hT]
  obtain ⟨xk, xn, xa, xb, xc, xd, xl, xh⟩ := x
  change xn = _ at hn
  subst hn
  have HCE : Hid (∀ c', c' < 8 → w.cell? ⟨b, off + c', none⟩ = some ((#[.int .i64 xk, .int .i64 (cnt k), .int .u64 xa, .int .u64 xb, .int .u64 xc, .int .u64 xd, .int .i64 xl, .int .i64 xh] : Array Value).getD c' undef)) := Lib.hid (fun c' h => by
    have := hc0 c' h
    rw [ndC_get, Nat.zero_mul, Nat.add_zero] at this; exact this)
  have HTT := Lib.hid (fun w => timesP (w := w) xk (cnt k) xa xb xc xd xl xh)
  clear ih h hd hc hx hd0 hd1 hk hR hok hall hc0
  go_enter Try.func69, Try.ntmps69
  go_wp2_with (refine wpList_load_cells rfl 100 _ rfl b off 8 rfl _ _ HCE.out rfl Try.underlying100 rfl (by kernel_rfl) ?_)
  go_loopg [5, 6, 14] (cnt k) (fun gk sv av jv wr => ∃ (j at_ : Nat) (r : Fo) (s : Int), jv = .int .i64 j ∧ av = .int .i64 at_ ∧ sv = .int .i64 s ∧ at_ + (flat r).length + post.length = l.length ∧ j + cnt r = cnt k ∧ l.drop at_ = flat r ++ post ∧ wf r ∧ allF okN r ∧ 0 ≤ s ∧ s + sizeF r = sizeF k ∧ (flat r).length ≤ (flat k).length ∧ Below w.heap.size w wr ∧ w.heap.size < wr.heap.size ∧ (∀ c', c' < 8 → wr.cell? ⟨w.heap.size, c', none⟩ = some ((#[.int .i64 xk, .int .i64 (cnt k), .int .u64 xa, .int .u64 xb, .int .u64 xc, .int .u64 xd, .int .i64 xl, .int .i64 xh] : Array Value).getD c' undef)) ∧ gk = cnt k - j)
  case atStart => exact ⟨0, 1, k, 0, rfl, rfl, rfl, by omega, by omega, HD.out, HK.out, HA.out, by omega, by omega, Nat.le_refl _, below_alloc _ _, by simp, fun c' h => by rw [World.cell?_alloc_new]; simp [Array.getD_eq_getD_getElem?, h], rfl⟩
  case round =>
    obtain ⟨j, at_, r, s, rfl, rfl, rfl, hatl, hj, hdr, hwr, har, hs0, hss, hrk, hbel, hbx, hcx, rfl⟩ := hrel
    have HBW := Lib.hid hbel
    have HCX := Lib.hid hcx
    clear hbel hcx
    cases r with
    | nil =>
      have hje : j = cnt k := by simpa [cnt] using hj
      have hse : s = sizeF k := by simpa [sizeF] using hss
      have hae : at_ = 1 + (flat k).length := by simp only [flat, List.length_nil] at hatl; omega
      rw [← hse] at HR
      have hsB : s ≤ 400000000 := by omega
      rw [← hT] at hae
      subst hae
      subst hje
      clear hss hdr hwr har hse hT
      have h0 := HCX.out 0 (by decide)
      change wr.cell? ⟨w.heap.size, 0, none⟩ = some (.int .i64 xk) at h0
      have HTM2 := HTM.out
      have hkd := HKD.out
      try simp only at HTM2
      try simp only at hkd
      clear HTM HKD
      have fin : ∀ t : Int, 0 ≤ t → t ≤ 30 → 0 ≤ t * s ∧ t * s ≤ 30 * 400000000 := fun t h0 h1 => ⟨Int.mul_nonneg h0 hs0, Int.mul_le_mul h1 (by omega) hs0 (by omega)⟩
      rcases hkd with h | h | h | h | h | h | h | h
      all_goals subst h
      case inr.inr.inr.inr.inr.inr.inr =>
        have ht := HTM2 rfl
        have ft := fin _ ht.1 ht.2
        have HR3 : Hid (R = min (2 + timesN ⟨8, cnt k, xa, xb, xc, xd, xl, xh⟩ * s) 1000000) := Lib.hid (by rw [HR.out]; simp [sizeN])
        generalize timesN ⟨8, cnt k, xa, xb, xc, xd, xl, xh⟩ = t at *
        clear HTM2 fin
        have HCX2 : Hid (∀ c', c' < 8 → wr.cell? ⟨w.heap.size, 0 + c', none⟩ = some ((#[.int .i64 8, .int .i64 (cnt k), .int .u64 xa, .int .u64 xb, .int .u64 xc, .int .u64 xd, .int .i64 xl, .int .i64 xh] : Array Value).getD c' undef)) := Lib.hid (fun c' h => by rw [Nat.zero_add]; exact HCX.out c' h)
        go_wp2_with (first | (refine wpList_load_cells rfl 100 _ rfl w.heap.size 0 8 rfl _ _ HCX2.out rfl Try.underlying100 rfl (by kernel_rfl) ?_) | ((with_reducible go_at_call 70); refine (HTT.out _).mono ?_; rintro en w' ⟨rfl, x6, rfl⟩))
        all_goals (go_ret2; refine ⟨congrArg (fun b => Ending.returned (Value.tuple #[Value.int .i64 b, Value.int .i64 at_])) ?_, ex_ext (b_ext' HBW.out x6)⟩; rw [HR3.out]; omega)
      all_goals
        clear HTM2 fin
        go_wp2
        all_goals (go_ret2; refine ⟨congrArg (fun b => Ending.returned (Value.tuple #[Value.int .i64 b, Value.int .i64 at_])) ?_, ex_ext HBW.out⟩; rw [HR.out]; first | (simp [sizeN]; done) | (simp [sizeN]; omega))
    | cons y ky r' =>
      simp only [cnt] at hj
      simp only [flat, List.cons_append, List.append_assoc] at hdr
      simp only [flat, List.length_cons, List.length_append] at hatl hrk
      obtain ⟨hy1, hy2, hy3⟩ := hwr
      obtain ⟨ha1, ha2, ha3⟩ := har
      obtain ⟨-, -, hdr1⟩ := drop_cons (d := zN) hdr
      have HDR : Hid (l.drop (at_ + 1 + (flat ky).length) = flat r' ++ post) := Lib.hid (drop_app hdr1)
      obtain ⟨u, hsl, hnu⟩ := (HAT.out.up HBW.out).high at_ (by omega)
      have HCL := Lib.hid (HIH.out wr u _ (flat r' ++ post) y ky (by omega) hnu (by rw [List.length_drop]; omega) hdr hy1 hy2 ha1 ha2)
      have hs1 := (sizeN_nonneg ha1 (sizeF_le ky ha2).1)
      have hs2 := sizeF_le r' ha3
      simp only [sizeF] at hss
      generalize sizeN y (sizeF ky) = t at *
      have HW3 := Lib.hid hy3
      have HA3 := Lib.hid ha3
      clear hdr hdr1 hy1 hy2 hy3 ha1 ha2 ha3 hnu
      go_wp2_with ((with_reducible go_at_call 69); refine HCL.out.mono ?_; rintro en w' ⟨rfl, x6, rfl⟩)
      go_roundg (cnt k - (j + 1))
      case measure => omega
      case rel =>
        exact ⟨j + 1, at_ + 1 + (flat ky).length, r', s + t, by go_num, by go_num, by go_num, by omega, by omega, HDR.out, HW3.out, HA3.out, by omega, by omega, by omega, b_ext' HBW.out x6, Nat.lt_of_lt_of_le hbx (size_ext _ _), fun c' h => by rw [cell?_ext _ _ _ _ hbx]; exact HCX.out c' h, rfl⟩
end Go.Cm

/- The walks of a tree's size, of what is wrong of trees, and of their weight. Conditions: none. -/
namespace Go.Cm
open Go.RowKit Go.Proofs

theorem chk_facts {l : List Nd} (h : Chk l) : ∃ x k, l = x :: (flat k ++ []) ∧ x.n = cnt k ∧ wf k ∧ okN x ∧ allF okN k ∧ l.length ≤ 400 ∧ (flat k).length < 400 ∧ sizeL l = sizeN x (sizeF k) := by
  obtain ⟨x, k, h1, h2, h3, h4, h5, h6⟩ := chk_tree h
  refine ⟨x, k, by simpa using h1, h2, h3, h4, h5, h.1, h6, ?_⟩
  unfold sizeL
  rw [if_pos h, h1, treeOf_flat x k h2 h3]
  simp [sizeF]
theorem codeChk_pos {l : List Nd} (h : Chk l) : codeChk l = 0 := by unfold codeChk; rw [if_pos h]
theorem codeChk_neg {l : List Nd} (h : ¬ Chk l) : codeChk l = 4 := by unfold codeChk; rw [if_neg h]
theorem sizeL_neg {l : List Nd} (h : ¬ Chk l) : sizeL l = 0 := by unfold sizeL; rw [if_neg h]

theorem sizeTopP {w : World} {v : Value} {l : List Nd} (h : NodesAt w v l) :
    Calls Try.prog 52 #[v] w fun e w' => e = .returned (.int .i64 (sizeL l)) ∧ ∃ x, w' = ext w x := by
  have HCH := Lib.hid (checkP h)
  obtain ⟨R, hR⟩ : ∃ R, R = sizeL l := ⟨_, rfl⟩
  rw [← hR]
  by_cases hc : Chk l
  · rw [codeChk_pos hc] at HCH
    obtain ⟨x, k, h1, h2, h3, h4, h5, h6, h7, h8⟩ := chk_facts hc
    have HS := Lib.hid (fun x1 => sizeP 400 (ext w x1) v l [] x k h7 (h.up (ext_below w x1)) h6 h1 h2 h3 h4 h5)
    rw [← h8, ← hR] at HS
    clear h hc h1 h2 h3 h4 h5 h6 h7 h8 hR
    go_enter Try.func52, Try.ntmps52
    go_wp2_with (first | ((with_reducible go_at_call 51); refine HCH.out.mono ?_; rintro en w' ⟨rfl, x1, rfl⟩) | ((with_reducible go_at_call 69); refine (HS.out x1).mono ?_; rintro en w' ⟨rfl, x2, rfl⟩))
    go_ret
    exact ⟨rfl, ext_ext w x1 x2⟩
  · rw [codeChk_neg hc] at HCH
    rw [sizeL_neg hc] at hR
    have HR := Lib.hid hR
    clear h hc hR
    go_enter Try.func52, Try.ntmps52
    go_wp2_with ((with_reducible go_at_call 51); refine HCH.out.mono ?_; rintro en w' ⟨rfl, x1, rfl⟩)
    go_ret
    exact ⟨by rw [HR.out]; rfl, x1, rfl⟩
/-- a slice of trees' lists -/
def TreesAt (w : World) (v : Value) (ll : List (List Nd)) : Prop :=
  ∃ vs, Sl w v vs ∧ vs.length = ll.length ∧ ∀ i, i < ll.length → NodesAt w (vs.getD i undef) (ll.getD i [])
theorem TreesAt.up {w w' : World} {v : Value} {ll : List (List Nd)} (h : TreesAt w v ll) (hb : Below w.heap.size w w') : TreesAt w' v ll := by
  obtain ⟨vs, h1, h2, h3⟩ := h
  exact ⟨vs, h1.up hb, h2, fun i hi => (h3 i hi).up hb⟩
theorem TreesAt.open {w : World} {v : Value} {ll : List (List Nd)} (h : TreesAt w v ll) :
    ∃ oa cap b off, v = .slice oa ll.length cap ∧ Hd w oa ll.length cap b off ∧ ∀ i, i < ll.length → ∃ u, w.cell? ⟨b, off + i, none⟩ = some u ∧ NodesAt w u (ll.getD i []) := by
  obtain ⟨vs, ⟨oa, cap, b, off, rfl, hd, hc⟩, h2, h3⟩ := h
  rw [h2] at hd hc ⊢
  exact ⟨oa, cap, b, off, rfl, hd, fun i hi => ⟨_, hc i hi, h3 i hi⟩⟩
theorem index_tree {w : World} {oa : Option Addr} {b off len cap : Nat} (h : Hd w oa len cap b off) :
    ∀ (W : World) (kd : IntKind) (i : Int), 0 ≤ i → i < len → (Instr.indexAt 39 (.slice oa len cap) (.int kd i)).run Try.prog W = .ok (.pointer (some ⟨b, off + i.toNat, none⟩)) W :=
  index_any (P := Try.prog) 39 48 Try.underlying39 (by kernel_rfl) h

/-- the sizes of the first ones together -/
noncomputable def sumS (ll : List (List Nd)) (j : Nat) : Int := ((ll.take j).map sizeL).sum
theorem sumS_succ (ll : List (List Nd)) (j : Nat) (h : j < ll.length) : sumS ll (j + 1) = sumS ll j + sizeL (ll.getD j []) := by
  unfold sumS
  rw [List.take_succ_eq_append_getElem h, List.map_append, List.sum_append]
  simp [List.getD, h]
theorem sumS_all (ll : List (List Nd)) : sumS ll ll.length = (ll.map sizeL).sum := by unfold sumS; rw [List.take_length]

set_option maxRecDepth 100000 in
theorem mayP {w : World} {v : Value} {ll : List (List Nd)} (h : TreesAt w v ll) :
    Calls Try.prog 34 #[v] w fun e w' => e = .returned (.int .i64 (mayL ll)) ∧ ∃ x, w' = ext w x := by
  obtain ⟨oa, cap, b, off, rfl, hd, hc⟩ := h.open
  have hix := index_tree hd
  have hm := hd.len
  have HB := Lib.hid hd.hblk
  have HC := Lib.hid hc
  obtain ⟨R, hR⟩ : ∃ R, R = mayL ll := ⟨_, rfl⟩
  have HSS := Lib.hid (sumS_succ ll)
  have HSA := Lib.hid (sumS_all ll)
  rw [← hR]
  unfold mayL at hR
  by_cases h0 : ll.length = 0
  · rw [if_pos h0] at hR
    have HR := Lib.hid hR
    clear hR h hd hc
    go_enter Try.func34, Try.ntmps34
    go_wp2
    go_ret
    exact ⟨by rw [HR.out]; rfl, refl_ext _⟩
  rw [if_neg h0] at hR
  by_cases h1 : 32 < ll.length
  · rw [if_pos h1] at hR
    have HR := Lib.hid hR
    clear hR h hd hc
    go_enter Try.func34, Try.ntmps34
    go_wp2
    go_ret
    exact ⟨by rw [HR.out]; rfl, refl_ext _⟩
  rw [if_neg h1] at hR
  have hb0 : ((ll.length : Int) == 0) = false := by simpa using h0
  have hb1 : decide ((32 : Int) < ll.length) = false := by simp; omega
  have HR := Lib.hid hR
  clear hR h hd hc
  go_enter Try.func34, Try.ntmps34
  go_wp2
  go_loopg [3, 16] (ll.length) (fun gk nv jv wr => ∃ (j : Nat), jv = .int .i64 j ∧ nv = .int .i64 (1 + sumS ll j) ∧ 0 ≤ sumS ll j ∧ sumS ll j ≤ 1000000 * j ∧ j ≤ ll.length ∧ (∀ q, q < j → Chk (ll.getD q [])) ∧ Below w.heap.size w wr ∧ gk = ll.length - j)
  case atStart => exact ⟨0, rfl, rfl, by simp [sumS], by simp [sumS], Nat.zero_le _, fun q hq => absurd hq (Nat.not_lt_zero q), Below.refl _ _, rfl⟩
  case round =>
    obtain ⟨j, rfl, rfl, hs0, hs1, hj, hall, hbel, rfl⟩ := hrel
    have HA := Lib.hid hall
    have HBW := Lib.hid hbel
    clear hall hbel
    by_cases hlt : j < ll.length
    · obtain ⟨u, hcu, hnu⟩ := HC.out j hlt
      have hb := HB.out (by omega)
      have hcw := (HBW.out.cell (p := ⟨b, off + j, none⟩) hb).trans hcu
      have hbw : b < wr.heap.size := by have := HBW.out.size; omega
      have HN := Lib.hid (hnu.up HBW.out)
      have HCH := Lib.hid (checkP HN.out)
      have hsl := sizeL_le (ll.getD j [])
      have hss := HSS.out j hlt
      generalize sumS ll j = s at *
      clear hcu hnu
      by_cases hck : Chk (ll.getD j [])
      · rw [codeChk_pos hck] at HCH
        have HK := Lib.hid hck
        have HSZ := Lib.hid (fun x1 => sizeTopP (HN.out.up (ext_below wr x1)))
        generalize sizeL (ll.getD j []) = t at *
        have HSN := Lib.hid hss
        clear hck hss
        go_wp2_with (first | ((with_reducible go_at_call 51); refine HCH.out.mono ?_; rintro en w' ⟨rfl, x1, rfl⟩) | ((with_reducible go_at_call 52); refine (HSZ.out x1).mono ?_; rintro en w' ⟨rfl, x2, rfl⟩))
        go_roundg (ll.length - (j + 1))
        case measure => omega
        case rel =>
          refine ⟨j + 1, by go_num, ?_, ?_, ?_, by omega, fun q hq => ?_, b_ext (b_ext' HBW.out x1) (Nat.le_trans HBW.out.size (size_ext _ _)) x2, rfl⟩
          · rw [HSN.out]; go_num
          · rw [HSN.out]; omega
          · rw [HSN.out]; omega
          · by_cases hqj : q = j
            · rw [hqj]; exact HK.out
            · exact HA.out q (by omega)
      · rw [codeChk_neg hck] at HCH
        have HV : Hid (R = 4) := Lib.hid (by rw [HR.out, if_pos (fun h => hck (h _ (by simp [List.getD, hlt])))])
        clear hck
        go_wp2_with ((with_reducible go_at_call 51); refine HCH.out.mono ?_; rintro en w' ⟨rfl, x1, rfl⟩)
        go_ret
        exact ⟨by rw [HV.out]; rfl, ex_ext (b_ext' HBW.out x1)⟩
    · have hje : j = ll.length := by omega
      subst hje
      have HALL : Hid (∀ l ∈ ll, Chk l) := Lib.hid (fun l hl => by
        obtain ⟨q, hq, rfl⟩ := List.getElem_of_mem hl
        have := HA.out q hq
        simpa [List.getD, hq] using this)
      have hsum := HSA.out
      generalize sumS ll ll.length = s at *
      by_cases h3 : 3000 < 1 + s
      · have HV : Hid (R = 3) := Lib.hid (by rw [HR.out, if_neg (fun h => h HALL.out), ← hsum, if_pos h3])
        clear hsum
        go_wp2
        go_ret
        exact ⟨by rw [HV.out]; rfl, ex_ext HBW.out⟩
      · have HV : Hid (R = 0) := Lib.hid (by rw [HR.out, if_neg (fun h => h HALL.out), ← hsum, if_neg h3])
        clear hsum
        go_wp2
        go_ret
        exact ⟨by rw [HV.out]; rfl, ex_ext HBW.out⟩
end Go.Cm

/- The walks of the document's count of states, and of whether trees are few. Conditions: none. -/
namespace Go.Cm
open Go.RowKit Go.Proofs

/-- how many states there are; 0: if something is wrong -/
noncomputable def makesL (ll : List (List Nd)) : Int := if mayL ll = 0 then 1 + (ll.map sizeL).sum else 0

set_option maxRecDepth 100000 in
theorem fewR {w : World} {v : Value} {ll : List (List Nd)} (h : TreesAt w v ll) (m : Int) :
    Calls Try.prog 13 #[v, .int .i64 m] w fun e w' => (∃ b : Bool, e = .returned (.bool b)) ∧ ∃ x, w' = ext w x := by
  obtain ⟨oa, cap, b, off, rfl, hd, hc⟩ := h.open
  have hix := index_tree hd
  have hm := hd.len
  have HB := Lib.hid hd.hblk
  have HC := Lib.hid hc
  by_cases h1 : 40 < ll.length
  · clear h hd hc
    go_enter Try.func13, Try.ntmps13
    go_wp2
    go_ret
    exact ⟨⟨_, rfl⟩, refl_ext _⟩
  clear h hd hc
  have hb1 : decide ((40 : Int) < ll.length) = false := by simp; omega
  go_enter Try.func13, Try.ntmps13
  go_wp2
  go_loopg [5, 6] (ll.length) (fun gk nv jv wr => ∃ (j : Nat) (s : Int), jv = .int .i64 j ∧ nv = .int .i64 s ∧ 0 ≤ s ∧ s ≤ 100000 * j ∧ j ≤ ll.length ∧ Below w.heap.size w wr ∧ gk = ll.length - j)
  case atStart => exact ⟨0, 0, rfl, rfl, by omega, by omega, Nat.zero_le _, Below.refl _ _, rfl⟩
  case round =>
    obtain ⟨j, s, rfl, rfl, hs0, hs1, hj, hbel, rfl⟩ := hrel
    have HBW := Lib.hid hbel
    clear hbel
    by_cases hlt : j < ll.length
    · obtain ⟨u, hcu, hnu⟩ := HC.out j hlt
      have hb := HB.out (by omega)
      have hcw := (HBW.out.cell (p := ⟨b, off + j, none⟩) hb).trans hcu
      have hbw : b < wr.heap.size := by have := HBW.out.size; omega
      have HN := Lib.hid (hnu.up HBW.out)
      have HCH := Lib.hid (checkR HN.out)
      obtain ⟨o2, c2, b2, f2, rfl, hd2, -⟩ := hnu.open
      have hm2 := hd2.len
      clear hcu hnu hd2
      by_cases h5 : 500 < (ll.getD j []).length
      · generalize (ll.getD j []).length = n5 at *
        go_wp2
        go_ret
        exact ⟨⟨_, rfl⟩, ex_ext HBW.out⟩
      · by_cases hck : Chk (ll.getD j [])
        · rw [codeChk_pos hck] at HCH
          obtain ⟨x, k, c1, c2', c3, c4, c5, c6, c7, -⟩ := chk_facts hck
          have HSZ := Lib.hid (fun x1 => weightR 400 (ext wr x1) _ _ [] x k 0 c7 (HN.out.up (ext_below wr x1)) c6 c1 c2' c3 c4 c5)
          rw [show ((0 : Nat) : Int) = 0 from rfl] at HSZ
          clear hck c1 c2' c3 c4 c5 c6 c7 HN
          generalize (ll.getD j []).length = n5 at *
          go_wp2_with (first | ((with_reducible go_at_call 32); refine HCH.out.mono ?_; rintro en w' ⟨rfl, x1, rfl⟩; have hbw1 : b < (ext wr x1).heap.size := Nat.lt_of_lt_of_le hbw (size_ext _ _)) | ((with_reducible go_at_call 33); refine (HSZ.out x1).mono ?_; rintro en w' ⟨n, rfl, hn0, hn1, x2, rfl⟩))
          go_roundg (ll.length - (j + 1))
          case measure => omega
          case rel =>
            exact ⟨j + 1, s + n, by go_num, by go_num, by omega, by omega, by omega, b_ext (b_ext' HBW.out x1) (Nat.le_trans HBW.out.size (size_ext _ _)) x2, rfl⟩
        · rw [codeChk_neg hck] at HCH
          clear hck HN
          generalize (ll.getD j []).length = n5 at *
          go_wp2_with ((with_reducible go_at_call 32); refine HCH.out.mono ?_; rintro en w' ⟨rfl, x1, rfl⟩)
          go_roundg (ll.length - (j + 1))
          case measure => omega
          case rel =>
            exact ⟨j + 1, s, by go_num, rfl, by omega, by omega, by omega, b_ext' HBW.out x1, rfl⟩
    · go_wp2
      go_ret
      exact ⟨⟨_, rfl⟩, ex_ext HBW.out⟩
end Go.Cm
