/- Texts of this claim, joined: walks of small functions and plain facts about them. Conditions: as each says. -/
import Derived.Test.YtfnkhcibcffcmaaGW
import Derived.Test.YtfnkhcibcffcmaaGL
import Derived.Test.YtfnkhcibcffcmaaGX
/- Of a small automaton there are few lists of states; what the known one tells, in plain Lean. Conditions: none. -/
namespace Go.Cm

theorem nodup_len {α : Type} [DecidableEq α] : ∀ {l m : List α}, l.Nodup → (∀ x ∈ l, x ∈ m) → l.length ≤ m.length
  | [], _, _, _ => Nat.zero_le _
  | a :: l, m, h1, h2 => by
    have h3 := List.nodup_cons.1 h1
    have ha := h2 a List.mem_cons_self
    have ih := nodup_len (l := l) (m := m.erase a) h3.2 (fun x hx => (List.mem_erase_of_ne (fun e => h3.1 (by rw [← e]; exact hx))).2 (h2 x (List.mem_cons_of_mem _ hx)))
    rw [List.length_erase_of_mem ha] at ih
    have := List.length_pos_of_mem ha
    rw [List.length_cons]
    omega
def pwN : Nat → List (List Nat)
  | 0 => [[]]
  | n + 1 => pwN n ++ (pwN n).map (· ++ [n])
theorem pwN_len : ∀ n, (pwN n).length = 2 ^ n
  | 0 => rfl
  | n + 1 => by rw [pwN, List.length_append, List.length_map, pwN_len n, Nat.pow_succ]; omega
theorem setL_pw : ∀ (n : Nat) (P : Nat → Prop), setL n P ∈ pwN n
  | 0, P => by unfold setL; simp [pwN]
  | n + 1, P => by
    rw [setL_succ, pwN]
    split
    · exact List.mem_append_right _ (List.mem_map.2 ⟨_, setL_pw n P, rfl⟩)
    · rw [List.append_nil]; exact List.mem_append_left _ (setL_pw n P)
theorem fold_nodup {α : Type} [DecidableEq α] : ∀ {l ks : List α}, ks.Nodup → (l.foldl addNew ks).Nodup
  | [], _, h => h
  | _ :: l, _, h => fold_nodup (l := l) (addNew_nodup h)
theorem fold_all {α : Type} [DecidableEq α] {P : α → Prop} : ∀ {l ks : List α}, (∀ x ∈ l, P x) → (∀ x ∈ ks, P x) → ∀ x ∈ l.foldl addNew ks, P x
  | [], _, _, h => h
  | a :: l, _, hl, h => fold_all (l := l) (fun x hx => hl x (List.mem_cons_of_mem _ hx)) (fun x hx => (addNew_mem.1 hx).elim (h x) (fun e => e ▸ hl a List.mem_cons_self))
theorem goS_some {α : Type} [DecidableEq α] (nx : α → List α) (z : α) (M : List α) (hM : M.length ≤ 1000) (hnx : ∀ L x, x ∈ nx L → x ∈ M) : ∀ f i ls, i + f = 1001 → i ≤ ls.length → ls.Nodup → (∀ x ∈ ls, x ∈ M) → ∃ R, goS nx z f i ls = some R := by
  intro f
  induction f with
  | zero => intro i ls h1 h2 h3 h4; have := nodup_len h3 h4; omega
  | succ f ih =>
    intro i ls h1 h2 h3 h4
    unfold goS
    by_cases hlt : i < ls.length
    · rw [if_pos hlt]
      have h5 := fold_nodup (l := nx (ls.getD i z)) h3
      have h6 := fold_all (P := (· ∈ M)) (l := nx (ls.getD i z)) (hnx _) h4
      have h7 := nodup_len h5 h6
      rw [if_neg (by omega)]
      obtain ⟨k, hk⟩ := foldl_addNew_prefix (nx (ls.getD i z)) ls
      exact ih (i + 1) _ (by omega) (by rw [hk, List.length_append]; omega) h5 h6
    · exact ⟨ls, if_neg hlt⟩
theorem clo_pw (e : List (List Ed)) (F : Int) (r st : List Int) : cloN e F r st ∈ pwN e.length := by
  unfold cloN
  split
  · exact setL_pw _ _
  · have := setL_pw e.length (fun _ => False)
    rwa [show setL e.length (fun _ => False) = [] from List.eq_nil_iff_forall_not_mem.2 fun x hx => (mem_setL.1 hx).2] at this
theorem step_pw (e : List (List Ed)) (F : Int) (r st : List Int) (c : Nat) : stepG e F r st c ∈ pwN e.length := by
  unfold stepG stepN
  split
  · exact setL_pw _ _
  · have := setL_pw e.length (fun _ => False)
    rwa [show setL e.length (fun _ => False) = [] from List.eq_nil_iff_forall_not_mem.2 fun x hx => (mem_setL.1 hx).2] at this
theorem lists_small {e : List (List Ed)} (F : Int) (r : List Int) (h : e.length ≤ 9) : ∃ R, listsN e F r = some R := by
  have hp : 2 ^ e.length ≤ 2 ^ 9 := Nat.pow_le_pow_right (by decide) h
  refine goS_some (nxtN e F r) [] (pwN e.length) (by rw [pwN_len]; omega) (fun L x hx => ?_) 1001 0 _ rfl (Nat.zero_le _) (by simp) (fun x hx => by rw [List.mem_singleton.1 hx]; exact clo_pw e F r [F])
  obtain ⟨c, -, rfl⟩ := List.mem_map.1 hx
  exact step_pw e F r _ c
def kS : St := mkF [.cons ⟨4, 2, 0, 0, 0, 0, 0, 0⟩ kAB .nil, .cons (setNd 17179869184) .nil .nil] 2
theorem mkK : mkS [treeAB, treeB] 2 = kS := by
  unfold mkS kS
  rw [List.map_cons, List.map_cons, List.map_nil, treeAB_of, treeB_of]
theorem headK : (headN (mkS [treeAB, treeB] 2).e).length = 3 := by
  rw [mkK]
  decide +kernel
def txC : ByteArray := ⟨#[99]⟩
theorem runKc : runN (mkS [treeAB, treeB] 2).e 0 (mkS [treeAB, treeB] 2).r (txt txC) = [] :=
  runK _ (fun _ => false) ⟨fun h => by
    obtain ⟨c, h1, h2⟩ := (langAB _).1 h
    obtain rfl : 99 = c := by simpa [txt, txC] using h1
    exact absurd h2 (by decide), fun h => absurd h (by decide)⟩ ⟨fun h => by
    obtain ⟨c, h1, h2⟩ := (langB _).1 h
    obtain rfl : 99 = c := by simpa [txt, txC] using h1
    exact absurd h2 (by decide), fun h => absurd h (by decide)⟩
/-- the known automaton without choices -/
theorem subK : ∃ D, subI (mkS [treeAB, treeB] 2).e 0 (mkS [treeAB, treeB] 2).r = D ∧ subE (mkS [treeAB, treeB] 2).e 0 (mkS [treeAB, treeB] 2).r = 0 ∧ afterI D txA.data.toList = 0 ∧ afterI D txB.data.toList = 0 ∧ afterI D txC.data.toList = -1 := by
  obtain ⟨R, hR⟩ := lists_small 0 (mkS [treeAB, treeB] 2).r (e := (mkS [treeAB, treeB] 2).e) (by rw [lenK]; exact Nat.le_refl _)
  refine ⟨_, rfl, ?_, ?_, ?_, ?_⟩
  · unfold subE; rw [if_pos rightK, hR]
  all_goals
    unfold subI
    rw [if_pos rightK, hR]
    simp only
    rw [after_told rightK hR]
  · have h := runKa
    unfold txt at h
    rw [h]; rfl
  · have h := runKb
    unfold txt at h
    rw [h]; rfl
  · have h := runKc
    unfold txt at h
    rw [h]; rfl
end Go.Cm

/- The walks of small and of what must come of fixed calls. Conditions: none. -/
namespace Go.Cm
open Go.RowKit Go.Proofs

set_option maxRecDepth 100000 in
theorem smallN {w : World} {A : Array Value} {e : List (List Ed)} {F : Int} {r : List Int} (h : NfaV w A e F r) :
    Calls Try.prog 6 #[.agg A, .int .i64 150] w fun en w' => (∃ b : Bool, en = .returned (.bool b) ∧ (b = true → tot e ≤ 150 ∧ e.length ≤ 3100)) ∧ ∃ x, w' = ext w x := by
  have HH := Lib.hid h
  obtain ⟨ve, vr, rfl, he, hr⟩ := h
  obtain ⟨oe, ce, be, fe, rfl, -, -⟩ := he.open
  obtain ⟨orr, cr, br, fr, rfl, -, -⟩ := hr.open
  obtain ⟨n, hn⟩ : ∃ n, n = e.length := ⟨_, rfl⟩
  obtain ⟨m, hm⟩ : ∃ m, m = r.length := ⟨_, rfl⟩
  rw [← hn, ← hm] at HH ⊢
  have HN := Lib.hid hn
  clear he hr hn hm
  have HA := Lib.hid (below_alloc w (.cells #[.slice oe n ce, .int .i64 F, .slice orr m cr] 25))
  have HED := Lib.hid (edgesR (HH.out.up HA.out))
  go_enter Try.func6, Try.ntmps6
  go_upto_region 2 with ((with_reducible go_at_call 18); refine HED.out.mono ?_; rintro en w1 ⟨⟨k, rfl, hk⟩, x1, rfl⟩; have HK := Lib.hid hk; clear hk)
  have HB1 := Lib.hid (HA.out.trans ((ext_below _ x1).mono HA.out.size))
  generalize ext (w.alloc (.cells #[.slice oe n ce, .int .i64 F, .slice orr m cr] 25)) x1 = w1 at *
  by_cases hk0 : 0 ≤ k
  · by_cases hk1 : k ≤ 150
    · have HR := Lib.hid (HK.out hk0)
      go_wp2
      go_ret
      exact ⟨⟨true, rfl, fun _ => ⟨by have := HR.out.1; omega, by have := HR.out.2; have := HN.out; omega⟩⟩, ex_ext HB1.out⟩
    · go_wp2
      go_ret
      first | exact ⟨⟨false, rfl, fun h => by cases h⟩, ex_ext HB1.out⟩ | exact ⟨.inl rfl, ex_ext HB1.out⟩
  · go_wp2
    go_ret
    first | exact ⟨⟨false, rfl, fun h => by cases h⟩, ex_ext HB1.out⟩ | exact ⟨.inl rfl, ex_ext HB1.out⟩
theorem rightNil : rightN [] 0 [] = false := by
  cases h : rightN [] 0 [] with
  | false => rfl
  | true =>
    obtain ⟨h1, -⟩ := rightN_iff.1 h
    exact absurd (of_decide_eq_true h1) (by decide)
theorem subNil : subI [] 0 [] = zeroD ∧ subE [] 0 [] = 4 := by
  unfold subI subE
  rw [rightNil]
  exact ⟨rfl, rfl⟩
theorem nfaNil (w : World) : NfaV w #[.slice none 0 0, .int .i64 0, .slice none 0 0] [] 0 [] := ⟨_, _, rfl, ⟨[], Sl.nil _, rfl, fun i hi => absurd hi (Nat.not_lt_zero i)⟩, Sl.nil _⟩
theorem subMakeNil (w : World) : Calls Try.prog 10 #[.agg #[.slice none 0 0, .int .i64 0, .slice none 0 0]] w fun en w' => ∃ C, en = .returned (.tuple #[.agg C, .int .i64 4]) ∧ DfaV w' C zeroD ∧ Below w.heap.size w w' := by
  refine (subMakeP (nfaNil w) (fun a x hx => by simp [Row] at hx) (by decide)).mono ?_
  rintro en w' ⟨v, rfl, ⟨C, rfl, hv⟩, hb⟩
  rw [subNil.2]
  rw [subNil.1] at hv
  exact ⟨C, rfl, hv, hb⟩
set_option maxRecDepth 100000 in
set_option maxHeartbeats 8000000 in
theorem known19 {w : World} : Calls Try.prog 7 #[] w fun e w' => e = .returned (.bool true) ∧ ∃ x, w' = ext w x := by
  have hab : (⟨#[97, 124, 98]⟩ : ByteArray) = txAB := rfl
  have hz := zero_dfa
  have hzc := zero_cls
  obtain ⟨Z, hZ⟩ : ∃ Z, Z = zArr := ⟨_, rfl⟩
  obtain ⟨ZC, hZC⟩ : ∃ ZC, ZC = zCls := ⟨_, rfl⟩
  rw [← hZ] at hz
  rw [← hZC] at hzc
  have HBN : Hid (∀ W : World, BoxD (W.alloc (.cells Z 33)) W.heap.size (.slice none 0 0) (.slice none 0 0) (List.replicate 256 0)) := Lib.hid (fun W => hZ ▸ box_new W)
  have HBZ : Hid (∀ w : World, BoxA (w.alloc (.cells ZC 28)) 28 256 w.heap.size (List.replicate 256 0)) := Lib.hid (fun w => boxZ w ZC hZC)
  clear hZ hZC
  go_enter Try.func7, Try.ntmps7
  go_upto_region 2 with ((with_reducible go_at_call 19); refine parseAB.mono ?_; rintro en w1 ⟨ua, rfl, hna, hb⟩; have HNA := Lib.hid hna; have HB1 := Lib.hid hb; clear hna hb)
  go_upto_region 3 with ((with_reducible go_at_call 19); refine parseB.mono ?_; rintro en w2 ⟨ub, rfl, hnb, hb⟩; have HNB := Lib.hid hnb; have HB2 := Lib.hid hb; clear hnb hb)
  have HW2 := Lib.hid (HB1.out.trans (HB2.out.mono HB1.out.size))
  have HNA2 := Lib.hid (HNA.out.up HB2.out)
  have HT := Lib.hid (makeP (trees_two' HNA2.out HNB.out))
  rw [mayAB] at HT
  obtain ⟨D, K1, K2, K3, K4, K5⟩ := subK
  have K6 := headK
  have K7 := rightK
  have K8 := (made mayAB quAB).few
  have K9 : ∀ a x, x ∈ Row (mkS [treeAB, treeB] 2).e a → EdW x := fun a x hx => ((made mayAB quAB).edq a x hx).2
  rw [show ([treeAB, treeB] : List (List Nd)).length = 2 from rfl] at HT K8
  generalize (mkS [treeAB, treeB] 2).e = e9 at *
  generalize (mkS [treeAB, treeB] 2).r = r9 at *
  have HK1 := Lib.hid K1
  have HK2 := Lib.hid K2
  have HK3 := Lib.hid K3
  have HK4 := Lib.hid K4
  have HK5 := Lib.hid K5
  have HK6 : Hid (cntO e9 0 r9 = 3) := Lib.hid (by unfold cntO; rw [if_pos K7, K6])
  have HK8 := Lib.hid K8
  have HK9 := Lib.hid K9
  clear K1 K2 K3 K4 K5 K6 K7 K8 K9
  obtain ⟨ob, cb, rfl⟩ := HNB.out.form
  rw [show treeB.length = 1 from rfl] at *
  obtain ⟨oa, ca, rfl⟩ := HNA2.out.form
  rw [show treeAB.length = 3 from rfl] at *
  have HA3 := Lib.hid (below_alloc w2 (.cells #[.slice oa 3 ca, .slice ob 1 cb] 48))
  go_upto_region 4 with ((with_reducible go_at_call 14); refine HT.out.mono ?_; rintro en w3 ⟨A, rfl, h1, -, hb⟩; obtain ⟨ve, vr, rfl, he, hr⟩ := h1 (by first | rfl | trivial); have HV := Lib.hid (show NfaV w3 #[ve, .int .i64 0, vr] _ 0 _ from ⟨ve, vr, rfl, he, hr⟩); have HB3 := Lib.hid (HA3.out.trans (hb.mono HA3.out.size)); obtain ⟨oe, ce, be, fe, rfl, -, -⟩ := he.open; obtain ⟨orr, cr, br, fr, rfl, -, -⟩ := hr.open; clear he hr hb h1)
  obtain ⟨el, hel⟩ : ∃ el, el = e9.length := ⟨_, rfl⟩
  obtain ⟨rl, hrl⟩ : ∃ rl, rl = r9.length := ⟨_, rfl⟩
  rw [← hrl, ← hel] at HV ⊢
  clear hrl hel HT
  have HA4 := Lib.hid (below_alloc w3 (.cells #[.slice oe el ce, .int .i64 0, .slice orr rl cr] 25))
  have HBX := Lib.hid (by simpa using own_lit w3 0 #[.slice oe el ce, .int .i64 0, .slice orr rl cr] 25 (by simp) (Nat.zero_le _) : Own (w3.alloc (.cells #[.slice oe el ce, .int .i64 0, .slice orr rl cr] 25)) 0 25 (.slice (some ⟨w3.heap.size, 0, none⟩) 3 3) [.slice oe el ce, .int .i64 0, .slice orr rl cr])
  have HV4 := Lib.hid (HV.out.up HA4.out)
  have HB4 := Lib.hid (HB3.out.trans (HA4.out.mono HB3.out.size))
  clear HA4 HV HB3 HA3 HNA HNB HNA2
  generalize w3.alloc (.cells #[.slice oe el ce, .int .i64 0, .slice orr rl cr] 25) = w4 at *
  generalize w3.heap.size = p at *
  have HS := Lib.hid (subMakeP HV4.out HK9.out (by have := HK8.out; omega))
  unfold RetSub at HS
  rw [HK1.out, HK2.out] at HS
  have HCL := Lib.hid (fun (x : World) (hx : Below w4.heap.size w4 x) => classesP (HV4.out.up hx) HK9.out (by have := HK8.out; omega))
  unfold RetCls at HCL
  have HCE : Hid ((clsO e9 0 r9).length = 256) := Lib.hid (clsO_len _ _ _)
  generalize clsO e9 0 r9 = CO at *
  rw [HK6.out] at HCL
  go_upto_region 5 with (first
    | (refine wpList_load_cells rfl 25 _ rfl p 0 3 rfl _ _ (nfaBox HBX.out) rfl Try.underlying25 rfl (by kernel_rfl) ?_)
    | ((with_reducible go_at_call 10); (with_reducible refine HS.out.mono ?_); rintro en w5 ⟨v5, rfl, ⟨C5, rfl, hv5⟩, hb5⟩; have HV5 := Lib.hid hv5; have HB5 := Lib.hid hb5; clear hv5 hb5)
    | (refine store_new rfl _ _ rfl w5.heap.size rfl C5 rfl HV5.out (HBN.out w5) ?_; intro w6 hg6 hgr6; have HN6 := Lib.hid (DfaIn.new HV5.out hg6 hgr6); clear hg6 hgr6))
  have HW6 := Lib.hid (HB5.out.trans (HN6.out.2.mono HB5.out.size))
  have HBX6 := Lib.hid (HBX.out.up HW6.out)
  have HC6 := Lib.hid (HCL.out w6 HW6.out)
  have HD6 := Lib.hid HN6.out.1
  generalize w5.heap.size = q at *
  clear HS HCL HBX HN6 HB5 HV5
  go_upto_region 6 with (first
    | (refine wpList_load_cells rfl 25 _ rfl p 0 3 rfl _ _ (nfaBox HBX6.out) rfl Try.underlying25 rfl (by kernel_rfl) ?_)
    | ((with_reducible go_at_call 8); (with_reducible refine HC6.out.mono ?_); rintro en w7 ⟨rfl, hb7⟩; have HB7 := Lib.hid hb7; clear hb7)
    | (refine store_box rfl 28 256 _ _ rfl w7.heap.size rfl _ CO rfl HCE.out (by kernel_rfl) (HBZ.out w7) ?_; intro w8 hb8 hg8; have HB8 := Lib.hid ((below_alloc w7 (.cells ZC 28)).grown hg8 (by simp) (fun j hj => by cases hj; exact Nat.le_refl _)); clear hb8 hg8))
  have HW8 := Lib.hid (HW6.out.trans ((HB7.out.trans (HB8.out.mono HB7.out.size)).mono HW6.out.size))
  have HD8 := Lib.hid (HD6.out.up (HB7.out.trans (HB8.out.mono HB7.out.size)))
  have HSN := Lib.hid (subMakeNil w8)
  clear HD6 HC6 HBX6 HW6 HBZ HB7 HB8 hzc
  go_upto_region 7 with (first
    | ((with_reducible go_at_call 10); (with_reducible refine HSN.out.mono ?_); rintro en w9 ⟨C9, rfl, hv9, hb9⟩; have HV9 := Lib.hid hv9; have HB9 := Lib.hid hb9; clear hv9 hb9)
    | (refine store_new rfl _ _ rfl w9.heap.size rfl C9 rfl HV9.out (HBN.out w9) ?_; intro w10 hg10 hgr10; have HN10 := Lib.hid (DfaIn.new HV9.out hg10 hgr10); clear hg10 hgr10))
  have HB10 := Lib.hid (HB9.out.trans (HN10.out.2.mono HB9.out.size))
  have HW10 := Lib.hid (HW8.out.trans (HB10.out.mono HW8.out.size))
  have HD10 := Lib.hid (HD8.out.up HB10.out)
  clear HSN HBN hz HV9 HB9 HN10 HD8
  have HAF := Lib.hid (fun (x : World) (hx : Below w10.heap.size w10 x) (s : ByteArray) (hs : s.size ≤ 1000) => after (.agg C5) D s x ⟨C5, rfl, (HD10.out.up hx).2⟩ (by omega))
  have HC5 := Lib.hid HD10.out.2.hsize
  go_wp2_with (fail)
  refine op_load_dfa _ rfl q rfl C5 HC5.out HD10.out.1 ?_
  go_wp2_with (fail)
  refine (HAF.out _ (Below.refl _ _) ⟨#[97]⟩ (by decide)).mono ?_
  rintro en w11 ⟨rfl, x11, rfl⟩
  rw [show afterI D (ByteArray.mk #[97]).data.toList = 0 from HK3.out]
  have HB11 := Lib.hid (ext_below w10 x11)
  generalize ext w10 x11 = w11 at *
  have HG11 := Lib.hid (HD10.out.up HB11.out).1
  go_wp2_with (fail)
  refine op_load_dfa _ rfl q rfl C5 HC5.out HG11.out ?_
  go_wp2_with (fail)
  refine (HAF.out _ HB11.out ⟨#[98]⟩ (by decide)).mono ?_
  rintro en w12 ⟨rfl, x12, rfl⟩
  rw [show afterI D (ByteArray.mk #[98]).data.toList = 0 from HK4.out]
  have HB12 := Lib.hid (HB11.out.trans ((ext_below w11 x12).mono HB11.out.size))
  generalize ext w11 x12 = w12 at *
  have HG12 := Lib.hid (HD10.out.up HB12.out).1
  go_wp2_with (fail)
  refine op_load_dfa _ rfl q rfl C5 HC5.out HG12.out ?_
  go_wp2_with (fail)
  refine (HAF.out _ HB12.out ⟨#[99]⟩ (by decide)).mono ?_
  rintro en w13 ⟨rfl, x13, rfl⟩
  rw [show afterI D (ByteArray.mk #[99]).data.toList = -1 from HK5.out]
  have HB13 := Lib.hid (HB12.out.trans ((ext_below w12 x13).mono HB12.out.size))
  generalize ext w12 x13 = w13 at *
  go_wp2_with (fail)
  go_ret
  exact ⟨rfl, ex_ext (HW2.out.trans ((HB4.out.trans ((HW10.out.trans (HB13.out.mono HW10.out.size)).mono HB4.out.size)).mono HW2.out.size))⟩
end Go.Cm
