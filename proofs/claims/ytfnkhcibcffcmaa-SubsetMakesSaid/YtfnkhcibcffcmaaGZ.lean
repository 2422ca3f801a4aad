/- Texts of this claim, joined: walks of small functions and plain facts about them. Conditions: as each says. -/
import Derived.Test.YtfnkhcibcffcmaaGW
import Derived.Test.YtfnkhcibcffcmaaGX
import Derived.Test.YtfnkhcibcffcmaaGV
import Derived.Test.YtfnkhcibcffcmaaGN
import Derived.Test.YtfnkhcibcffcmaaGY
/- The document's lists and automaton in the making, side by side in memory. Conditions: none. -/
namespace Go.Cm
open Go.RowKit Go.Proofs

/-- the lists, the automaton in the making, each apart -/
structure ListN (w : World) (B : Nat) (lv : Value) (vs : List Value) (R : List (List Nat)) (g : Nat) (nv : Value) (nvs : List Value) (rv : Value) (cl : List Int) (rows : List (List Int)) (rules : List Int) : Prop where
  ls : OwnM w B 23 3 lv vs (cellsL R)
  db : DbN w B g nv nvs rv cl rows rules
  ap : ∀ k, ¬ OwnM.free lv vs (some k) → ¬ DbF g nv nvs rv k
section
variable {w w1 w2 : World} {B g : Nat} {lv nv rv v' : Value} {vs nvs : List Value} {R : List (List Nat)} {cl : List Int} {rows : List (List Int)} {rules : List Int}
theorem ListN.gw {S S' : Nat → Prop} (h : ListN w B lv vs R g nv nvs rv cl rows rules) (hg : Gw S w S' w1) (h1 : ∀ k, S k → OwnM.free lv vs (some k)) (h2 : ∀ k, S k → ¬ DbF g nv nvs rv k) : ListN w1 B lv vs R g nv nvs rv cl rows rules := ⟨h.ls.gw hg h1, h.db.gw hg h2, h.ap⟩
theorem ListN.up (h : ListN w B lv vs R g nv nvs rv cl rows rules) (hb : Below w.heap.size w w1) : ListN w1 B lv vs R g nv nvs rv cl rows rules := ⟨h.ls.up hb, h.db.up hb, h.ap⟩
/-- one more list: a slice that lies apart from all that is here -/
theorem ListN.push (h : ListN w B lv vs R g nv nvs rv cl rows rules) {x : Value} {L : List Nat} (hx : Own w B 3 x (ints (nz L))) (hf : OwnM.free lv vs x.ownBlock) (hd : ∀ k, x.ownBlock = some k → ¬ DbF g nv nvs rv k) (hb : Below w.heap.size w w1) (ho : Own w2 B 23 v' (vs ++ [x])) (hg : w1.grownBy w2 lv.ownBlock) (hk : ∀ k, v'.ownBlock = some k → lv.ownBlock = some k ∨ w1.heap.size ≤ k) :
    ListN w2 B v' (vs ++ [x]) (R ++ [L]) g nv nvs rv cl rows rules := by
  have hp := h.ls.push hx hf (grown_below hb none) ho hg hk
  have hcl : cellsL R ++ [ints (nz L)] = cellsL (R ++ [L]) := by simp [cellsL]
  rw [hcl] at hp
  have hs1 := hb.size
  have hlv : ∀ k, lv.ownBlock = some k → ¬ DbF g nv nvs rv k := fun k hk => h.ap k fun hf => hf.1 k hk rfl
  refine ⟨hp, (h.db.up hb).gw (gw_grown (S := fun k => lv.ownBlock = some k) (S' := fun k => lv.ownBlock = some k) hg (fun _ h => h) (fun _ h => .inl h)) hlv, fun k hnf hdk => ?_⟩
  have hlt := (h.db.ltF k hdk).2
  refine hnf (free_push ?_ (fun e => hd k e hdk) hk (by omega))
  exact Classical.byContradiction fun h1 => h.ap k h1 hdk
theorem ListN.pushRow (h : ListN w B lv vs R g nv nvs rv cl rows rules) {row : Value} {x : List Int} (hr : Own w B 3 row (ints x)) (hf : ∀ k, row.ownBlock = some k → ¬ DbF g nv nvs rv k ∧ OwnM.free lv vs (some k)) (hb : Below w.heap.size w w1) (ho : Own w2 B 23 v' (nvs ++ [row])) (hg : w1.grownBy w2 nv.ownBlock) (hk : ∀ k, v'.ownBlock = some k → nv.ownBlock = some k ∨ w1.heap.size ≤ k) :
    ListN (w2.setCell ⟨g, 256, none⟩ v') B lv vs R g v' (nvs ++ [row]) rv cl (rows ++ [x]) rules ∧ Below B w (w2.setCell ⟨g, 256, none⟩ v') := by
  obtain ⟨h1, h2⟩ := h.db.pushRow hr (fun k hk => (hf k hk).1) hb ho hg hk
  have hB : ∀ k, (DbF g nv nvs rv k ∨ row.ownBlock = some k) → B ≤ k ∧ k < w.heap.size := fun k hk => hk.elim (h.db.ltF k) (hr.lt k)
  refine ⟨⟨h.ls.gw h2 (fun k hk => ?_), h1, fun k hm hd => ?_⟩, h2.below (by have := (h.db.ltF g (.inl rfl)); omega) fun k hk => (hB k hk).1⟩
  · rcases hk with hk | hk
    · exact Classical.byContradiction fun h3 => h.ap k h3 hk
    · exact (hf k hk).2
  · rcases h2.sub k hd with h3 | h3
    · rcases h3 with h3 | h3
      · exact h.ap k hm h3
      · exact hm (hf k h3).2
    · have := (h.ls.blkF hm).2; omega
theorem ListN.pushRule (h : ListN w B lv vs R g nv nvs rv cl rows rules) {x : Int} (hb : Below w.heap.size w w1) (ho : Own w2 B 3 v' (ints (rules ++ [x]))) (hg : w1.grownBy w2 rv.ownBlock) (hk : ∀ k, v'.ownBlock = some k → rv.ownBlock = some k ∨ w1.heap.size ≤ k) :
    ListN (w2.setCell ⟨g, 257, none⟩ v') B lv vs R g nv nvs v' cl rows (rules ++ [x]) ∧ Below B w (w2.setCell ⟨g, 257, none⟩ v') := by
  obtain ⟨h1, h2⟩ := h.db.pushRule hb ho hg hk
  refine ⟨⟨h.ls.gw h2 (fun k hk => Classical.byContradiction fun h3 => h.ap k h3 hk), h1, fun k hm hd => ?_⟩, h2.below (by have := (h.db.ltF g (.inl rfl)); omega) fun k hk => (h.db.ltF k hk).1⟩
  rcases h2.sub k hd with h3 | h3
  · exact h.ap k hm h3
  · have := (h.ls.blkF hm).2; omega
end
end Go.Cm

/- The walk of the document's Make. Conditions: the edges' sets are words -/
namespace Go.Cm
open Go.RowKit Go.Proofs

/-- the row so far -/
noncomputable def midP (e : List (List Ed)) (F : Int) (r : List Int) (i : Nat) (R : List (List Nat)) (j : Nat) : List Int := ((nxtN e F r (R.getD i [])).take j).map (fun x => (idx (midR e F r i R j) x : Int))
theorem midP_row (e : List (List Ed)) (F : Int) (r : List Int) (i : Nat) (R : List (List Nat)) (j : Nat) : midRow e F r i R j = midP e F r i R j ++ List.replicate ((headN e).length - j) 0 := rfl
theorem midP_all (e : List (List Ed)) (F : Int) (r : List Int) (i : Nat) (R : List (List Nat)) : midP e F r i R (headN e).length = rowS e F r (moreR e F r i R) (R.getD i []) := by
  have h := (mid_all e F r i R).2
  rw [midP_row, Nat.sub_self] at h
  simpa using h
theorem head_split {e : List (List Ed)} {c : Nat} (hc : c < 256) {F : List Nat} (hF : pickBy (sigB (flatE e)) (byts.take c) = F) :
    (clsN e c < F.length ∧ pickBy (sigB (flatE e)) (byts.take (c + 1)) = F) ∨ (clsN e c = F.length ∧ pickBy (sigB (flatE e)) (byts.take (c + 1)) = F ++ [c]) := by
  obtain ⟨h1, h2, -, -⟩ := head_take hc hF
  by_cases hm : sigB (flatE e) c ∈ F.map (sigB (flatE e))
  · left
    have h3 := idxOf_lt hm
    have h4 := getElem_idx hm
    rw [List.length_map] at h3
    rw [List.getElem_map] at h4
    have hq : F.getD (idx (F.map (sigB (flatE e))) (sigB (flatE e) c)) 0 = F[idx (F.map (sigB (flatE e))) (sigB (flatE e) c)] := by simp [List.getD, h3]
    obtain ⟨h5, h6⟩ := h1 _ h3 (fun a ha e1 => by
      have hal : a < F.length := by omega
      have := idxOf_le (F.map (sigB (flatE e))) a (sigB (flatE e) c) (by rw [List.getElem?_map, List.getElem?_eq_getElem hal, Option.map_some, ← e1]; simp [List.getD, hal])
      unfold idx at ha
      omega) (by rw [hq]; exact h4)
    exact ⟨by rw [h6]; exact h3, h5⟩
  · right
    obtain ⟨h5, h6⟩ := h2 (fun a ha e1 => hm (by rw [← e1]; exact List.mem_map_of_mem (getD_mem _ _ _ ha)))
    exact ⟨h6, h5⟩
theorem midP_step (e : List (List Ed)) (F : Int) (r : List Int) (i : Nat) (R : List (List Nat)) {j : Nat} (hj : j < (headN e).length) :
    midP e F r i R (j + 1) = midP e F r i R j ++ [(idx (addNew (midR e F r i R j) (stepG e F r (nz (R.getD i [])) ((headN e).getD j 0))) (stepG e F r (nz (R.getD i [])) ((headN e).getD j 0)) : Int)] := by
  have hl : j < (nxtN e F r (R.getD i [])).length := by rw [nxtN_len]; exact hj
  have hx : (nxtN e F r (R.getD i [])).getD j [] = stepG e F r (nz (R.getD i [])) ((headN e).getD j 0) := by
    unfold nxtN
    simp [List.getD, hj]
  have htk : (nxtN e F r (R.getD i [])).take (j + 1) = (nxtN e F r (R.getD i [])).take j ++ [stepG e F r (nz (R.getD i [])) ((headN e).getD j 0)] := by
    rw [← hx]; exact take_succ_getD _ j [] hl
  have h1 := (mid_step e F r i R hj).1
  unfold midP
  rw [← h1, htk, List.map_append, List.map_cons, List.map_nil]
  refine congrArg (· ++ _) (List.map_congr_left fun x hx => ?_)
  have hxm : x ∈ midR e F r i R j := foldl_addNew_in hx
  rw [h1, idxOf_addNew hxm]
theorem mid_mono (e : List (List Ed)) (F : Int) (r : List Int) (i : Nat) (R : List (List Nat)) (j : Nat) : (midR e F r i R j).length ≤ (moreR e F r i R).length := by
  have h : moreR e F r i R = ((nxtN e F r (R.getD i [])).drop j).foldl addNew (midR e F r i R j) := by
    unfold moreR midR
    rw [← List.foldl_append, List.take_append_drop]
  obtain ⟨k, hk⟩ := foldl_addNew_prefix ((nxtN e F r (R.getD i [])).drop j) (midR e F r i R j)
  rw [h, hk, List.length_append]
  omega
theorem idx_new {R : List (List Nat)} {X : List Nat} (h : X ∉ R) : idx (R ++ [X]) X = R.length := by
  exact idxOf_append_new h
section
variable {w w1 w2 : World} {B g : Nat} {lv nv rv : Value} {vs nvs : List Value} {R : List (List Nat)} {cl : List Int} {rows : List (List Int)} {rules : List Int}
/-- the row apart grows by one number -/
theorem ListN.rowPush (h : ListN w B lv vs R g nv nvs rv cl rows rules) {ro v' : Value} {p : List Int} {x : Int} (hr : Own w B 3 ro (ints p)) (ha : ∀ k, ro.ownBlock = some k → ¬ DbF g nv nvs rv k ∧ OwnM.free lv vs (some k)) (hb : Below w.heap.size w w1) (ho : Own w2 B 3 v' (ints p ++ ints [x])) (hg : w1.grownBy w2 ro.ownBlock) (hk : ∀ k, v'.ownBlock = some k → ro.ownBlock = some k ∨ w1.heap.size ≤ k) (hB : B ≤ w.heap.size) :
    ListN w2 B lv vs R g nv nvs rv cl rows rules ∧ Own w2 B 3 v' (ints (p ++ [x])) ∧ (∀ k, v'.ownBlock = some k → ¬ DbF g nv nvs rv k ∧ OwnM.free lv vs (some k)) ∧ Below B w w2 := by
  have hs := hb.size
  refine ⟨(h.up hb).gw (gw_grown (S := fun k => ro.ownBlock = some k) (S' := fun k => ro.ownBlock = some k) hg (fun _ h => h) (fun _ h => .inl h)) (fun k hk => (ha k hk).2) (fun k hk => (ha k hk).1), by rw [← ints_app] at ho; exact ho, fun k e => ?_, (hb.mono hB).grown hg (by omega) fun k e => (hr.lt k e).1⟩
  rcases hk k e with h1 | h1
  · exact ha k h1
  · exact ⟨fun hd => by have := (h.db.ltF k hd).2; omega, h.ls.free_new (by omega)⟩
/-- a list that has just been made lies apart -/
theorem ListN.fresh (h : ListN w B lv vs R g nv nvs rv cl rows rules) {x : Value} {l : List Value} {E : TypeId} (hx : Own w1 w.heap.size E x l) : OwnM.free lv vs x.ownBlock ∧ ∀ k, x.ownBlock = some k → ¬ DbF g nv nvs rv k := by
  refine ⟨?_, fun k e hd => by have h1 := (h.db.ltF k hd).2; have h2 := (hx.lt k e).1; omega⟩
  cases e : x.ownBlock with
  | none => exact OwnM.free_none
  | some k => exact h.ls.free_new (hx.lt k e).1
end
set_option maxRecDepth 100000 in
set_option maxHeartbeats 8000000 in
theorem subMakeR {w : World} {A : Array Value} {e : List (List Ed)} {F : Int} {r : List Int} (h : NfaV w A e F r) (hsw : ∀ a x, x ∈ Row e a → SetW x) :
    Calls Try.prog 11 #[.agg A] w (RetSub e F r w) := by
  have HH := Lib.hid h
  obtain ⟨ve, vr, rfl, he, hr⟩ := h
  obtain ⟨oe, ce, be, fe, rfl, -, -⟩ := he.open
  obtain ⟨orr, cr, br, fr, rfl, -, -⟩ := hr.open
  obtain ⟨n, hn⟩ : ∃ n, n = e.length := ⟨_, rfl⟩
  obtain ⟨m, hm⟩ : ∃ m, m = r.length := ⟨_, rfl⟩
  rw [← hn, ← hm] at HH ⊢
  have hz := zero_dfa
  have hzc := zero_cls
  obtain ⟨ZC, hZC⟩ : ∃ ZC, ZC = zCls := ⟨_, rfl⟩
  rw [← hZC] at hzc
  have HBZ : Hid (∀ w : World, BoxA (w.alloc (.cells ZC 28)) 28 256 w.heap.size (List.replicate 256 0)) := Lib.hid (fun w => boxZ w ZC hZC)
  have hbd := build_dfa
  obtain ⟨Z, hZ⟩ : ∃ Z, Z = zArr := ⟨_, rfl⟩
  rw [← hZ] at hz hbd
  have HBW : Hid (∀ w : World, BoxD (w.alloc (.cells Z 33)) w.heap.size (.slice none 0 0) (.slice none 0 0) (List.replicate 256 0)) := Lib.hid (fun w => by rw [hZ]; exact box_new w)
  have HZL : Hid (Z.toList = ints (List.replicate 256 0) ++ [Value.slice none 0 0, Value.slice none 0 0]) := Lib.hid (by rw [hZ]; exact zArr_list)
  have hsA : (w.alloc (.cells #[.slice oe n ce, .int .i64 F, .slice orr m cr] 25)).heap.size = w.heap.size + 1 := by simp
  have hbx : Own (w.alloc (.cells #[.slice oe n ce, .int .i64 F, .slice orr m cr] 25)) 0 25 (.slice (some ⟨w.heap.size, 0, none⟩) 3 3) [.slice oe n ce, .int .i64 F, .slice orr m cr] := by simpa using own_lit w 0 #[.slice oe n ce, .int .i64 F, .slice orr m cr] 25 (by simp) (Nat.zero_le _)
  have hb1 := box_new (w.alloc (.cells #[.slice oe n ce, .int .i64 F, .slice orr m cr] 25))
  rw [hsA, ← hZ] at hb1
  have HB1 := Lib.hid hb1
  have HBX := Lib.hid (hbx.up (below_alloc _ (.cells Z 33)))
  have HA : Hid (Below w.heap.size w ((w.alloc (.cells #[.slice oe n ce, .int .i64 F, .slice orr m cr] 25)).alloc (.cells Z 33))) := Lib.hid (by repeat (first | exact Below.refl _ _ | assumption | refine b_drewN ?_ _ | refine Below.drew ?_ | refine b_ext' ?_ _ | refine b_alloc' ?_ _))
  have hs3 : ((w.alloc (.cells #[.slice oe n ce, .int .i64 F, .slice orr m cr] 25)).alloc (.cells Z 33)).heap.size = w.heap.size + 2 := by simp
  have HRT := Lib.hid (rightD (HH.out.up HA.out))
  have HSW := Lib.hid hsw
  have HBN := Lib.hid (build_cls (clsO e F r) (clsO_len e F r))
  have HCN : Hid ((rightN e F r = true → clsO e F r = clsL e ∧ cntO e F r = (headN e).length) ∧ (rightN e F r = false → cntO e F r = 0)) := Lib.hid ⟨fun h => ⟨by unfold clsO; rw [if_pos h], by unfold cntO; rw [if_pos h]⟩, fun h => by unfold cntO; rw [if_neg (by rw [h]; decide)]⟩
  have HCOL : Hid ((clsO e F r).length = 256) := Lib.hid (clsO_len e F r)
  obtain ⟨CO, hCO⟩ : ∃ CO, CO = clsO e F r := ⟨_, rfl⟩
  obtain ⟨KO, hKO⟩ : ∃ KO, KO = cntO e F r := ⟨_, rfl⟩
  rw [← hCO, ← hKO] at HCN
  have HCEQ : Hid (CO = clsO e F r ∧ KO = cntO e F r) := Lib.hid ⟨hCO, hKO⟩
  rw [← hCO] at HBN HCOL
  clear he hr hn hm hbx hb1 hsA hZ hZC hsw hCO hKO
  by_cases hrt : rightN e F r = true
  · obtain ⟨h1, h2⟩ := HCN.out.1 hrt
    have hK1 : 1 ≤ KO := by rw [h2]; exact headAt_pos _
    have hK2 : KO ≤ 256 := by rw [h2]; exact headAt_len _
    have HKO := Lib.hid h2
    have HCO := Lib.hid h1
    have HRI := Lib.hid hrt
    have HCE : Hid (CO = clsO e F r ∧ KO = cntO e F r) := HCEQ
    rw [hrt] at HRT
    have HBD := Lib.hid hbd
    clear HCN h1 h2 hrt hbd
    go_enter Try.func11, Try.ntmps11
    go_upto_region 6 with (first
      | (refine wpList_load_cells rfl 25 _ rfl w.heap.size 0 3 rfl _ _ (nfaBox HBX.out) rfl Try.underlying25 rfl (by kernel_rfl) ?_)
      | (refine wpList_load_cells rfl 25 _ rfl w.heap.size 0 3 rfl _ _ (nfaBox HBX1.out) rfl Try.underlying25 rfl (by kernel_rfl) ?_)
      | ((with_reducible go_at_call 22); refine HRT.out.mono ?_; rintro en w0 ⟨rfl, x0, rfl⟩; have HL0 := Lib.hid (ext_below ((w.alloc (.cells #[.slice oe n ce, .int .i64 F, .slice orr m cr] 25)).alloc (.cells Z 33)) x0); have HBX1 := Lib.hid (HBX.out.up HL0.out); have HCL := Lib.hid (classesR (HH.out.up (HA.out.trans (HL0.out.mono HA.out.size))) HSW.out); unfold RetCls at HCL; rw [← HCE.out.1, ← HCE.out.2] at HCL; generalize ext ((w.alloc (.cells #[.slice oe n ce, .int .i64 F, .slice orr m cr] 25)).alloc (.cells Z 33)) x0 = w0 at *)
      | ((with_reducible go_at_call 9); (with_reducible refine HCL.out.mono ?_); rintro en w1 ⟨rfl, hb1⟩; have HE1 := Lib.hid (hb1.trans ((below_alloc w1 (.cells ZC 28)).mono hb1.size)); have hs1 := hb1.size; clear hb1)
      | (refine store_box rfl 28 256 _ _ rfl w1.heap.size rfl _ CO rfl HCOL.out (by kernel_rfl) (HBZ.out w1) ?_; intro w2 hb2 hg2; have HB2 := Lib.hid hb2; have HE2 := Lib.hid (HE1.out.grown hg2 HE1.out.size (fun k hk => by cases hk; exact hs1)); clear hb2 hg2))
    have HAW := Lib.hid ((HA.out.trans (HL0.out.mono HA.out.size)).trans (HE2.out.mono (by have := HL0.out.size; have := HA.out.size; omega)))
    have HB12 := Lib.hid ((HB1.out.up HL0.out).up HE2.out)
    have HBX2 := Lib.hid (HBX1.out.up HE2.out)
    have hs2 := HE2.out.size
    have hs0 := HL0.out.size
    rw [hs3] at hs0
    have hp4 : w1.heap.size < w2.heap.size := HB2.out.lt
    obtain ⟨p4, hp4e⟩ : ∃ p4, p4 = w1.heap.size := ⟨_, rfl⟩
    rw [← hp4e] at HB2 ⊢
    have HPO : Hid (w.heap.size + 2 ≤ p4 ∧ p4 < w2.heap.size) := Lib.hid (by omega)
    clear HE1 HE2 HB1 HBX HBX1 HL0 HA HCL HBZ hzc hs3 hs1 hs2 hs0 hp4 hp4e HRT HCE HCEQ
    go_loopg [6, 7] 256 (fun gk fv cv wr => ∃ c : Nat, cv = .int .i64 c ∧ c ≤ 256 ∧ Own wr w2.heap.size 5 fv (bytV (pickBy (sigB (flatE e)) (byts.take c))) ∧ Below w2.heap.size w2 wr ∧ gk = 256 - c)
    case atStart => exact ⟨0, rfl, Nat.zero_le _, by rw [List.take_zero]; exact Own.nil _ _ _, Below.refl _ _, rfl⟩
    case round =>
      obtain ⟨c, rfl, hc, hown, hbl, rfl⟩ := hrel
      by_cases hlt : c < 256
      · have HSP := Lib.hid (head_split hlt (F := pickBy (sigB (flatE e)) (byts.take c)) rfl)
        have hFl : (pickBy (sigB (flatE e)) (byts.take c)).length ≤ 256 := by
          have := pickBy_len (sigB (flatE e)) (byts.take c)
          rw [List.length_take, byts_len] at this
          omega
        generalize pickBy (sigB (flatE e)) (byts.take c) = Fq at *
        have HO := Lib.hid hown
        have HW := Lib.hid hbl
        obtain ⟨of, cf, gf, hfv, -⟩ := hown.cases
        rw [bytV_len] at hfv
        obtain ⟨lf, hlf⟩ : ∃ lf, lf = Fq.length := ⟨_, rfl⟩
        rw [← hlf] at hfv HSP hFl
        subst hfv
        have HLF := Lib.hid hlf
        clear hown hbl hlf
        have HBC := Lib.hid (HB2.out.up HW.out)
        have hcc : wr.cell? ⟨p4, c, none⟩ = some (.int .i64 (clsN e c : Nat)) := by
          rw [HBC.out.cell hlt, HCO.out, clsL_get e hlt]
        have hpw : p4 < wr.heap.size := HBC.out.lt
        have hcI : (c : Int) < 256 := by omega
        have d0 : decide ((c : Int) < 256) = true := decide_eq_true hcI
        have hmd : (c : Int) % 256 = c := by omega
        rcases HSP.out with ⟨h1, h2⟩ | ⟨h1, h2⟩
        · have H2 := Lib.hid h2
          have hne : ((clsN e c : Nat) : Int) ≠ lf := by omega
          have d1 : decide (((clsN e c : Nat) : Int) = lf) = false := by simpa using hne
          generalize clsN e c = kc at *
          clear h2
          go_wp2
          go_roundg (256 - (c + 1))
          case measure => omega
          case rel => exact ⟨c + 1, by go_num, by omega, by rw [H2.out]; exact HO.out, HW.out, rfl⟩
        · have H2 := Lib.hid h2
          rw [h1] at hcc
          clear h1 h2
          have hlr := below_alloc wr (.cells #[.int .u8 (c : Int)] 5)
          have HLR := Lib.hid hlr
          have HSX : Hid (Sl (wr.alloc (.cells #[.int .u8 (c : Int)] 5)) (.slice (some ⟨wr.heap.size, 0, none⟩) 1 1) (bytV [c])) := Lib.hid (by simpa [bytV] using sl_lit wr #[.int .u8 (c : Int)] 5 (by simp))
          have HT1 := Lib.hid (HO.out.up hlr)
          have HT2 : Hid (∀ u ∈ bytV [c], u.oneCell' = true) := Lib.hid (by intro u hu; simp [bytV] at hu; subst hu; rfl)
          have HT3 : Hid ((bytV Fq).length + (bytV [c]).length ≤ 4294967296) := Lib.hid (by have := HLF.out; rw [bytV_len, bytV_len]; simp; omega)
          have HT4 : Hid (w2.heap.size ≤ (wr.alloc (.cells #[.int .u8 (c : Int)] 5)).heap.size) := Lib.hid (by have := hlr.size; have := HW.out.size; omega)
          clear hlr
          go_wp2_with (at_builtin; refine wpList_app rfl (.tmp 34) (.tmp 37) 62 rfl w2.heap.size 5 (.int .u8 0) 1 Try.underlying62 (by kernel_rfl) rfl (by decide) (.slice of lf cf) (bytV Fq) rfl HT1.out (.slice (some ⟨wr.heap.size, 0, none⟩) 1 1) (bytV [c]) rfl HSX.out HT2.out HT3.out HT4.out ?_; intro v' w5 hown1 hg1 hk1; have HO5 := Lib.hid hown1; have HG5 := Lib.hid hg1; clear hown1 hg1 hk1)
          go_roundg (256 - (c + 1))
          case measure => omega
          case rel => exact ⟨c + 1, by go_num, by omega, by rw [H2.out, show bytV (Fq ++ [c]) = bytV Fq ++ bytV [c] by simp [bytV]]; exact HO5.out, (HW.out.trans (HLR.out.mono HW.out.size)).grown HG5.out HT4.out (fun k hk => (HT1.out.lt k hk).1), rfl⟩
      · have hce : c = 256 := by omega
        subst hce
        have htk : byts.take 256 = byts := List.take_of_length_le (by rw [byts_len]; exact Nat.le_refl _)
        rw [htk] at hown
        have hhd : pickBy (sigB (flatE e)) byts = headN e := rfl
        rw [hhd] at hown
        obtain ⟨w4, rfl⟩ : ∃ w4 : World, w4 = wr := ⟨_, rfl⟩
        have HOF := Lib.hid hown
        obtain ⟨of, cf, gf, hfv, -⟩ := hown.cases
        rw [bytV_len, ← HKO.out] at hfv
        subst hfv
        have HAW4 := Lib.hid (HAW.out.trans (hbl.mono HAW.out.size))
        have HBX4 := Lib.hid (HBX2.out.up hbl)
        have HB14 := Lib.hid (HB12.out.up hbl)
        have HB24 := Lib.hid (HB2.out.up hbl)
        have HFR : Hid (∀ x, Below w4.heap.size w4 x → Below w.heap.size w x) := Lib.hid (fun x hx => HAW4.out.trans (hx.mono HAW4.out.size))
        have HNV : Hid (∀ x, Below w4.heap.size w4 x → NfaV x #[.slice oe n ce, .int .i64 F, .slice orr m cr] e F r) := Lib.hid (fun x hx => (HH.out.up HAW4.out).up hx)
        have HXC : Hid (∀ x, Below w4.heap.size w4 x → ∀ c, c < 3 → x.cell? ⟨w.heap.size, 0 + c, none⟩ = some ((#[.slice oe n ce, .int .i64 F, .slice orr m cr] : Array Value).getD c undef)) := Lib.hid (fun x hx => nfaBox (HBX4.out.up hx))
        have HR1 : Hid (∀ x, Below w4.heap.size w4 x → BoxD x (w.heap.size + 1) (.slice none 0 0) (.slice none 0 0) (List.replicate 256 0)) := Lib.hid (fun x hx => HB14.out.up hx)
        have HC4 : Hid (∀ x, Below w4.heap.size w4 x → BoxA x 28 256 p4 CO) := Lib.hid (fun x hx => HB24.out.up hx)
        have HFI : Hid (∀ x, Below w4.heap.size w4 x → Sl x (.slice of KO cf) (bytV (headN e))) := Lib.hid (fun x hx => (HOF.out.up hx).sl)
        have hpB : p4 < w4.heap.size ∧ w.heap.size + 2 ≤ w4.heap.size := by have := HPO.out; have := hbl.size; omega
        clear hown hbl htk hhd HOF HAW4 HBX4 HB14 HB24 HAW HB12 HBX2 HB2 HPO hc hlt HH
        have hl6 := below_alloc w4 (.cells #[.int .i64 F] 3)
        have HL6 := Lib.hid hl6
        have HSF : Hid (IntsAt (w4.alloc (.cells #[.int .i64 F] 3)) (.slice (some ⟨w4.heap.size, 0, none⟩) 1 1) [F]) := Lib.hid (show Sl (w4.alloc (.cells #[.int .i64 F] 3)) (.slice (some ⟨w4.heap.size, 0, none⟩) 1 1) [.int .i64 F] from by simpa using sl_lit w4 #[.int .i64 F] 3 (by simp))
        have HCLO := Lib.hid (closureR (HNV.out _ hl6) HSF.out)
        have HC05 := Lib.hid (HXC.out w4 (Below.refl _ _))
        have x1 := HXC.out w4 (Below.refl _ _) 1 (by omega)
        simp at x1
        have hw0 : w.heap.size < w4.heap.size := by omega
        have HGZ := Lib.hid (goAt_zero e F r)
        obtain ⟨L0, hL0⟩ : ∃ L0, L0 = cloN e F r [F] := ⟨_, rfl⟩
        rw [← hL0] at HGZ HCLO
        clear hL0 hl6 HSF
        go_upto_region 11 with (first
          | (refine wpList_load_cells rfl 25 _ rfl w.heap.size 0 3 rfl _ _ HC05.out rfl Try.underlying25 rfl (by kernel_rfl) ?_)
          | ((with_reducible go_at_call 28); (with_reducible refine HCLO.out.mono ?_); rintro en w7 ⟨u, rfl, hown, hbl⟩; have HU := Lib.hid hown; have HB7 := Lib.hid hbl; (obtain ⟨ou, cu, gu, hu, -⟩ := hown.cases); (obtain ⟨lu, hlu⟩ : ∃ lu, lu = (ints (nz L0)).length := ⟨_, rfl⟩); rw [← hlu] at hu; subst hu; clear hown hbl hlu))
        have hB8 : w4.heap.size ≤ w7.heap.size := by have := HB7.out.size; have := HL6.out.size; omega
        have HL7 := Lib.hid (HL6.out.trans (HB7.out.mono HL6.out.size))
        have hl8 := below_alloc w7 (.cells #[.slice ou lu cu] 23)
        have HF8 := Lib.hid (HL7.out.trans (hl8.mono hB8))
        have HLS : Hid (OwnM (w7.alloc (.cells #[.slice ou lu cu] 23)) w4.heap.size 23 3 (.slice (some ⟨w7.heap.size, 0, none⟩) 1 1) [.slice ou lu cu] (cellsL [L0])) := Lib.hid (by
          have hou := own_lit w7 w4.heap.size #[.slice ou lu cu] 23 (by simp) hB8
          have hr0 := (HU.out.up hl8).mono (B' := w4.heap.size) (by have := HL6.out.size; omega)
          refine ⟨hou, rfl, fun i hi => ?_, fun i j hi hj hne => ?_, fun i hi k hk e1 => ?_⟩
          · have h0 : i = 0 := by rw [cellsL_len] at hi; simp at hi; omega
            subst h0
            exact hr0
          · rw [cellsL_len] at hi hj; simp at hi hj; omega
          · have h0 : i = 0 := by rw [cellsL_len] at hi; simp at hi; omega
            subst h0
            have := (HU.out.lt k hk).2
            simp [Value.ownBlock] at e1
            omega)
        generalize hw8 : w7.alloc (.cells #[.slice ou lu cu] 23) = w8 at *
        have hB9 : w4.heap.size ≤ w8.heap.size := HF8.out.size
        obtain ⟨A, hgA, hsA', hA⟩ := (HC4.out _ HF8.out).open
        have hAe : A = (ints CO).toArray := congrArg List.toArray hA
        obtain ⟨D, hbc, hDl⟩ := HBN.out
        rw [← hAe] at hbc
        have HBC := Lib.hid hbc
        have HDL := Lib.hid hDl
        have HW89 := Lib.hid (HBW.out w8)
        have HW7 := Lib.hid (show w7.heap.size < w8.heap.size by rw [← hw8]; simp)
        clear hbc hA hAe hDl HC05 x1 HCLO HL6 HB7 HBN HBW HC4 HU hl8 hB8 HL7 hw8
        go_upto_region 13 with (first
          | (refine load_box rfl 28 256 _ rfl p4 rfl A hsA' hgA _ Try.underlying28 rfl (by kernel_rfl) ?_)
          | (refine wpList_build_anyD rfl 33 _ rfl #[(0, .agg A)] (by first | kernel_rfl | rfl | (simp; rfl)) D HBC.out ?_)
          | (refine store_dfa rfl _ _ rfl w8.heap.size rfl D rfl HDL.out HCOL.out rfl rfl HW89.out ?_; intro w9 hb9 hg9; have HB9 := Lib.hid hb9; have HG9 := Lib.hid hg9; clear hb9 hg9))
        have hl9 : Below w8.heap.size w8 (w8.alloc (.cells Z 33)) := below_alloc _ _
        have HL89 := Lib.hid (hl9.grown HG9.out hl9.size (fun k hk => by injection hk with hk; omega))
        have HF9 := Lib.hid (HF8.out.trans (HL89.out.mono hB9))
        obtain ⟨g, hg⟩ : ∃ g, g = w8.heap.size := ⟨_, rfl⟩
        rw [← hg] at HB9 ⊢
        have hBg : w4.heap.size ≤ g := by omega
        have HBO : Hid (ListN w9 w4.heap.size (.slice (some ⟨w7.heap.size, 0, none⟩) 1 1) [.slice ou lu cu] [L0] g (.slice none 0 0) [] (.slice none 0 0) CO [] []) := Lib.hid (by
          have hnf : OwnM.free (.slice none 0 0) [] (some g) := ⟨fun _ hk => by simp [Value.ownBlock] at hk, fun i hi => absurd hi (Nat.not_lt_zero i)⟩
          refine ⟨HLS.out.up HL89.out, ⟨HB9.out, hBg, OwnM.nil _ _ _ _, Own.nil _ _ _, hnf, by simp [Value.ownBlock], OwnM.free_none⟩, fun k hk hd => ?_⟩
          have hk8 := (HLS.out.blkF hk).2
          rcases hd with hd | hd | hd
          · omega
          · simp [Value.ownBlock] at hd
          · exact hd ⟨fun _ hk => by simp [Value.ownBlock] at hk, fun i hi => absurd hi (Nat.not_lt_zero i)⟩)
        obtain ⟨lv0, hlv0⟩ : ∃ lv0, lv0 = Value.slice (some ⟨w7.heap.size, 0, none⟩) 1 1 := ⟨_, rfl⟩
        rw [← hlv0] at HBO ⊢
        clear hlv0 hg HL89 hl9 HG9 HB9 HF8 hgA hsA' HBC HDL HW89 hB9 HLS HW7
        generalize hB : w4.heap.size = B at *
        have HBB := Lib.hid hB
        clear hB
        go_loopg [8, 10] 1001 (fun gk lv iv wr => ∃ (i : Nat) (R : List (List Nat)) (vs : List Value) (nv : Value) (nvs : List Value) (rv : Value), iv = .int .i64 i ∧ GoAt e F r i R ∧ ListN wr B lv vs R g nv nvs rv CO (rowsAt e F r R i) (rulesAt r R i) ∧ Below B w4 wr ∧ gk = 1001 - i)
        case atStart => exact ⟨0, [L0], _, _, _, _, rfl, HGZ.out, by simpa [rowsAt, rulesAt] using HBO.out, HF9.out, rfl⟩
        case round =>
          obtain ⟨i, R, vs, nv, nvs, rv, rfl, hgo, hbo, hbl, rfl⟩ := hrel
          have HGO := Lib.hid hgo
          have HBT := Lib.hid hbo
          have HF := Lib.hid hbl
          clear hgo hbo hbl HBO HF9 HGZ
          obtain ⟨og, cg, gg, hlv, -⟩ := HBT.out.ls.outer.cases
          have hvl := HBT.out.ls.len
          rw [cellsL_len] at hvl
          rw [hvl] at hlv
          subst hlv
          by_cases hlt : i < R.length
          · have d0 : decide ((i : Int) < R.length) = true := by simp; omega
            have HP0 : Hid (midP e F r i R 0 = []) := Lib.hid (by simp [midP])
            go_upto_region 17 with (fail)
            go_loopg [8, 11, 12] KO (fun gk lv rw jv wr => ∃ (j : Nat) (vs : List Value), jv = .int .i64 j ∧ j ≤ KO ∧ ListN wr B lv vs (midR e F r i R j) g nv nvs rv CO (rowsAt e F r R i) (rulesAt r R i) ∧ Own wr B 3 rw (ints (midP e F r i R j)) ∧ (∀ k, rw.ownBlock = some k → ¬ DbF g nv nvs rv k ∧ OwnM.free lv vs (some k)) ∧ (midR e F r i R j).length ≤ 1000 ∧ Below B w4 wr ∧ gk = KO - j)
            case atStart => exact ⟨0, vs, rfl, Nat.zero_le _, by rw [(mid_zero e F r i R).1]; exact HBT.out, by rw [HP0.out]; exact Own.nil _ _ _, fun k hk => by simp [Value.ownBlock] at hk, by rw [(mid_zero e F r i R).1]; exact HGO.out.len, HF.out, rfl⟩
            case round =>
              obtain ⟨j, vs, rfl, hj, hbo, hrw, hra, hml, hbl, rfl⟩ := hrel
              have HBT2 := Lib.hid hbo
              have HRWW := Lib.hid hrw
              have HRA := Lib.hid hra
              have HML := Lib.hid hml
              have HF2 := Lib.hid hbl
              clear hbo hrw hra hml hbl HP0 HBT HF hvl
              by_cases hltj : j < KO
              · have hjh : j < (headN e).length := by rw [← HKO.out]; exact hltj
                obtain ⟨og2, cg2, gg2, hlv2, -⟩ := HBT2.out.ls.outer.cases
                have hvl := HBT2.out.ls.len
                rw [cellsL_len] at hvl
                rw [hvl] at hlv2
                subst hlv2
                obtain ⟨oa, cap, b, off, hle, hd, hrs⟩ := HBT2.out.ls.rowsG.open
                rw [cellsL_len] at hle hd hrs
                injection hle with hle1 hle2 hle3
                subst hle1 hle3
                clear hle2
                obtain ⟨kt, hkt⟩ := mid_pre e F r i R j
                have hgi : (midR e F r i R j).getD i [] = R.getD i [] := by rw [hkt, getD_append_left' hlt]
                have him : i < (midR e F r i R j).length := by rw [hkt, List.length_append]; omega
                obtain ⟨oi, ci, bi, fi, hcell, hdi, -, hsi⟩ := hrs i him
                have hix := index_any (P := Try.prog) 31 23 Try.underlying31 (by kernel_rfl) hd
                have hixi : ∀ W, (Instr.indexAt 31 (.slice og2 (midR e F r i R j).length cg2) (.int .i64 (i : Int))).run Try.prog W = .ok (.pointer (some ⟨b, off + i, none⟩)) W := fun W => by simpa using hix W .i64 i (by omega) (by omega)
                have hbb := hd.hblk (by omega)
                rw [cellsL_get him, hgi] at hcell hdi hsi
                obtain ⟨nl, hnl⟩ : ∃ nl, nl = (ints (nz (R.getD i []))).length := ⟨_, rfl⟩
                rw [← hnl] at hcell hdi hsi
                clear hnl
                have HMS := Lib.hid (mid_step e F r i R hjh)
                have HMP := Lib.hid (midP_step e F r i R hjh)
                have hc256 : (headN e).getD j 0 < 256 := headAt_mem (getD_mem _ _ _ hjh)
                have hBw : B ≤ wr.heap.size := by have := HF2.out.size; have := HBB.out; omega
                have hd1 : Below wr.heap.size wr wr.drew := by rw [World.drew_is_drewN]; exact below_drewN wr 1
                have HD1 := Lib.hid hd1
                have HF1 := Lib.hid (HF2.out.trans (hd1.mono hBw))
                have HSTP := Lib.hid (stepR (HNV.out wr.drew HF1.out) HSW.out (v := .slice oi nl ci) (st := nz (R.getD i [])) (hsi.up hd1) _ hc256)
                have hfi := (HFI.out _ (HF2.out))
                obtain ⟨o3, c3, b3, f3, he3, hd3, hc3⟩ := hfi
                rw [bytV_len, ← HKO.out] at he3 hd3 hc3
                injection he3 with he31 he32 he33
                subst he31 he33
                clear he32
                have hix8 := index_any (P := Try.prog) 62 5 Try.underlying62 (by kernel_rfl) hd3
                have hixf : ∀ W, (Instr.indexAt 62 (.slice of KO cf) (.int .i64 (j : Int))).run Try.prog W = .ok (.pointer (some ⟨b3, f3 + j, none⟩)) W := fun W => by simpa using hix8 W .i64 j (by omega) (by omega)
                have hcf := hc3 j hltj
                rw [bytV_get hjh] at hcf
                have hb3 := hd3.hblk (by omega)
                have HXQ : Hid (∀ w', (∃ y, w' = ext wr y) → ∀ c, c < 3 → w'.cell? ⟨w.heap.size, 0 + c, none⟩ = some ((#[.slice oe n ce, .int .i64 F, .slice orr m cr] : Array Value).getD c undef)) := Lib.hid (by
                  rintro w' ⟨y, rfl⟩
                  exact HXC.out _ (HF2.out.trans ((ext_below wr y).mono hBw)))
                have hw0 : w.heap.size < wr.heap.size := by omega
                generalize (headN e).getD j 0 = c at *
                generalize stepG e F r (nz (R.getD i [])) c = X at *
                have d1 : decide ((j : Int) < KO) = true := by simp; omega
                clear hrs hix hix8 hd hdi hsi hkt hgi hc3 hd3 hvl hd1
                go_wp2
                refine wp_region_tailg [0,1,2,3,4,5,6,7,8] [9] [10] (by kernel_rfl) (by kernel_rfl) ?_
                simp only [pick, List.map_cons, List.map_nil, List.getD_cons_zero, List.getD_cons_succ]
                repeat (first | (go_big_quiet_want; refine quiet_load_cells 25 3 _ rfl w.heap.size 0 rfl #[.slice oe n ce, .int .i64 F, .slice orr m cr] rfl HXQ.out _ Try.underlying25 rfl (by kernel_rfl) ?_; go_simp; go_big_quiet_on) | go_big_quiet_step (fail))
                refine wpQuiet_nil ?_
                have hBd : B ≤ wr.drew.heap.size := hBw
                have HBD1 := Lib.hid (HBT2.out.up HD1.out)
                have HRWW0 := Lib.hid (HRWW.out.up HD1.out)
                generalize wr.drew = wd at *
                unfold wpAct
                go_wp2_with ((with_reducible go_at_call 29); (with_reducible refine HSTP.out.mono ?_); rintro en w7 ⟨u, rfl, hown, hbl⟩; have HU := Lib.hid hown; have HB7 := Lib.hid hbl; clear hown hbl)
                have HW7 := Lib.hid (HD1.out.trans (HB7.out.mono HD1.out.size))
                refine ⟨ex_ext HW7.out, ?_⟩
                unfold wpAct
                have HBD7 := Lib.hid (HBD1.out.up HB7.out)
                have HRW7 := Lib.hid ((HRWW.out.up HD1.out).up HB7.out)
                have HFA := Lib.hid (HF1.out.trans (HB7.out.mono hBd))
                have HPL := Lib.hid (placeR HBD7.out.ls.rowsG HU.out.sl)
                have HFRS := Lib.hid (HBD1.out.fresh HU.out)
                obtain ⟨ou, cu, gu, hu, -⟩ := HU.out.cases
                obtain ⟨lu, hlu⟩ : ∃ lu, lu = (ints (nz X)).length := ⟨_, rfl⟩
                rw [← hlu] at hu
                subst hu
                obtain ⟨orw, crw, grw, hrw, -⟩ := HRWW.out.cases
                obtain ⟨nrw, hnrw⟩ : ∃ nrw, nrw = (ints (midP e F r i R j)).length := ⟨_, rfl⟩
                rw [← hnrw] at hrw
                subst hrw
                have HPN : Hid ((ints (midP e F r i R j)).length ≤ 1000) := Lib.hid (by
                  have : (midP e F r i R j).length ≤ j := by unfold midP; rw [List.length_map, List.length_take]; omega
                  rw [ints_length]; omega)
                have hB7 : B ≤ w7.heap.size := by have := HB7.out.size; omega
                clear hlu hnrw HSTP HBD1 HBT2 HRWW hcell hixi hbb hcf hb3 hixf hw0 hBw hBd HXQ
                (unfold wpAct; go_wp2; refine ⟨trivial, ?_⟩; unfold wpAct)
                by_cases hmx : X ∈ midR e F r i R j
                · have hp1 : placeI (midR e F r i R j) X = (idx (midR e F r i R j) X : Nat) := by unfold placeI; rw [if_pos hmx]
                  have hrn : addNew (midR e F r i R j) X = midR e F r i R j := by unfold addNew; rw [if_pos hmx]
                  rw [hrn] at HMS HMP
                  rw [hp1] at HPL
                  have HM1 := Lib.hid HMS.out.1
                  clear hp1 hrn hmx HMS
                  generalize idx (midR e F r i R j) X = kx at *
                  go_upto_region 21 with ((with_reducible go_at_call 30); (with_reducible refine HPL.out.mono ?_); rintro en w8 ⟨rfl, x8, rfl⟩)
                  have HB8 := Lib.hid (ext_below w7 x8)
                  generalize ext w7 x8 = w8 at *
                  have d2 : decide ((kx : Int) < 0) = false := by simp
                  have hl9 := below_alloc w8 (.cells #[.int .i64 (kx : Int)] 3)
                  have HL9 := Lib.hid hl9
                  have HSX : Hid (Sl (w8.alloc (.cells #[.int .i64 (kx : Int)] 3)) (.slice (some ⟨w8.heap.size, 0, none⟩) 1 1) (ints [(kx : Int)])) := Lib.hid (by simpa [ints] using sl_lit w8 #[.int .i64 (kx : Int)] 3 (by simp))
                  have HB88 := Lib.hid (HB8.out.trans (hl9.mono HB8.out.size))
                  have HT1 := Lib.hid (HRW7.out.up HB88.out)
                  have HT3 : Hid ((ints (midP e F r i R j)).length + (ints [(kx : Int)]).length ≤ 4294967296) := Lib.hid (by have := HPN.out; simp only [ints_length, List.length_singleton] at *; omega)
                  have HT4 : Hid (B ≤ (w8.alloc (.cells #[.int .i64 (kx : Int)] 3)).heap.size) := Lib.hid (by have := HB88.out.size; omega)
                  clear hl9
                  go_wp2_with (at_builtin; refine wpList_app rfl (.tmp 83) (.tmp 85) 23 rfl B 3 (.int .i64 0) 8 Try.underlying23 (by kernel_rfl) rfl (by decide) (.slice orw nrw crw) (ints (midP e F r i R j)) rfl HT1.out (.slice (some ⟨w8.heap.size, 0, none⟩) 1 1) (ints [(kx : Int)]) rfl HSX.out (ints_one _) HT3.out HT4.out ?_; intro v' w9 hown1 hg1 hk1; have HO9 := Lib.hid hown1; have HG9 := Lib.hid hg1; have HK9 := Lib.hid hk1; clear hown1 hg1 hk1)
                  have HRP := Lib.hid (HBD7.out.rowPush HRW7.out HRA.out HB88.out HO9.out HG9.out HK9.out hB7)
                  go_roundg (KO - (j + 1))
                  case measure => omega
                  case rel =>
                    refine ⟨j + 1, vs, by go_num, by omega, ?_, ?_, HRP.out.2.2.1, ?_, HFA.out.trans HRP.out.2.2.2, rfl⟩
                    · rw [HM1.out]; exact HRP.out.1
                    · rw [HMP.out]; exact HRP.out.2.1
                    · rw [HM1.out]; exact HML.out
                · have hp1 : placeI (midR e F r i R j) X = -1 := by unfold placeI; rw [if_neg hmx]
                  have hrn : addNew (midR e F r i R j) X = midR e F r i R j ++ [X] := by unfold addNew; rw [if_neg hmx]
                  rw [hrn] at HMS
                  rw [hrn, idx_new hmx] at HMP
                  rw [hp1] at HPL
                  have HM1 := Lib.hid HMS.out.1
                  have HMB := Lib.hid (mid_mono e F r i R (j + 1))
                  rw [HM1.out, List.length_append, List.length_singleton] at HMB
                  have HVL : Hid (vs.length = (midR e F r i R j).length) := Lib.hid (by have := HBD7.out.ls.len; rw [cellsL_len] at this; exact this)
                  obtain ⟨K, hK⟩ : ∃ K, K = (midR e F r i R j).length := ⟨_, rfl⟩
                  rw [← hK] at HMB HVL HMP HML HPL HBD7 HRA HFRS ⊢
                  have HKE := Lib.hid hK
                  clear hp1 hrn hmx HMS hK
                  go_upto_region 21 with ((with_reducible go_at_call 30); (with_reducible refine HPL.out.mono ?_); rintro en w8 ⟨rfl, x8, rfl⟩)
                  have HB8 := Lib.hid (ext_below w7 x8)
                  generalize ext w7 x8 = w8 at *
                  have hl9 := below_alloc w8 (.cells #[.slice ou lu cu] 23)
                  have HL9 := Lib.hid hl9
                  have HSX : Hid (Sl (w8.alloc (.cells #[.slice ou lu cu] 23)) (.slice (some ⟨w8.heap.size, 0, none⟩) 1 1) [.slice ou lu cu]) := Lib.hid (by simpa using sl_lit w8 #[.slice ou lu cu] 23 (by simp))
                  have HB88 := Lib.hid (HB8.out.trans (hl9.mono HB8.out.size))
                  have HT1 := Lib.hid (HBD7.out.ls.outer.up HB88.out)
                  have HT3 : Hid (vs.length + [Value.slice ou lu cu].length ≤ 4294967296) := Lib.hid (by have := HVL.out; have := HML.out; simp; omega)
                  have HT4 : Hid (B ≤ (w8.alloc (.cells #[.slice ou lu cu] 23)).heap.size) := Lib.hid (by have := HB88.out.size; omega)
                  clear hl9
                  go_upto_region 24 with (at_builtin; refine wpList_app rfl (.tmp 75) (.tmp 77) 31 rfl B 23 (.slice none 0 0) 24 Try.underlying31 (by kernel_rfl) rfl (by decide) (.slice og2 K cg2) vs rfl HT1.out (.slice (some ⟨w8.heap.size, 0, none⟩) 1 1) [.slice ou lu cu] rfl HSX.out (by simp [Value.oneCell']) HT3.out HT4.out ?_; intro v' w9 hown1 hg1 hk1; (obtain ⟨o5, c5, q5', hv5, -⟩ := hown1.cases); (obtain ⟨n5, hn5⟩ : ∃ n5, n5 = (vs ++ [Value.slice ou lu cu]).length := ⟨_, rfl⟩); rw [← hn5] at hv5; subst hv5; have HN5 := Lib.hid hn5; clear hn5; have HO9 := Lib.hid hown1; have HG9 := Lib.hid hg1; have HK9 := Lib.hid hk1; clear hown1 hg1 hk1)
                  have hn5 : n5 = K + 1 := by have := HN5.out; rw [List.length_append, HVL.out] at this; simpa using this
                  have HBD9 := Lib.hid (HBD7.out.push (HU.out.mono (by have := HD1.out.size; have := HF2.out.size; have := HBB.out; omega)) HFRS.out.1 HFRS.out.2 HB88.out HO9.out HG9.out HK9.out)
                  have HRW9 := Lib.hid ((HRW7.out.up HB88.out).keep HG9.out (by
                    cases hro : (Value.slice orw nrw crw).ownBlock with
                    | none => exact .inl rfl
                    | some k => exact .inr (fun e1 => (HRA.out k hro).2.1 k e1.symm rfl)))
                  have HRA9 : Hid (∀ k, (Value.slice orw nrw crw).ownBlock = some k → ¬ DbF g nv nvs rv k ∧ OwnM.free (.slice o5 n5 c5) (vs ++ [.slice ou lu cu]) (some k)) := Lib.hid (fun k hk => ⟨(HRA.out k hk).1, free_push (HRA.out k hk).2 (fun e1 => by have h1 := (HU.out.lt k e1).1; have h2 := ((HRWW0.out).lt k hk).2; omega) HK9.out (by have h2 := ((HRWW0.out).lt k hk).2; have := HB88.out.size; have := HB7.out.size; omega)⟩)
                  have HF9 := Lib.hid ((HFA.out.trans (HB88.out.mono hB7)).grown HG9.out HT4.out (fun k hk => (HBD7.out.ls.outer.lt k hk).1))
                  have hB9 : B ≤ w9.heap.size := by have := HG9.out.size; have := HT4.out; omega
                  clear HSX HT1 HT3 HT4 HO9 HG9 HK9 HL9 HVL HPL
                  by_cases hbig : 1000 < n5
                  · have hb2 := HGO.out.big hlt (by have := HMB.out; omega)
                    have HE : Hid (subE e F r = 3 ∧ subI e F r = zeroD) := Lib.hid ⟨by unfold subE; rw [if_pos HRI.out, hb2], by unfold subI; rw [if_pos HRI.out, hb2]⟩
                    have d1' : decide ((1000 : Int) < n5) = true := by simp; omega
                    have hbd := HBD.out
                    have HR9 := Lib.hid (HR1.out _ (HF9.out.mono (by have := HBB.out; omega)))
                    clear hb2 hn5 hbig
                    go_wp2_with (refine store_dfa rfl _ _ rfl (w.heap.size + 1) rfl Z rfl HZL.out List.length_replicate rfl rfl HR9.out ?_; intro w12 hb12 hg12; have HB12 := Lib.hid hb12; have HG12 := Lib.hid hg12; clear hb12 hg12)
                    refine ret_dfa rfl rfl rfl rfl HB12.out (rows_nil _) (rules := []) (Sl.nil _) fun v hv => ⟨v, by rw [HE.out.1]; rfl, by rw [HE.out.2]; exact hv, ?_⟩
                    have h1 := HFR.out _ (HF9.out.mono (by have := HBB.out; omega))
                    exact h1.grown HG12.out h1.size (fun k hk => by cases hk; omega)
                  · have d1' : decide ((1000 : Int) < n5) = false := by simp; omega
                    have HNB : Hid (n5 = K + 1 ∧ n5 ≤ 1000) := Lib.hid ⟨hn5, by omega⟩
                    have hl10 := below_alloc w9 (.cells #[.int .i64 (K : Int)] 3)
                    have HL10 := Lib.hid hl10
                    have HSY : Hid (Sl (w9.alloc (.cells #[.int .i64 (K : Int)] 3)) (.slice (some ⟨w9.heap.size, 0, none⟩) 1 1) (ints [(K : Int)])) := Lib.hid (by simpa [ints] using sl_lit w9 #[.int .i64 (K : Int)] 3 (by simp))
                    have HT5 := Lib.hid (HRW9.out.up hl10)
                    have HT6 : Hid ((ints (midP e F r i R j)).length + (ints [(K : Int)]).length ≤ 4294967296) := Lib.hid (by have := HPN.out; simp only [ints_length, List.length_singleton] at *; omega)
                    have HT7 : Hid (B ≤ (w9.alloc (.cells #[.int .i64 (K : Int)] 3)).heap.size) := Lib.hid (by have := hl10.size; omega)
                    clear hl10 hn5 hbig
                    go_wp2_with (at_builtin; refine wpList_app rfl (.tmp 83) (.tmp 85) 23 rfl B 3 (.int .i64 0) 8 Try.underlying23 (by kernel_rfl) rfl (by decide) (.slice orw nrw crw) (ints (midP e F r i R j)) rfl HT5.out (.slice (some ⟨w9.heap.size, 0, none⟩) 1 1) (ints [(K : Int)]) rfl HSY.out (ints_one _) HT6.out HT7.out ?_; intro v2 w10 hown1 hg1 hk1; have HO10 := Lib.hid hown1; have HG10 := Lib.hid hg1; have HK10 := Lib.hid hk1; clear hown1 hg1 hk1)
                    have HRP := Lib.hid (HBD9.out.rowPush HRW9.out HRA9.out HL10.out HO10.out HG10.out HK10.out hB9)
                    go_roundg (KO - (j + 1))
                    case measure => omega
                    case rel =>
                      refine ⟨j + 1, vs ++ [.slice ou lu cu], by go_num, by omega, ?_, ?_, HRP.out.2.2.1, ?_, HF9.out.trans HRP.out.2.2.2, rfl⟩
                      · rw [HM1.out]; exact HRP.out.1
                      · rw [HMP.out]; exact HRP.out.2.1
                      · rw [HM1.out, List.length_append, ← HKE.out, List.length_singleton]; have := HNB.out; omega
              · have hje : j = KO := by omega
                subst hje
                have hma := mid_all e F r i R
                have hmp := midP_all e F r i R
                rw [← HKO.out] at hma hmp
                rw [hma.1] at HBT2 HML
                rw [hmp] at HRWW
                clear hma hmp
                obtain ⟨R2, hR2⟩ : ∃ R2, R2 = moreR e F r i R := ⟨_, rfl⟩
                have HR2 := Lib.hid hR2
                have HNXT := Lib.hid (HGO.out.next hlt HML.out)
                rw [← hR2] at HBT2 HRWW HML HNXT
                clear hR2
                obtain ⟨hg2, hr2, hu2⟩ := HNXT.out
                have HGN := Lib.hid hg2
                have HRN := Lib.hid hr2
                have HUN := Lib.hid hu2
                clear hg2 hr2 hu2 HNXT
                obtain ⟨og2, cg2, gg2, hlv2, -⟩ := HBT2.out.ls.outer.cases
                have hvl := HBT2.out.ls.len
                rw [cellsL_len] at hvl
                rw [hvl] at hlv2
                subst hlv2
                clear hvl
                have hBw : B ≤ wr.heap.size := by have := HF2.out.size; have := HBB.out; omega
                obtain ⟨orw, crw, grw, hrw, -⟩ := HRWW.out.cases
                obtain ⟨nrw, hnrw⟩ : ∃ nrw, nrw = (ints (rowS e F r R2 (R.getD i []))).length := ⟨_, rfl⟩
                rw [← hnrw] at hrw
                subst hrw
                obtain ⟨on, cn, gn, hnv, -⟩ := HBT2.out.db.rows.outer.cases
                obtain ⟨nn, hnn⟩ : ∃ nn, nn = nvs.length := ⟨_, rfl⟩
                rw [← hnn] at hnv
                subst hnv
                clear hnn hnrw
                have e256 := HBT2.out.db.box.cellN
                have hgl := HBT2.out.db.box.lt
                have hng : (Value.slice on nn cn).ownBlock ≠ some g := fun e => HBT2.out.db.fg.1 g e rfl
                have hlr : Below wr.heap.size wr (wr.alloc (.cells #[.slice orw nrw crw] 23)) := below_alloc _ _
                have HLR := Lib.hid hlr
                have HSX : Hid (Sl (wr.alloc (.cells #[.slice orw nrw crw] 23)) (.slice (some ⟨wr.heap.size, 0, none⟩) 1 1) [.slice orw nrw crw]) := Lib.hid (by simpa using sl_lit wr #[.slice orw nrw crw] 23 (by simp))
                have HT1 := Lib.hid (HBT2.out.db.rows.outer.up hlr)
                have HT3 : Hid (nvs.length + [Value.slice orw nrw crw].length ≤ 4294967296) := Lib.hid (by have h1 := HBT2.out.db.rows.len; have h2 := HGO.out.len; have h3 := HGO.out.le; simp [rowsAt] at h1; simp; omega)
                have HT4 : Hid (B ≤ (wr.alloc (.cells #[.slice orw nrw crw] 23)).heap.size) := Lib.hid (by have := hlr.size; omega)
                have HBXA := Lib.hid (HBT2.out.db.box.up hlr)
                have HNG := Lib.hid hng
                have d1 : decide ((j : Int) < j) = false := by simp
                clear hlr hng
                go_upto_region 28 with (at_builtin; refine wpList_app rfl (.tmp 88) (.tmp 90) 31 rfl B 23 (.slice none 0 0) 24 Try.underlying31 (by kernel_rfl) rfl (by decide) (.slice on nn cn) nvs rfl HT1.out (.slice (some ⟨wr.heap.size, 0, none⟩) 1 1) [.slice orw nrw crw] rfl HSX.out (by simp [Value.oneCell']) HT3.out HT4.out ?_; intro v' w5 hown1 hg1 hk1; (obtain ⟨o5, c5, q5', hv5, -⟩ := hown1.cases); (obtain ⟨n5, hn5⟩ : ∃ n5, n5 = (nvs ++ [Value.slice orw nrw crw]).length := ⟨_, rfl⟩); rw [← hn5] at hv5; subst hv5; clear hn5; have HO5 := Lib.hid hown1; have HG5 := Lib.hid hg1; have HK5 := Lib.hid hk1; clear hown1 hg1 hk1; have HBX5 := Lib.hid (HBXA.out.keep HG5.out HNG.out); have g5 := HBX5.out.free 256; have h5 := HBX5.out.cellN; have hq5 := HBX5.out.lt)
                have HPR := Lib.hid (HBT2.out.pushRow HRWW.out HRA.out HLR.out HO5.out HG5.out HK5.out)
                clear HBX5 g5 h5 hq5 HBXA HT1 HT3 HT4 HSX HO5 HG5 HK5 e256 hgl HLR
                rw [← HRN.out] at HPR
                generalize hw6 : w5.setCell ⟨g, 256, none⟩ (.slice o5 n5 c5) = w6 at *
                have HBO6 := Lib.hid HPR.out.1
                have HF6 := Lib.hid (HF2.out.trans (HPR.out.2.mono (by have := HBB.out; omega)))
                clear hw6 HPR HBT2 HF2 HRWW HRA
                obtain ⟨kt, hkt⟩ := foldl_addNew_prefix (nxtN e F r (R.getD i [])) R
                have hR2e : R2 = R ++ kt := HR2.out.trans hkt
                have hgi : R2.getD i [] = R.getD i [] := by rw [hR2e, getD_append_left' hlt]
                have him : i < R2.length := by rw [hR2e, List.length_append]; omega
                obtain ⟨oa, cap, b, off, hle, hd, hrs⟩ := HBO6.out.ls.rowsG.open
                rw [cellsL_len] at hle hd hrs
                injection hle with hle1 hle2 hle3
                subst hle1 hle3
                clear hle2
                obtain ⟨oi, ci, bi, fi, hcell, hdi, -, hsi⟩ := hrs i him
                have hix := index_any (P := Try.prog) 31 23 Try.underlying31 (by kernel_rfl) hd
                have hixi : ∀ W, (Instr.indexAt 31 (.slice og2 R2.length cg2) (.int .i64 (i : Int))).run Try.prog W = .ok (.pointer (some ⟨b, off + i, none⟩)) W := fun W => by simpa using hix W .i64 i (by omega) (by omega)
                have hbb := hd.hblk (by omega)
                rw [cellsL_get him, hgi] at hcell hdi hsi
                obtain ⟨nl, hnl⟩ : ∃ nl, nl = (ints (nz (R.getD i []))).length := ⟨_, rfl⟩
                rw [← hnl] at hcell hdi hsi
                have hB6 : B ≤ w6.heap.size := by have := HF6.out.size; have := HBB.out; omega
                have hd6 : Below w6.heap.size w6 w6.drew := by rw [World.drew_is_drewN]; exact below_drewN w6 1
                have HD6 := Lib.hid hd6
                obtain ⟨ve', vr', heq, -, hrr⟩ := HNV.out _ (HF6.out.trans (hd6.mono hB6))
                have hvr : vr' = .slice orr m cr := by
                  have := congrArg (fun x : Array Value => x.getD 2 undef) heq
                  simpa using this.symm
                rw [hvr] at hrr
                have hok := HGO.out.ok _ (getD_mem R i [] hlt)
                have hrg := right_rules HRI.out
                have HRUL := Lib.hid (leastR (w := w6.drew) (ve := .slice oe n ce) (F := F) hrr (v := .slice oi nl ci) (L := R.getD i []) (hsi.up hd6) (fun s hs => by rw [hrg.1]; exact hok.2 s hs) hrg.2)
                obtain ⟨orv, crv, grv, hrv, -⟩ := HBO6.out.db.rls.cases
                obtain ⟨nrv, hnrv⟩ : ∃ nrv, nrv = (ints (rulesAt r R i)).length := ⟨_, rfl⟩
                rw [← hnrv] at hrv
                subst hrv
                have HXQ : Hid (∀ w', (∃ y, w' = ext w6 y) → ∀ c, c < 3 → w'.cell? ⟨w.heap.size, 0 + c, none⟩ = some ((#[.slice oe n ce, .int .i64 F, .slice orr m cr] : Array Value).getD c undef)) := Lib.hid (by
                  rintro w' ⟨y, rfl⟩
                  exact HXC.out _ (HF6.out.trans ((ext_below w6 y).mono hB6)))
                have hw0 : w.heap.size < w6.heap.size := by omega
                clear hnrv hnl hkt hR2e hgi hrs hix hd hdi hsi heq hvr hrr hok hrg
                have e257 := HBO6.out.db.box.cellR
                have hgl := HBO6.out.db.box.lt
                generalize leastI r (R.getD i []) = lx at *
                have HRL : Hid ((rulesAt r R i).length ≤ 1000) := Lib.hid (by have h2 := HGO.out.len; have h3 := HGO.out.le; simp [rulesAt]; omega)
                go_wp2
                refine wp_region_tailg [0,1,2,3,4,5,6] [7,8] [9,10,11] (by kernel_rfl) (by kernel_rfl) ?_
                simp only [pick, List.map_cons, List.map_nil, List.getD_cons_zero, List.getD_cons_succ]
                repeat (first | (go_big_quiet_want; refine quiet_load_cells 25 3 _ rfl w.heap.size 0 rfl #[.slice oe n ce, .int .i64 F, .slice orr m cr] rfl HXQ.out _ Try.underlying25 rfl (by kernel_rfl) ?_; go_simp; go_big_quiet_on) | go_big_quiet_step (fail))
                refine wpQuiet_nil ?_
                generalize w6.drew = wd at *
                unfold wpAct
                go_wp2_with ((with_reducible go_at_call 31); (with_reducible refine HRUL.out.mono ?_); rintro en w7 ⟨rfl, x7, rfl⟩)
                have HB7 := Lib.hid (b_ext' HD6.out x7)
                refine ⟨ex_ext HB7.out, ?_⟩
                generalize ext wd x7 = w7 at *
                have hs7 := HB7.out.size
                have hl8 : Below w6.heap.size w6 (w7.alloc (.cells #[.int .i64 lx] 3)) := HB7.out.trans ((below_alloc w7 (.cells #[.int .i64 lx] 3)).mono hs7)
                have HL8 := Lib.hid hl8
                have HSX : Hid (Sl (w7.alloc (.cells #[.int .i64 lx] 3)) (.slice (some ⟨w7.heap.size, 0, none⟩) 1 1) (ints [lx])) := Lib.hid (by simpa [ints] using sl_lit w7 #[.int .i64 lx] 3 (by simp))
                have HT1 := Lib.hid (HBO6.out.db.rls.up hl8)
                have HT3 : Hid ((ints (rulesAt r R i)).length + (ints [lx]).length ≤ 4294967296) := Lib.hid (by have := HRL.out; simp only [ints_length, List.length_singleton]; omega)
                have HT4 : Hid (B ≤ (w7.alloc (.cells #[.int .i64 lx] 3)).heap.size) := Lib.hid (by have := hl8.size; omega)
                have HBXA := Lib.hid (HBO6.out.db.box.up hl8)
                have HRG := Lib.hid HBO6.out.db.rg
                clear hl8 e257 hgl hs7 hcell hixi hbb HRUL HXQ hw0
                (unfold wpAct; go_wp2; refine ⟨ex_ext HL8.out, ?_⟩)
                unfold wpAct
                unfold wpAct
                go_wp2_with (at_builtin; refine wpList_app rfl (.tmp 94) (.tmp 101) 23 rfl B 3 (.int .i64 0) 8 Try.underlying23 (by kernel_rfl) rfl (by decide) (.slice orv nrv crv) (ints (rulesAt r R i)) rfl HT1.out (.slice (some ⟨w7.heap.size, 0, none⟩) 1 1) (ints [lx]) rfl HSX.out (ints_one _) HT3.out HT4.out ?_; intro v' w9 hown1 hg1 hk1; (obtain ⟨o9, c9, q9', hv9, -⟩ := hown1.cases); (obtain ⟨n9, hn9⟩ : ∃ n9, n9 = (ints (rulesAt r R i) ++ ints [lx]).length := ⟨_, rfl⟩); rw [← hn9] at hv9; subst hv9; clear hn9; have HO9 := Lib.hid hown1; have HG9 := Lib.hid hg1; have HK9 := Lib.hid hk1; clear hown1 hg1 hk1)
                have HBX9 := Lib.hid (HBXA.out.keep HG9.out HRG.out)
                have g9 := HBX9.out.free 257
                have h9 := HBX9.out.cellR
                have hq9 := HBX9.out.lt
                refine ⟨trivial, ?_⟩
                (unfold wpAct; go_wp2; refine ⟨trivial, ?_⟩)
                (unfold wpAct; go_wp2; refine ⟨trivial, ?_⟩)
                unfold wpAct
                have HPU := Lib.hid (HBO6.out.pushRule HL8.out (x := lx) (by rw [ints_app]; exact HO9.out) HG9.out HK9.out)
                rw [← HUN.out] at HPU
                have hi1000 : i < 1000 := by have := HGO.out.len; omega
                go_wp2
                go_roundg (1001 - (i + 1))
                case measure => have := HGO.out.len; omega
                case rel => exact ⟨i + 1, R2, _, _, _, _, by go_num, HGN.out, HPU.out.1, HF6.out.trans (HPU.out.2.mono (by have := HBB.out; omega)), rfl⟩
          · have d0 : decide ((i : Int) < R.length) = false := by simp; omega
            obtain ⟨hl1, hl2, hl3⟩ := HGO.out.done hlt
            have HE : Hid (subE e F r = 0 ∧ subI e F r = dfaS e F r R) := Lib.hid ⟨by unfold subE; rw [if_pos HRI.out, hl1], by unfold subI; rw [if_pos HRI.out, hl1]⟩
            have HRW : Hid (rowsAt e F r R i = (dfaS e F r R).next) := Lib.hid hl2
            have HRU : Hid (rulesAt r R i = (dfaS e F r R).rules) := Lib.hid hl3
            obtain ⟨A9, hA9, hs9, hl9⟩ := HBT.out.db.box.open
            have HA9 := Lib.hid hA9
            have HS9 := Lib.hid hs9
            have HL9 := Lib.hid hl9
            have hn1c : nv.oneCell' = true := own_oneCell HBT.out.db.rows.outer
            have hr1c : rv.oneCell' = true := own_oneCell HBT.out.db.rls
            have HRS9 := Lib.hid (HR1.out _ HF.out)
            clear hA9 hs9 hl9 hl1 hl2 hl3
            go_wp2_with (first | (refine load_dfa rfl _ rfl g rfl A9 HS9.out HA9.out ?_) | (refine store_dfa rfl _ _ rfl (w.heap.size + 1) rfl A9 rfl HL9.out HBT.out.db.box.len hn1c hr1c HRS9.out ?_; intro w12 hb12 hg12; have HB12 := Lib.hid hb12; have HG12 := Lib.hid hg12; clear hb12 hg12))
            have hnv9 := ((HBT.out.db.rows.keep' HG12.out (HBT.out.db.rows.free_below (by omega))).rowsG.ints)
            have hrv9 : IntsAt w12 rv (rulesAt r R i) := (HBT.out.db.rls.keep HG12.out (by
              cases hro : rv.ownBlock with
              | none => exact .inl rfl
              | some k => exact .inr (fun e => by injection e with e; have := (HBT.out.db.rls.lt k hro).1; omega))).sl
            refine ret_dfa rfl rfl rfl rfl HB12.out hnv9 hrv9 fun v hv => ⟨v, by rw [HE.out.1]; rfl, ?_, ?_⟩
            · rw [HE.out.2]
              rw [HRW.out, HRU.out, HCO.out] at hv
              exact hv
            · have h1 := HFR.out _ (HF.out.mono (by have := HBB.out; omega))
              exact h1.grown HG12.out h1.size (fun j hj => by injection hj with hj; omega)
  · have hrf : rightN e F r = false := by simpa using hrt
    have HE : Hid (subE e F r = 4 ∧ subI e F r = zeroD) := Lib.hid ⟨by unfold subE; rw [if_neg hrt], by unfold subI; rw [if_neg hrt]⟩
    rw [hrf] at HRT
    clear hrf hrt HCN
    go_enter Try.func11, Try.ntmps11
    go_wp2_with (first
      | (refine wpList_load_cells rfl 25 _ rfl w.heap.size 0 3 rfl _ _ (nfaBox HBX.out) rfl Try.underlying25 rfl (by kernel_rfl) ?_)
      | ((with_reducible go_at_call 22); refine HRT.out.mono ?_; rintro en w1 ⟨rfl, x1, rfl⟩)
      | (refine store_dfa rfl _ _ rfl (w.heap.size + 1) rfl Z rfl HZL.out List.length_replicate rfl rfl (HB1.out.up (ext_below _ x1)) ?_; intro w3 hb3 hg3; have HB3 := Lib.hid hb3; have HG3 := Lib.hid hg3; clear hb3 hg3))
    refine ret_dfa rfl rfl rfl rfl HB3.out (rows_nil _) (rules := []) (Sl.nil _) fun v hv => ⟨v, by rw [HE.out.1]; rfl, by rw [HE.out.2]; exact hv, ?_⟩
    have h1 := HA.out.trans ((ext_below _ x1).mono HA.out.size)
    exact h1.grown HG3.out h1.size (fun k hk => by cases hk; omega)
end Go.Cm

/- The walk of SubsetMakes. Conditions: the edges' sets are words. -/
namespace Go.Cm
open Go.RowKit Go.Proofs

set_option maxRecDepth 100000 in
set_option maxHeartbeats 8000000 in
theorem subsetMakes {w : World} {A : Array Value} {e : List (List Ed)} {F : Int} {r : List Int} (h : NfaV w A e F r) (hw : ∀ a x, x ∈ Row e a → EdW x) :
    Calls Try.prog 3 #[.agg A] w fun en w' => en = .returned (.bool true) ∧ ∃ x, w' = ext w x := by
  have HKN := Lib.hid (fun (x : World) => known19 (w := x))
  have HH := Lib.hid h
  have HEW := Lib.hid hw
  have HSW : Hid (∀ a x, x ∈ Row e a → SetW x) := Lib.hid (fun a x hx => (hw a x hx).set)
  obtain ⟨ve, vr, rfl, he, hr⟩ := h
  obtain ⟨oe, ce, be, fe, rfl, -, -⟩ := he.open
  obtain ⟨orr, cr, br, fr, rfl, -, -⟩ := hr.open
  obtain ⟨n, hn⟩ : ∃ n, n = e.length := ⟨_, rfl⟩
  obtain ⟨m, hm⟩ : ∃ m, m = r.length := ⟨_, rfl⟩
  rw [← hn, ← hm] at HH ⊢
  have hz := zero_dfa
  have hzc := zero_cls
  obtain ⟨Z, hZ⟩ : ∃ Z, Z = zArr := ⟨_, rfl⟩
  obtain ⟨ZC, hZC⟩ : ∃ ZC, ZC = zCls := ⟨_, rfl⟩
  rw [← hZ] at hz
  rw [← hZC] at hzc
  have HBN : Hid (∀ W : World, BoxD (W.alloc (.cells Z 33)) W.heap.size (.slice none 0 0) (.slice none 0 0) (List.replicate 256 0)) := Lib.hid (fun W => hZ ▸ box_new W)
  have HBZ : Hid (∀ w : World, BoxA (w.alloc (.cells ZC 28)) 28 256 w.heap.size (List.replicate 256 0)) := Lib.hid (fun w => boxZ w ZC hZC)
  have hml := he.open
  clear he hr hn hm hZ hZC hw hml
  have HA := Lib.hid (below_alloc w (.cells #[.slice oe n ce, .int .i64 F, .slice orr m cr] 25))
  have HSM := Lib.hid (smallN (HH.out.up HA.out))
  have HBX := Lib.hid (by simpa using own_lit w 0 #[.slice oe n ce, .int .i64 F, .slice orr m cr] 25 (by simp) (Nat.zero_le _) : Own (w.alloc (.cells #[.slice oe n ce, .int .i64 F, .slice orr m cr] 25)) 0 25 (.slice (some ⟨w.heap.size, 0, none⟩) 3 3) [.slice oe n ce, .int .i64 F, .slice orr m cr])
  go_enter Try.func3, Try.ntmps3
  by_cases hn8 : 8 < n
  · go_wp2_with (first
      | ((with_reducible go_at_call 6); refine HSM.out.mono ?_; rintro en w1 ⟨⟨b, rfl, -⟩, x1, rfl⟩; have HB1 := Lib.hid (HA.out.trans ((ext_below _ x1).mono HA.out.size)); have HBX1 := Lib.hid (HBX.out.up (ext_below _ x1)); generalize ext (w.alloc (.cells #[.slice oe n ce, .int .i64 F, .slice orr m cr] 25)) x1 = w1 at *; have c0 := HBX1.out.cell (i := 0) (by simp); simp only [List.getD_cons_zero] at c0; have hp := HBX1.out.blk.2; cases b)
      | ((with_reducible go_at_call 7); refine (HKN.out _).mono ?_; rintro en w2 ⟨rfl, x2, rfl⟩))
    all_goals
      go_ret
      exact ⟨rfl, ex_ext (HB1.out.trans ((ext_below w1 x2).mono HB1.out.size))⟩
  go_upto_region 3 with (first
      | ((with_reducible go_at_call 6); refine HSM.out.mono ?_; rintro en w1 ⟨⟨b, rfl, hsm⟩, x1, rfl⟩; have HSB := Lib.hid hsm; clear hsm; have HB1 := Lib.hid (HA.out.trans ((ext_below _ x1).mono HA.out.size)); have HBX1 := Lib.hid (HBX.out.up (ext_below _ x1)); generalize ext (w.alloc (.cells #[.slice oe n ce, .int .i64 F, .slice orr m cr] 25)) x1 = w1 at *; have c0 := HBX1.out.cell (i := 0) (by simp); simp only [List.getD_cons_zero] at c0; have hp := HBX1.out.blk.2; cases b)
      | ((with_reducible go_at_call 7); refine (HKN.out _).mono ?_; rintro en w2 ⟨rfl, x2, rfl⟩))
  · go_ret
    exact ⟨rfl, ex_ext (HB1.out.trans ((ext_below w1 x2).mono HB1.out.size))⟩
  have HTOT := Lib.hid (HSB.out trivial).1
  obtain ⟨p, hp0⟩ : ∃ p, p = w.heap.size := ⟨_, rfl⟩
  rw [← hp0] at HBX1 ⊢
  clear hp0
  have HH1 := Lib.hid (fun (x : World) (hx : Below w1.heap.size w1 x) => (HH.out.up (HB1.out.trans (hx.mono HB1.out.size)) : NfaV x _ e F r))
  have HCP := Lib.hid (classesP (HH.out.up HB1.out) HEW.out (by have := HTOT.out; omega))
  have HCL := Lib.hid (fun (x : World) (hx : Below w1.heap.size w1 x) => classesR (HH1.out x hx) HSW.out)
  have HSP := Lib.hid (fun (x : World) (hx : Below w1.heap.size w1 x) => subMakeP (HH1.out x hx) HEW.out (by have := HTOT.out; omega))
  have HSR := Lib.hid (fun (x : World) (hx : Below w1.heap.size w1 x) => subMakeR (HH1.out x hx) HSW.out)
  unfold RetCls at HCP HCL
  unfold RetSub at HSP HSR
  have HCE : Hid ((clsO e F r).length = 256) := Lib.hid (clsO_len _ _ _)
  have heq := fun W => run_eql_cls (clsO_len e F r) (clsO_len e F r) W
  have heg := fun (W : World) (x y : Operand) => eqGuard_cls2 W x y (ints (clsO e F r)).toArray (ints (clsO e F r)).toArray
  rw [decide_eq_true (rfl : clsO e F r = clsO e F r)] at heq
  generalize clsO e F r = CO at *
  generalize cntO e F r = KO at *
  generalize subE e F r = E at *
  generalize subI e F r = D at *
  have HEQ := Lib.hid heq
  have HEG := Lib.hid heg
  clear HH HH1 HEW HSW HTOT HSB HSM HBX HA c0 hp heq heg
  go_upto_region 4 with (first
    | (refine wpList_load_cells rfl 25 _ rfl p 0 3 rfl _ _ (nfaBox HBX1.out) rfl Try.underlying25 rfl (by kernel_rfl) ?_)
    | ((with_reducible go_at_call 8); (with_reducible refine HCP.out.mono ?_); rintro en w3 ⟨rfl, hb3⟩; have HB3 := Lib.hid hb3; clear hb3)
    | (refine store_box rfl 28 256 _ _ rfl w3.heap.size rfl _ CO rfl HCE.out (by kernel_rfl) (HBZ.out w3) ?_; intro w4 hb4 hg4; have HX4 := Lib.hid hb4; have HB4 := Lib.hid ((below_alloc w3 (.cells ZC 28)).grown hg4 (by simp) (fun j hj => by cases hj; exact Nat.le_refl _)); clear hb4 hg4))
  have HW4 := Lib.hid (HB3.out.trans (HB4.out.mono HB3.out.size))
  have HBX4 := Lib.hid (HBX1.out.up HW4.out)
  have HC4 := Lib.hid (HCL.out w4 HW4.out)
  clear HCP HCL HBX1 HB3 HB4
  generalize w3.heap.size = p3 at *
  go_upto_region 5 with (first
    | (refine wpList_load_cells rfl 25 _ rfl p 0 3 rfl _ _ (nfaBox HBX4.out) rfl Try.underlying25 rfl (by kernel_rfl) ?_)
    | ((with_reducible go_at_call 9); (with_reducible refine HC4.out.mono ?_); rintro en w5 ⟨rfl, hb5⟩; have HB5 := Lib.hid hb5; clear hb5)
    | (refine store_box rfl 28 256 _ _ rfl w5.heap.size rfl _ CO rfl HCE.out (by kernel_rfl) (HBZ.out w5) ?_; intro w6 hb6 hg6; have HX6 := Lib.hid hb6; have HB6 := Lib.hid ((below_alloc w5 (.cells ZC 28)).grown hg6 (by simp) (fun j hj => by cases hj; exact Nat.le_refl _)); clear hb6 hg6))
  have HB46 := Lib.hid (HB5.out.trans (HB6.out.mono HB5.out.size))
  have HW6 := Lib.hid (HW4.out.trans (HB46.out.mono HW4.out.size))
  have HX46 := Lib.hid (HX4.out.up HB46.out)
  have HBX6 := Lib.hid (HBX4.out.up HB46.out)
  have HS6 := Lib.hid (HSP.out w6 HW6.out)
  clear HC4 HBX4 HB5 HB6 HX4 HB46 HW4 HSP HBZ hzc
  generalize w5.heap.size = p5 at *
  go_upto_region 6 with (first
    | (refine wpList_load_cells rfl 25 _ rfl p 0 3 rfl _ _ (nfaBox HBX6.out) rfl Try.underlying25 rfl (by kernel_rfl) ?_)
    | ((with_reducible go_at_call 10); (with_reducible refine HS6.out.mono ?_); rintro en w7 ⟨v7, rfl, ⟨C7, rfl, hv7⟩, hb7⟩; have HV7 := Lib.hid hv7; have HB7 := Lib.hid hb7; clear hv7 hb7)
    | (refine store_new rfl _ _ rfl w7.heap.size rfl C7 rfl HV7.out (HBN.out w7) ?_; intro w8 hg8 hgr8; have HN8 := Lib.hid (DfaIn.new HV7.out hg8 hgr8); clear hg8 hgr8))
  have HB68 := Lib.hid (HB7.out.trans (HN8.out.2.mono HB7.out.size))
  have HW8 := Lib.hid (HW6.out.trans (HB68.out.mono HW6.out.size))
  have HX48 := Lib.hid (HX46.out.up HB68.out)
  have HX68 := Lib.hid (HX6.out.up HB68.out)
  have HBX8 := Lib.hid (HBX6.out.up HB68.out)
  have HD8 := Lib.hid HN8.out.1
  have HS8 := Lib.hid (HSR.out w8 HW8.out)
  clear HS6 HBX6 HB7 HV7 HN8 HB68 HW6 HX46 HX6 HSR
  generalize w7.heap.size = p7 at *
  go_upto_region 7 with (first
    | (refine wpList_load_cells rfl 25 _ rfl p 0 3 rfl _ _ (nfaBox HBX8.out) rfl Try.underlying25 rfl (by kernel_rfl) ?_)
    | ((with_reducible go_at_call 11); (with_reducible refine HS8.out.mono ?_); rintro en w9 ⟨v9, rfl, ⟨C9, rfl, hv9⟩, hb9⟩; have HV9 := Lib.hid hv9; have HB9 := Lib.hid hb9; clear hv9 hb9)
    | (refine store_new rfl _ _ rfl w9.heap.size rfl C9 rfl HV9.out (HBN.out w9) ?_; intro w10 hg10 hgr10; have HN10 := Lib.hid (DfaIn.new HV9.out hg10 hgr10); clear hg10 hgr10))
  have HB810 := Lib.hid (HB9.out.trans (HN10.out.2.mono HB9.out.size))
  have HW10 := Lib.hid (HW8.out.trans (HB810.out.mono HW8.out.size))
  have HXA := Lib.hid (HX48.out.up HB810.out)
  have HXB := Lib.hid (HX68.out.up HB810.out)
  have HDA := Lib.hid (HD8.out.up HB810.out)
  have HDB := Lib.hid HN10.out.1
  clear HS8 HBX8 HB9 HV9 HN10 HB810 HW8 HX48 HX68 HD8 HBN hz
  generalize w9.heap.size = p9 at *
  have HSA := Lib.hid (same_same (.agg C7) (.agg C9) D w10 ⟨C7, rfl, HDA.out.2⟩ ⟨C9, rfl, HDB.out.2⟩)
  have HS7 := Lib.hid HDA.out.2.hsize
  have HS9 := Lib.hid HDB.out.2.hsize
  have heq := HEQ.out
  have heg := HEG.out
  have hko : (KO == KO) = true := by simp
  go_wp2_with (first
    | (refine load_box rfl 28 256 _ rfl p3 rfl _ HXA.out.arr.2 HXA.out.arr.1 _ Try.underlying28 rfl (by kernel_rfl) ?_)
    | (refine load_box rfl 28 256 _ rfl p5 rfl _ HXB.out.arr.2 HXB.out.arr.1 _ Try.underlying28 rfl (by kernel_rfl) ?_))
  refine op_load_dfa _ rfl p7 rfl C7 HS7.out HDA.out.1 ?_
  go_wp2_with (fail)
  refine op_load_dfa _ rfl p9 rfl C9 HS9.out HDB.out.1 ?_
  go_wp2_with (fail)
  refine HSA.out.mono ?_
  rintro en w11 ⟨rfl, x11, rfl⟩
  have hee : (E == E) = true := by simp
  go_wp2_with ((with_reducible go_at_call 7); refine (HKN.out _).mono ?_; rintro en w12 ⟨rfl, x12, rfl⟩)
  go_ret
  exact ⟨rfl, ex_ext (HB1.out.trans ((HW10.out.trans (((ext_below w10 x11).trans ((ext_below _ x12).mono (ext_below w10 x11).size)).mono HW10.out.size)).mono HB1.out.size))⟩
end Go.Cm
