/- Walks of functions and plain facts, joined and squeezed by a program. Conditions: as each says. -/
import Derived.Test.YtiladjhipahiiaaDMXL
import Derived.Test.YtiladjhipahiiaaDMXK
set_option maxHeartbeats 8000000
set_option maxRecDepth 100000
set_option linter.unusedSimpArgs false
open Go.Proofs.Try
namespace Go.Cm
open Go.RowKit Go.Proofs
theorem ZmM0{P:Prop}(h:P:=by
 obtain ⟨x', k', h1', -, -, -, -, h6⟩ := iY hc
 rw [lX]
 have := qZ List.length h1
 have h7 := qZ List.length h1'
 simp only [qz] at this h7
 omega):P:=h
theorem RpS.call2{A0 A':Nat->Prop}{w W W':World}{x:Nd}{u u':Value}{k:Fo}{t:Tm}(h:RpS A0 w W x u k)(hT:aM (upA A' W.heap.size) W' u' t.2)(hA:∀b,A' b->A0 b\/w.heap.size+1+1<=b)(hb:Below W.heap.size W W'):RpR A0 w W' t u':=
 ⟨(h.up hb).bel,(h.up hb).box,hT.mono fun b hb=>hb.elim (hA b) (fun h2=>.inr (qc h.sz h2))⟩
theorem RpS.drew1{A0:Nat->Prop}{w W:World}{x:Nd}{u:Value}{k:Fo}(_h:RpS A0 w W x u k):Below W.heap.size W W.drew:=fR (qn _ _)
theorem RpS.rws{A0:Nat->Prop}{w W:World}{x:Nd}{u:Value}{k:Fo}(h:RpS A0 w W x u k):RwS W W (w.heap.size+1) none:=⟨qn _ _,h.box,h.sz,fun q e=>by cases e⟩
theorem RpS.rpr{A0:Nat->Prop}{w W0 W:World}{x:Nd}{u v:Value}{k:Fo}{t:Tm}(hS:RpS A0 w W0 x u k)(h:RwS W0 W (w.heap.size+1) none)(hT:aM (UA A0 (w.heap.size+1) none) W v t.2):RpR A0 w W t v:=
 ⟨hS.bel.trans (h.bel.mono hS.bel.size),h.box,hT.mono fun _ hb=>hb.1⟩
theorem q5x{n:Int}{k:Fo}(e1:n=1)(e2:n=cnt k):∃y j,k=.cons y j .nil:=by
 cases k with
 |nil=>simp only[cnt]at e2;omega
 |cons y j r=>
  cases r with
  |nil=>exact⟨y,j,rfl⟩
  |cons z q r=>simp only[cnt]at e2;omega
theorem q4F (c : Nat) (hc : c < 256) : ∀ N, N ≤ 400 → q5f c N := by
  intro N
  induction N with
  | zero => intro _ A W y v j h; omega
  | succ N ih =>
    intro hN A w x u k hs hg h
    have ih := ih (by omega)
    obtain ⟨A0, hA0⟩ : ∃ A0, A0 = fun b => A b ∧ b < w.heap.size := ⟨_, rfl⟩
    have h0 := h.lt
    rw [← hA0] at h0
    have HA1 : Hid (∀ b, A0 b → A b ∧ b < w.heap.size) := qa (fun b hb => by rw [hA0] at hb; exact hb)
    obtain ⟨o, n, cp, rfl, hn⟩ := h.form
    subst hn
    have HS := qa (RpS.new (x := x) h0)
    have HEM : Hid (∀ W, Calls prog 49 #[] W (iC A0 eE W)) := qa (fun W => D5 A0)
    have HNO : Hid (∀ W, Calls prog 40 #[] W (iC A0 eS W)) := qa (fun W => K0 A0)
    have HHA : Hid (∀ W, Calls prog 48 #[.agg #[.int .u64 x.a, .int .u64 x.b, .int .u64 x.c, .int .u64 x.d], .int .u8 c] W fun e w' => e = .returned (.bool (kV (bW x 0) c)) ∧ ∃ x, w' = ext W x) := qa (fun W => q0w (bW x 0) c hc)
    have q6I := qa (fun (W : World) (hT : aM A0 W (.slice o (cnt k) cp) k) => q3y c N ih (by omega) k (by omega) hg.2.2 hT)
    obtain ⟨R, hR⟩ : ∃ R, R = iB c x k (cV c k) := ⟨_, rfl⟩
    rw [← hR]
    have HR : Hid (R = iB c x k (cV c k)) := qa hR
    unfold iB at HR
    have hk1 : 5 ≤ x.kd → ∃ y j, k = .cons y j .nil := fun h5 => q5x (hg.1.2.1 h5) hg.2.1
    have hkd := hg.1.1.1
    have HG := qa hg
    have HT0 := qa h0
    have HHI := qa hg.1.2.2
    have HOT := qa hg.1.1
    clear h h0 hA0 hR hg
    by_cases h1 : x.kd = 1
    · have HR1 : Hid (R = if kV (bW x 0) c = true then eE else eS) := qa (by rw [HR.o, qv h1])
      generalize kV (bW x 0) c = hv at *
      clear HR q6I hk1 HHI HOT HT0 HG ih
      obtain ⟨kd, nn, a, b, c', d, lo, hi⟩ := x
      simp only at h1
      subst h1
      cases hv
      · have HRF : Hid (R = (noT, .nil)) := qa HR1.o
        go_enter func31, ntmps31
        go_wp2_with (first
          | ((with_reducible refine (HHA.o _).mono ?_); rintro e w5 ⟨rfl, hx⟩; have HS := qa (HS.o.up (aE hx)); clear hx)
          | ((with_reducible refine (HNO.o _).mono ?_); rintro e w6 ⟨u6, rfl, hT6, hb⟩; have HC := qa (HS.o.call (t := eS) hT6 hb); clear hb hT6)
          | (refine b6 rfl (.tmp 4) _ rfl (w.heap.size + 1) rfl noT u6 HC.o.tm.one rfl _ HC.o.box (show (8 : Nat) = 8 from rfl) ?_; intro w7 hbx hg; have HX7 := qa hbx; have q5R := qa hg; clear hbx hg))
        exact HC.o.ret HA1.o q5R.o HX7.o HRF.o rfl rfl rfl
      · have HRF : Hid (R = (emT, .nil)) := qa HR1.o
        go_enter func31, ntmps31
        go_wp2_with (first
          | ((with_reducible refine (HHA.o _).mono ?_); rintro e w5 ⟨rfl, hx⟩; have HS := qa (HS.o.up (aE hx)); clear hx)
          | ((with_reducible refine (HEM.o _).mono ?_); rintro e w6 ⟨u6, rfl, hT6, hb⟩; have HC := qa (HS.o.call (t := eE) hT6 hb); clear hb hT6)
          | (refine b6 rfl (.tmp 4) _ rfl (w.heap.size + 1) rfl emT u6 HC.o.tm.one rfl _ HC.o.box (show (8 : Nat) = 8 from rfl) ?_; intro w7 hbx hg; have HX7 := qa hbx; have q5R := qa hg; clear hbx hg))
        exact HC.o.ret HA1.o q5R.o HX7.o HRF.o rfl rfl rfl
    · rw [qu h1] at HR
      by_cases h3 : x.kd = 3
      · rw [qv h3] at HR
        clear HHA hk1 HHI HOT ih HEM HNO HG HT0
        generalize tL k (cV c k) = t at *
        obtain ⟨⟨tk, tn, ta, tb, tc, td, tl, th⟩, tf⟩ := t
        obtain ⟨kd, nn, a, b, c', d, lo, hi⟩ := x
        simp only at h3
        subst h3
        go_enter func31, ntmps31
        go_wp2_with (first
          | ((with_reducible refine (q6I.o _ HS.o.tm).mono ?_); rintro e w6 ⟨u6, rfl, hT6, hb⟩; have HC := qa (HS.o.call (t := (⟨tk, tn, ta, tb, tc, td, tl, th⟩, tf)) hT6 hb); clear hb hT6)
          | (refine b6 rfl (.tmp 4) (.tmp 22) rfl (w.heap.size + 1) rfl ⟨tk, tn, ta, tb, tc, td, tl, th⟩ u6 HC.o.tm.one rfl _ HC.o.box (show (8 : Nat) = 8 from rfl) ?_; intro w7 hbx hg; have HX7 := qa hbx; have q5R := qa hg; clear hbx hg))
        exact HC.o.ret HA1.o q5R.o HX7.o HR.o rfl rfl rfl
      · rw [qu h3] at HR
        by_cases h4 : x.kd = 4
        · rw [qv h4] at HR
          have gd := dZ c k HG.o.2.2
          have sd := Q9 c k (by omega)
          obtain ⟨D, hD⟩ : ∃ D, D = cV c k := ⟨_, rfl⟩
          rw [← hD] at HR gd sd
          have HDC : Hid (cnt D ≤ 324400) := qa (qc (tN D) sd)
          have qb1 := qa (fun (A' : Nat → Prop) (W : World) (v' : Value) (hT : aM A' W v' D) => q5e hT gd.okT (by omega))
          have HV0 : Hid (eQ .nil (cV c k) = D) := qa hD.symm
          have HGF : Hid (cU k) := qa HG.o.2.2
          have HSF : Hid (szF k ≤ N) := qa (by omega)
          have HIH := qa ih
          generalize J3 D = al at *
          obtain ⟨⟨ak, an, aa, ab, ac, ad, al', ah⟩, af⟩ := al
          have hb1 := aB w (.cells (tmA x (.slice o (cnt k) cp)) 56)
          have hsz : ((w.alloc (.cells (tmA x (.slice o (cnt k) cp)) 56)).alloc (.cells tm0 56)).heap.size = w.heap.size + 1 + 1 := by simp
          obtain ⟨rs, oa, cap, b, off, hv, hd, hw⟩ := HS.o.tm.walk
          injection hv with e1 e2 e3
          subst e1
          subst e3
          have HIX := qa (dL hd)
          have HW := qa hw
          have hm := hd.len
          have HR0 := qa hw.rows
          obtain ⟨kd, nn, a, b', c', d, lo, hi⟩ := x
          simp only at h4
          subst h4
          obtain ⟨W1, hW1⟩ : ∃ W1, W1 = (w.alloc (.cells (tmA ⟨4, nn, a, b', c', d, lo, hi⟩ (.slice o (cnt k) cp)) 56)).alloc (.cells tm0 56) := ⟨_, rfl⟩
          have HW1 : Hid (W1 = (w.alloc (.cells (tmA ⟨4, nn, a, b', c', d, lo, hi⟩ (.slice o (cnt k) cp)) 56)).alloc (.cells tm0 56)) := qa hW1
          rw [← hW1] at HS HW HR0 hsz
          have HSZ := qa hsz
          generalize cnt k = m at *
          clear h1 h3 hk1 HHI HOT ih HEM HNO HG HT0 hD gd sd hb1 hsz e2 hd hw hN hs q6I HHA hkd hc hW1
          go_enter func31, ntmps31
          go_wp2
          go_loopg [5, 28] m (fun gk ov iv wr => ∃ (i : Nat) (acc r : Fo), iv = .int .i64 i ∧ i ≤ m ∧ kM A0 wr W1.heap.size 56 ov acc ∧ Hid (eQ acc (cV c r) = D) ∧ cU r ∧ szF r ≤ N ∧ bC A0 W1 (rs.drop i) r ∧ Below W1.heap.size W1 wr ∧ gk = m - i)
          case atStart => exact ⟨0, .nil, k, rfl, qd _, kM.nil _ _ _ _, HV0.o, HGF.o, HSF.o, HR0.o, by rw [HW1.o]; exact qn _ _, rfl⟩
          case round =>
            obtain ⟨i, acc, r, rfl, hi, hO, HV, hgr, hsr, hrr, hB, hgk⟩ := hrel
            have HB := qa hB
            have HO := qa hO
            have HGK := qa hgk
            have HRR := qa hrr
            have HGR := qa hgr
            have HSR := qa hsr
            have HAB : Hid (∀ b, A0 b → b < W1.heap.size) := qa (fun b hb => by have := (HA1.o b hb).2; have := HSZ.o; omega)
            clear hB hgk hrr hO hgr hsr HR0 HGF HSF HV0 HW1
            by_cases hlt : i < m
            · have q64 := fun W => HIX.o W i hlt
              obtain ⟨y, oj, nj, cj, j, r', hre, ht, hrr, hcc⟩ := HW.o.next HRR.o hlt HB.o
              subst hre
              have hgt := bF HGR.o
              have q9n := qa hgt.2
              have q9g : Hid (szF r' ≤ N) := qa (by have := HSR.o; rw [szF] at this; omega)
              have HCW := qa hcc
              have q5Y := qa hrr
              have HBX := qa (cM wr y (.slice oj nj cj))
              have hbn := aB wr (.cells (tmA y (.slice oj nj cj)) 56)
              have HBA := qa (HB.o.trans (hbn.mono HB.o.size))
              have HT := qa (ht.up HBA.o)
              have HO2 := qa (HO.o.up hbn)
              have HBY := qa (HIH.o A0 _ y (.slice oj nj cj) j (by have := HSR.o; rw [szF] at this; omega) hgt.1 HT.o)
              have HV2 : Hid (eQ (eQ acc (one (iB c y j (cV c j)) .nil)) (cV c r') = D) := qa (by rw [eO, ← HV.o, cV]; rfl)
              generalize iB c y j (cV c j) = d1 at *
              obtain ⟨⟨dk, dn, da, db, dc, dd, dl, dh⟩, df⟩ := d1
              have q6x : Hid (cnt acc + cnt (.cons ⟨dk, dn, da, db, dc, dd, dl, dh⟩ df .nil) ≤ 1000000000) := qa (by have h := HDC.o; rw [← HV2.o, eJ, eJ] at h; simp only [cnt, one] at *; omega)
              clear hrr hcc HIX HRR HB HO hbn ht hgt HGR HSR HV qb1 HIH HT
              obtain ⟨ykd, yn, ya, yb, yc, yd, ylo, yhi⟩ := y
              go_wp2_with (first
                | (refine cR rfl (.tmp 30) rfl b (off + i * 8) rfl ykd yn ya yb yc yd ylo yhi (.slice oj nj cj) HCW.o ?_)
                | (refine bY rfl (.tmp 7) rfl wr.heap.size rfl ykd yn ya yb yc yd ylo yhi (.slice oj nj cj) HBX.o ?_)
                | ((with_reducible refine HBY.o.mono ?_); rintro e w6 ⟨u6, rfl, hT6, hb⟩; obtain ⟨p6, n6, k6, hu6, -⟩ := hT6.form; subst hu6; have hAF := HO2.o.after HAB.o HBA.o.size hT6
                   have hb2 := aB w6 (.cells (tmA ⟨dk, dn, da, db, dc, dd, dl, dh⟩ (.slice p6 n6 k6)) 56)
                   have HX := qa (pD w6 ⟨dk, dn, da, db, dc, dd, dl, dh⟩ (.slice p6 n6 k6))
                   have HN := qa (bC.single (x := ⟨dk, dn, da, db, dc, dd, dl, dh⟩) (hAF.up hb2))
                   have HO3 := qa ((HO2.o.up hb).up hb2)
                   have hB6 := HBA.o.trans (hb.mono HBA.o.size)
                   have HBB := qa (hB6.trans (hb2.mono hB6.size))
                   clear hb hT6 hAF hb2 hB6)
                | (at_builtin; refine dT rfl (.tmp 32) (.tmp 36) rfl A0 W1.heap.size _ acc rfl HO3.o _ rfl _ _ HX.o HN.o q6x.o HBB.o.size ?_; intro v5 w5 hO hg hq hk5; have HO5 := qa hO; have HB5 := qa (HBB.o.grown hg HBB.o.size hq); clear hO hg hq hk5))
              go_roundg (m - (i + 1))
              case measure => have := HGK.o; omega
              case rel => exact ⟨i + 1, _, r', by go_num, by omega, HO5.o, HV2, q9n.o, q9g.o, q5Y.o, HB5.o, rfl⟩
            · have hr0 := HRR.o.done (by rw [HW.o.len]; omega)
              subst hr0
              have he : acc = D := by rw [← HV.o, cV, i7]
              have HTA := qa HO.o.tms
              rw [he] at HTA
              have HSE := qa (HS.o.up HB.o)
              have HA2 : Hid (∀ b, upA A0 W1.heap.size b → A0 b ∨ w.heap.size + 1 + 1 ≤ b) := qa (fun b hb => by rw [← HSZ.o]; exact hb)
              clear HV HS HB HO HIH HRR he
              go_wp2_with (first
                | ((with_reducible refine (qb1.o _ _ _ HTA.o).mono ?_); rintro e w6 ⟨u6, rfl, hT6, hb⟩; have HC := qa (HSE.o.call2 (t := (⟨ak, an, aa, ab, ac, ad, al', ah⟩, af)) hT6 HA2.o hb); clear hb hT6)
                | (refine b6 rfl (.tmp 4) (.tmp 40) rfl (w.heap.size + 1) rfl ⟨ak, an, aa, ab, ac, ad, al', ah⟩ u6 HC.o.tm.one rfl _ HC.o.box (show (8 : Nat) = 8 from rfl) ?_; intro w7 hbx hg; have HX7 := qa hbx; have q5R := qa hg; clear hbx hg))
              exact HC.o.ret HA1.o q5R.o HX7.o HR.o rfl rfl rfl
        · rw [qu h4] at HR
          by_cases h5 : 5 ≤ x.kd
          · obtain ⟨y, j, rfl⟩ := hk1 h5
            have hc1 : cnt (.cons y j .nil) = 1 := rfl
            obtain ⟨rs, oa, cap, b, off, hv, hd, hw⟩ := HS.o.tm.walk
            rw [hc1] at HS hv hd hw
            injection hv with e1 e2 e3
            subst e1
            subst e3
            obtain ⟨z, oj, nj, cj, j', r', hre, ht, -, hcc⟩ := hw.next (i := 0) hw.rows Nat.one_pos (qn _ _)
            injection hre with e4 e5 e6
            subst e4
            subst e5
            have q6Q : ∀ W, (Instr.indexAt 51 (.slice o 1 cp) (.int .i64 0)).run prog W = .ok (.pointer (some ⟨b, off, none⟩)) W := fun W => by simpa using dL hd W 0 Nat.one_pos
            obtain ⟨W1, hW1⟩ : ∃ W1, W1 = (w.alloc (.cells (tmA x (.slice o 1 cp)) 56)).alloc (.cells tm0 56) := ⟨_, rfl⟩
            have HCW : Hid (∀ q, q < 8 → W1.cell? ⟨b, off + q, none⟩ = some ((tmA y (.slice oj nj cj)).getD q undef)) := qa (by rw [hW1]; intro q hq; have h := hcc q hq; rw [Nat.zero_mul, jD] at h; exact h)
            have HTJ : Hid (aM A0 W1 (.slice oj nj cj) j) := qa (by rw [hW1]; exact ht)
            have HBK : Hid (b < W1.heap.size) := qa (by rw [hW1]; exact hd.hblk Nat.one_pos)
            have hgy : gZ (y, j) := (bF HG.o.2.2).1
            have hsy : 1 + szF j ≤ N := by rw [szF, szF] at hs; omega
            have HBY := qa (fun (A' : Nat → Prop) (W : World) (hT : aM A' W (.slice oj nj cj) j) => ih A' W y (.slice oj nj cj) j hsy hgy hT)
            have hsd := sC c y j (by omega)
            have hss := yV (y, j)
            have hsr := fun lo hi => q1u (y, j) lo hi
            have hsj : szT (y, j) ≤ 400 := by show 1 + szF j ≤ 400; omega
            have HST := qa (fun (A' : Nat → Prop) (W : World) (hT : aM A' W (.slice oj nj cj) j) => q3x (x := y) hT)
            have HRP := qa (fun (A' : Nat → Prop) (W : World) (lo hi : Int) (hT : aM A' W (.slice oj nj cj) j) => q5w (x := y) lo hi hT)
            have HCC := qa (fun (A' : Nat → Prop) (W : World) (v' : Value) (t : Tm) (ht : szT t ≤ 401) (hT : aM A' W v' (one (iB c y j (cV c j)) (one t .nil))) => q4E hT (by rw [gC, gC, szF]; omega))
            have HR2 : Hid (R = if x.kd = 5 ∨ x.kd = 6 then iH (one (iB c y j (cV c j)) (one (iL (y, j)) .nil)) else if x.kd = 7 then iB c y j (cV c j)
              else if x.kd = 8 ∧ x.hi ≠ 0 then iH (one (iB c y j (cV c j)) (one (uW (y, j) (eC x.lo) (eC x.hi)) .nil)) else eS) := qa HR.o
            have HSS : Hid (szT (iL (y, j)) ≤ 401) := qa (by omega)
            have HSR : Hid (∀ lo hi, szT (uW (y, j) lo hi) ≤ 401) := qa (fun lo hi => by have := hsr lo hi; omega)
            generalize iB c y j (cV c j) = d1 at *
            generalize iL (y, j) = st at *
            obtain ⟨⟨dk, dn, da, db, dc, dd, dl, dh⟩, df⟩ := d1
            have h1' : x.kd ≠ 1 := h1
            clear hk1 q6I hd hw hcc ht hgy hsy ih HHA HG HT0 hs hsd hss hsr hsj HEM e2 e6 HR
            simp only [cnt] at *
            by_cases h7 : x.kd = 7
            · rw [qu (by omega), qv h7] at HR2
              obtain ⟨kd, nn, a, b', c', d, lo, hi⟩ := x
              simp only at h7
              subst h7
              subst hW1
              go_enter func31, ntmps31
              go_wp2_with (first
                | (refine cR rfl (.tmp 61) rfl b off rfl _ _ _ _ _ _ _ _ (.slice oj nj cj) HCW.o ?_)
                | ((with_reducible refine (HBY.o _ _ HTJ.o).mono ?_); rintro e w6 ⟨u6, rfl, hT6, hb⟩; have HC := qa (HS.o.call (t := (⟨dk, dn, da, db, dc, dd, dl, dh⟩, df)) hT6 hb); clear hb hT6)
                | (refine b6 rfl (.tmp 4) (.tmp 64) rfl (w.heap.size + 1) rfl ⟨dk, dn, da, db, dc, dd, dl, dh⟩ u6 HC.o.tm.one rfl _ HC.o.box (show (8 : Nat) = 8 from rfl) ?_; intro w7 hbx hg; have HX7 := qa hbx; have q5R := qa hg; clear hbx hg))
              exact HC.o.ret HA1.o q5R.o HX7.o HR2.o rfl rfl rfl
            · by_cases h56 : x.kd = 5 ∨ x.kd = 6
              · rw [qv h56] at HR2
                have HCS := qa (fun (A' : Nat → Prop) (W : World) (v' : Value) hT => HCC.o A' W v' st HSS.o hT)
                clear HCC HRP HSR HSS HNO
                generalize iH (one (⟨dk, dn, da, db, dc, dd, dl, dh⟩, df) (one st .nil)) = ct at *
                obtain ⟨⟨sk, sn, sa, sb, sc, sd, sl, sh⟩, sf⟩ := st
                obtain ⟨⟨tk, tn, ta, tb, tc, td, tl, th⟩, tf⟩ := ct
                obtain ⟨kd, nn, a, b', c', d, lo, hi⟩ := x
                simp only at h56
                have q1 : (kd == 1) = false := beq_eq_false_iff_ne.2 (by omega)
                have q3 : (kd == 3) = false := beq_eq_false_iff_ne.2 (by omega)
                have q4 : (kd == 4) = false := beq_eq_false_iff_ne.2 (by omega)
                have q56 : (kd == 5) = true ∨ ((kd == 5) = false ∧ (kd == 6) = true) := h56.elim (fun e => .inl (by rw [e]; rfl)) (fun e => .inr (by rw [e]; exact ⟨rfl, rfl⟩))
                clear h1 h3 h4 h5 h7 hkd hc1 h1' HHI HOT hN h56
                subst hW1
                rcases q56 with q5 | ⟨q5, q6⟩
                all_goals
                  go_enter func31, ntmps31
                  go_upto_region 17 with (fail)
                  have hdr := HS.o.drew1
                  have HS6 := qa (HS.o.up hdr)
                  have q8c := qa (HTJ.o.up hdr)
                  have q9B := qa (qe HBK.o hdr.size)
                  have q9s := qa (fun q hq => (hdr.cell (p := ⟨b, off + q, none⟩) HBK.o).trans (HCW.o q hq))
                  refine bQ (C := fun w' => ∃ x, w' = ext ((w.alloc (.cells (tmA ⟨kd, nn, a, b', c', d, lo, hi⟩ (.slice o 1 cp)) 56)).alloc (.cells tm0 56)).drew x) [0, 1, 2, 3, 4, 6, 7, 8, 9] [5, 10, 11, 12] [13] (by kernel_rfl) (by kernel_rfl) (aF (qn _ _)) ?_
                  clear hdr HS HTJ HBK HCW
                  generalize ((w.alloc (.cells (tmA ⟨kd, nn, a, b', c', d, lo, hi⟩ (.slice o 1 cp)) 56)).alloc (.cells tm0 56)).drew = w6 at *
                  have HR6 := qa HS6.o.rws
                  have c7 : w6.cell? ⟨w.heap.size, 7, none⟩ = some (.slice o 1 cp) := HS6.o.tb.cell (i := 7) (show (7 : Nat) < 8 by decide)
                  have n7 : w.heap.size < w6.heap.size := (HS6.o.tb.lt _ rfl).2
                  simp only [pk]
                  repeat (first
                    | (go_big_quiet_want; refine bP 56 8 _ rfl b off rfl (tmA y (.slice oj nj cj)) rfl (fun w' hw' q hq => by obtain ⟨z, rfl⟩ := hw'; rw [(aC w6 z).cell (p := ⟨b, off + q, none⟩) q9B.o]; exact q9s.o q hq) _ underlying56 rfl (by kernel_rfl) ?_; go_simp; go_big_quiet_on)
                    | go_big_quiet_step (fail))
                  refine wpQuiet_nil ?_
                  have HAW : Hid (∀ b, A0 b → b < w6.heap.size) := qa (fun b hb => Nat.lt_trans (HA1.o b hb).2 n7)
                  unfold aD
                  go_wp2_with (first | ((with_reducible refine (HBY.o _ _ (HR6.o.old HAW.o q8c.o)).mono ?_); rintro e w7 ⟨u1, rfl, hT, hb⟩; have HD1 := qa (HR6.o.res hT); have HR7 := qa (HR6.o.up hb); clear hT hb))
                  refine ⟨aF HR7.o.bel, ?_⟩
                  unfold aD
                  go_wp2_with (first | ((with_reducible refine (HST.o _ _ (HR7.o.old HAW.o q8c.o)).mono ?_); rintro e w8 ⟨u2, rfl, hT, hb⟩; have HD2 := qa (HR7.o.res hT); have HD1 := qa (HD1.o.up hb); have HR8 := qa (HR7.o.up hb); clear hT hb))
                  refine ⟨aF HR8.o.bel, ?_⟩
                  unfold aD
                  obtain ⟨p1, n1, k1, hu1, -⟩ := HD1.o.form
                  obtain ⟨p2, n2, k2, hu2, -⟩ := HD2.o.form
                  subst hu1
                  subst hu2
                  have HTW : Hid (aM (UA A0 (w.heap.size + 1) none) (w8.alloc (.cells #[.int .i64 dk, .int .u64 da, .int .u64 db, .int .u64 dc, .int .u64 dd, .int .i64 dl, .int .i64 dh, .slice p1 n1 k1, .int .i64 sk, .int .u64 sa, .int .u64 sb, .int .u64 sc, .int .u64 sd, .int .i64 sl, .int .i64 sh, .slice p2 n2 k2] 56)) (.slice (some ⟨w8.heap.size, 0, none⟩) 2 2) (one (⟨dk, dn, da, db, dc, dd, dl, dh⟩, df) (one (⟨sk, sn, sa, sb, sc, sd, sl, sh⟩, sf) .nil))) := qa (HR8.o.two (x := ⟨dk, dn, da, db, dc, dd, dl, dh⟩) (y := ⟨sk, sn, sa, sb, sc, sd, sl, sh⟩) HD1.o HD2.o)
                  have HR9 : Hid (RwS w6 (w8.alloc (.cells #[.int .i64 dk, .int .u64 da, .int .u64 db, .int .u64 dc, .int .u64 dd, .int .i64 dl, .int .i64 dh, .slice p1 n1 k1, .int .i64 sk, .int .u64 sa, .int .u64 sb, .int .u64 sc, .int .u64 sd, .int .i64 sl, .int .i64 sh, .slice p2 n2 k2] 56)) (w.heap.size + 1) none) := qa (HR8.o.up (aB _ _))
                  go_wp2
                  refine ⟨aF HR9.o.bel, ?_⟩
                  generalize (w8.alloc (.cells #[.int .i64 dk, .int .u64 da, .int .u64 db, .int .u64 dc, .int .u64 dd, .int .i64 dl, .int .i64 dh, .slice p1 n1 k1, .int .i64 sk, .int .u64 sa, .int .u64 sb, .int .u64 sc, .int .u64 sd, .int .i64 sl, .int .i64 sh, .slice p2 n2 k2] 56)) = w9 at *
                  unfold aD
                  go_wp2_with (first | ((with_reducible refine (HCS.o _ _ _ HTW.o).mono ?_); rintro e w10 ⟨u3, rfl, hT, hb⟩; have HE := qa (HR9.o.res hT); have q8h := qa (HR9.o.up hb); clear hT hb))
                  refine ⟨aF q8h.o.bel, ?_⟩
                  unfold aD
                  have HC := qa (HS6.o.rpr (t := (⟨tk, tn, ta, tb, tc, td, tl, th⟩, tf)) q8h.o HE.o)
                  unfold aD
                  go_wp2_with (first | (refine b6 rfl (.tmp 4) (.tmp 56) rfl (w.heap.size + 1) rfl ⟨tk, tn, ta, tb, tc, td, tl, th⟩ u3 HC.o.tm.one rfl _ HC.o.box (show (8 : Nat) = 8 from rfl) ?_; intro w11 hbx hg; have HX7 := qa hbx; have q5R := qa hg; clear hbx hg))
                  refine ⟨trivial, ?_⟩
                  unfold aD
                  go_wp2
                  exact HC.o.ret HA1.o q5R.o HX7.o HR2.o rfl rfl rfl
              · rw [qu h56, qu h7] at HR2
                by_cases h8 : x.kd = 8 ∧ x.hi ≠ 0
                · rw [qv h8] at HR2
                  have HLO : Hid (∀ W, Calls prog 55 #[.int .i64 x.lo] W fun e w' => e = .returned (.int .i64 (eC x.lo)) ∧ ∃ x, w' = ext W x) := qa (fun W => q1E x.lo (by have := HOT.o.2.2.2.1; omega))
                  have HHC : Hid (∀ W, Calls prog 55 #[.int .i64 x.hi] W fun e w' => e = .returned (.int .i64 (eC x.hi)) ∧ ∃ x, w' = ext W x) := qa (fun W => q1E x.hi (by have := HOT.o.2.2.2.2; omega))
                  have HCS := qa (fun (A' : Nat → Prop) (W : World) (v' : Value) hT => HCC.o A' W v' (uW (y, j) (eC x.lo) (eC x.hi)) (HSR.o _ _) hT)
                  have HST := qa (fun (A' : Nat → Prop) (W : World) hT => HRP.o A' W (eC x.lo) (eC x.hi) hT)
                  clear HCC HRP HSR HSS HNO
                  generalize iH (one (⟨dk, dn, da, db, dc, dd, dl, dh⟩, df) (one (uW (y, j) (eC x.lo) (eC x.hi)) .nil)) = ct at *
                  generalize uW (y, j) (eC x.lo) (eC x.hi) = rt at *
                  generalize eC x.lo = l1 at *
                  generalize eC x.hi = l2 at *
                  obtain ⟨⟨sk, sn, sa, sb, sc, sd, sl, sh⟩, sf⟩ := rt
                  obtain ⟨⟨tk, tn, ta, tb, tc, td, tl, th⟩, tf⟩ := ct
                  obtain ⟨kd, nn, a, b', c', d, lo, hi⟩ := x
                  simp only at h8 h1 h3 h4 h56 h7 HLO HHC
                  have q1 : (kd == 1) = false := beq_eq_false_iff_ne.2 (by omega)
                  have q3 : (kd == 3) = false := beq_eq_false_iff_ne.2 (by omega)
                  have q4 : (kd == 4) = false := beq_eq_false_iff_ne.2 (by omega)
                  have q5 : (kd == 5) = false := beq_eq_false_iff_ne.2 (by omega)
                  have q6 : (kd == 6) = false := beq_eq_false_iff_ne.2 (by omega)
                  have q7 : (kd == 7) = false := beq_eq_false_iff_ne.2 (by omega)
                  have q8 : (kd == 8) = true := jZ.2 h8.1
                  have qh : (hi == 0) = false := beq_eq_false_iff_ne.2 h8.2
                  clear h1 h3 h4 h5 h7 hkd hc1 h1' HHI HOT hN h56 h8
                  subst hW1
                  go_enter func31, ntmps31
                  go_upto_region 22 with (fail)
                  have hdr := HS.o.drew1
                  have HS6 := qa (HS.o.up hdr)
                  have q8c := qa (HTJ.o.up hdr)
                  have q9B := qa (qe HBK.o hdr.size)
                  have q9s := qa (fun q hq => (hdr.cell (p := ⟨b, off + q, none⟩) HBK.o).trans (HCW.o q hq))
                  refine bQ (C := fun w' => ∃ x, w' = ext ((w.alloc (.cells (tmA ⟨kd, nn, a, b', c', d, lo, hi⟩ (.slice o 1 cp)) 56)).alloc (.cells tm0 56)).drew x) [0, 1, 2, 3, 4, 6, 7, 8, 9, 10, 11, 13, 14] [5, 12, 15, 16, 17, 18] [19] (by kernel_rfl) (by kernel_rfl) (aF (qn _ _)) ?_
                  clear hdr HS HTJ HBK HCW
                  generalize ((w.alloc (.cells (tmA ⟨kd, nn, a, b', c', d, lo, hi⟩ (.slice o 1 cp)) 56)).alloc (.cells tm0 56)).drew = w6 at *
                  have HR6 := qa HS6.o.rws
                  have c7 : w6.cell? ⟨w.heap.size, 7, none⟩ = some (.slice o 1 cp) := HS6.o.tb.cell (i := 7) (show (7 : Nat) < 8 by decide)
                  have c5 : w6.cell? ⟨w.heap.size, 5, none⟩ = some (.int .i64 lo) := HS6.o.tb.cell (i := 5) (show (5 : Nat) < 8 by decide)
                  have c6 : w6.cell? ⟨w.heap.size, 6, none⟩ = some (.int .i64 hi) := HS6.o.tb.cell (i := 6) (show (6 : Nat) < 8 by decide)
                  have n7 : w.heap.size < w6.heap.size := (HS6.o.tb.lt _ rfl).2
                  simp only [pk]
                  repeat (first
                    | (go_big_quiet_want; refine bP 56 8 _ rfl b off rfl (tmA y (.slice oj nj cj)) rfl (fun w' hw' q hq => by obtain ⟨z, rfl⟩ := hw'; rw [(aC w6 z).cell (p := ⟨b, off + q, none⟩) q9B.o]; exact q9s.o q hq) _ underlying56 rfl (by kernel_rfl) ?_; go_simp; go_big_quiet_on)
                    | go_big_quiet_step (fail))
                  refine wpQuiet_nil ?_
                  have HAW : Hid (∀ b, A0 b → b < w6.heap.size) := qa (fun b hb => Nat.lt_trans (HA1.o b hb).2 n7)
                  unfold aD
                  go_wp2_with (first | ((with_reducible refine (HBY.o _ _ (HR6.o.old HAW.o q8c.o)).mono ?_); rintro e w7 ⟨u1, rfl, hT, hb⟩; have HD1 := qa (HR6.o.res hT); have HR7 := qa (HR6.o.up hb); clear hT hb))
                  refine ⟨aF HR7.o.bel, ?_⟩
                  unfold aD
                  go_wp2_with (first | ((with_reducible refine (HLO.o _).mono ?_); rintro e w71 ⟨rfl, hx⟩; have qaE := qa (HR7.o.up (aE hx)); have HD1 := qa (HD1.o.up (aE hx)); clear hx))
                  refine ⟨aF qaE.o.bel, ?_⟩
                  unfold aD
                  go_wp2_with (first | ((with_reducible refine (HHC.o _).mono ?_); rintro e w72 ⟨rfl, hx⟩; have q8B := qa (qaE.o.up (aE hx)); have HD1 := qa (HD1.o.up (aE hx)); clear hx))
                  refine ⟨aF q8B.o.bel, ?_⟩
                  unfold aD
                  go_wp2_with (first | ((with_reducible refine (HST.o _ _ (q8B.o.old HAW.o q8c.o)).mono ?_); rintro e w8 ⟨u2, rfl, hT, hb⟩; have HD2 := qa (q8B.o.res hT); have HD1 := qa (HD1.o.up hb); have HR8 := qa (q8B.o.up hb); clear hT hb))
                  refine ⟨aF HR8.o.bel, ?_⟩
                  unfold aD
                  obtain ⟨p1, n1, k1, hu1, -⟩ := HD1.o.form
                  obtain ⟨p2, n2, k2, hu2, -⟩ := HD2.o.form
                  subst hu1
                  subst hu2
                  have HTW : Hid (aM (UA A0 (w.heap.size + 1) none) (w8.alloc (.cells #[.int .i64 dk, .int .u64 da, .int .u64 db, .int .u64 dc, .int .u64 dd, .int .i64 dl, .int .i64 dh, .slice p1 n1 k1, .int .i64 sk, .int .u64 sa, .int .u64 sb, .int .u64 sc, .int .u64 sd, .int .i64 sl, .int .i64 sh, .slice p2 n2 k2] 56)) (.slice (some ⟨w8.heap.size, 0, none⟩) 2 2) (one (⟨dk, dn, da, db, dc, dd, dl, dh⟩, df) (one (⟨sk, sn, sa, sb, sc, sd, sl, sh⟩, sf) .nil))) := qa (HR8.o.two (x := ⟨dk, dn, da, db, dc, dd, dl, dh⟩) (y := ⟨sk, sn, sa, sb, sc, sd, sl, sh⟩) HD1.o HD2.o)
                  have HR9 : Hid (RwS w6 (w8.alloc (.cells #[.int .i64 dk, .int .u64 da, .int .u64 db, .int .u64 dc, .int .u64 dd, .int .i64 dl, .int .i64 dh, .slice p1 n1 k1, .int .i64 sk, .int .u64 sa, .int .u64 sb, .int .u64 sc, .int .u64 sd, .int .i64 sl, .int .i64 sh, .slice p2 n2 k2] 56)) (w.heap.size + 1) none) := qa (HR8.o.up (aB _ _))
                  go_wp2
                  refine ⟨aF HR9.o.bel, ?_⟩
                  generalize (w8.alloc (.cells #[.int .i64 dk, .int .u64 da, .int .u64 db, .int .u64 dc, .int .u64 dd, .int .i64 dl, .int .i64 dh, .slice p1 n1 k1, .int .i64 sk, .int .u64 sa, .int .u64 sb, .int .u64 sc, .int .u64 sd, .int .i64 sl, .int .i64 sh, .slice p2 n2 k2] 56)) = w9 at *
                  unfold aD
                  go_wp2_with (first | ((with_reducible refine (HCS.o _ _ _ HTW.o).mono ?_); rintro e w10 ⟨u3, rfl, hT, hb⟩; have HE := qa (HR9.o.res hT); have q8h := qa (HR9.o.up hb); clear hT hb))
                  refine ⟨aF q8h.o.bel, ?_⟩
                  unfold aD
                  have HC := qa (HS6.o.rpr (t := (⟨tk, tn, ta, tb, tc, td, tl, th⟩, tf)) q8h.o HE.o)
                  unfold aD
                  go_wp2_with (first | (refine b6 rfl (.tmp 4) (.tmp 88) rfl (w.heap.size + 1) rfl ⟨tk, tn, ta, tb, tc, td, tl, th⟩ u3 HC.o.tm.one rfl _ HC.o.box (show (8 : Nat) = 8 from rfl) ?_; intro w11 hbx hg; have HX7 := qa hbx; have q5R := qa hg; clear hbx hg))
                  refine ⟨trivial, ?_⟩
                  unfold aD
                  go_wp2
                  exact HC.o.ret HA1.o q5R.o HX7.o HR2.o rfl rfl rfl
                · rw [qu h8] at HR2
                  clear HCC HRP HSR HSS HBY HST
                  have hk8 := hkd
                  obtain ⟨kd, nn, a, b', c', d, lo, hi⟩ := x
                  simp only at h8 h1 h3 h4 h56 h7 hk8 h5
                  have h88 : kd = 8 := by omega
                  have hh0 : hi = 0 := by omega
                  have q1 : (kd == 1) = false := beq_eq_false_iff_ne.2 (by omega)
                  have q3 : (kd == 3) = false := beq_eq_false_iff_ne.2 (by omega)
                  have q4 : (kd == 4) = false := beq_eq_false_iff_ne.2 (by omega)
                  have q5 : (kd == 5) = false := beq_eq_false_iff_ne.2 (by omega)
                  have q6 : (kd == 6) = false := beq_eq_false_iff_ne.2 (by omega)
                  have q7 : (kd == 7) = false := beq_eq_false_iff_ne.2 (by omega)
                  have q8 : (kd == 8) = true := jZ.2 h88
                  have qh : (hi == 0) = true := jZ.2 hh0
                  clear h1 h3 h4 h5 h7 hkd hc1 h1' HHI HOT hN h56 h8 h88 hh0 hk8
                  subst hW1
                  go_enter func31, ntmps31
                  go_wp2_with (first
                    | ((with_reducible refine (HNO.o _).mono ?_); rintro e w6 ⟨u6, rfl, hT6, hb⟩; have HC := qa (HS.o.call (t := eS) hT6 hb); clear hb hT6)
                    | (refine b6 rfl (.tmp 4) (.tmp 89) rfl (w.heap.size + 1) rfl noT u6 HC.o.tm.one rfl _ HC.o.box (show (8 : Nat) = 8 from rfl) ?_; intro w7 hbx hg; have HX7 := qa hbx; have q5R := qa hg; clear hbx hg))
                  exact HC.o.ret HA1.o q5R.o HX7.o HR2.o rfl rfl rfl
          · have HR2 : Hid (R = eS) := qa (by rw [HR.o, qu (by omega), qu (by omega), qu (by omega)])
            clear q6I HHA hk1 HHI HOT ih HEM HG HT0 HR
            have hk8 := hkd
            obtain ⟨kd, nn, a, b', c', d, lo, hi⟩ := x
            simp only at h1 h3 h4 h5 hk8
            have h22 : kd = 2 := by omega
            have q1 : (kd == 1) = false := beq_eq_false_iff_ne.2 (by omega)
            have q3 : (kd == 3) = false := beq_eq_false_iff_ne.2 (by omega)
            have q4 : (kd == 4) = false := beq_eq_false_iff_ne.2 (by omega)
            have q5 : (kd == 5) = false := beq_eq_false_iff_ne.2 (by omega)
            have q6 : (kd == 6) = false := beq_eq_false_iff_ne.2 (by omega)
            have q7 : (kd == 7) = false := beq_eq_false_iff_ne.2 (by omega)
            have q8 : (kd == 8) = false := beq_eq_false_iff_ne.2 (by omega)
            clear h1 h3 h4 h5 hkd hk8 h22 hN hs
            go_enter func31, ntmps31
            go_wp2_with (first
              | ((with_reducible refine (HNO.o _).mono ?_); rintro e w6 ⟨u6, rfl, hT6, hb⟩; have HC := qa (HS.o.call (t := eS) hT6 hb); clear hb hT6)
              | (refine b6 rfl (.tmp 4) (.tmp 89) rfl (w.heap.size + 1) rfl noT u6 HC.o.tm.one rfl _ HC.o.box (show (8 : Nat) = 8 from rfl) ?_; intro w7 hbx hg; have HX7 := qa hbx; have q5R := qa hg; clear hbx hg))
            exact HC.o.ret HA1.o q5R.o HX7.o HR2.o rfl rfl rfl
def q1I(t:Tm)(n:Nat)(w:World)(e:Ending)(w':World):Prop:=∃u,e=.returned (.tuple #[.agg (tmA t.1 u),.int .i64 (n:Int)])/\aM (upA (fun _=>False) w.heap.size) w' u t.2/\Below w.heap.size w w'
structure TdS(w W:World)(x:Nd)(u:Value)(acc:Fo):Prop where
 bel:Below w.heap.size w W
 res:fB W w.heap.size (tmC ⟨0,0,0,0,0,0,0,0⟩ (.slice none 0 0))
 box:fB W (w.heap.size+1+1) (tmC x u)
 own:kM (fun _=>False) W (w.heap.size+1+1+1) 56 u acc
 sz:w.heap.size+1+1+1<=W.heap.size
theorem TdS.up{w W W':World}{x:Nd}{u:Value}{acc:Fo}(h:TdS w W x u acc)(hb:Below W.heap.size W W'):TdS w W' x u acc:=
 ⟨h.bel.trans (hb.mono h.bel.size),h.res.up hb,h.box.up hb,h.own.up hb,qc h.sz hb.size⟩
theorem TdS.push{w W W':World}{x:Nd}{u v:Value}{acc g:Fo}(h:TdS w W x u acc)(hO:kM (fun _=>False) W' (w.heap.size+1+1+1) 56 v (eQ acc g))(hg:W.grownBy W' u.ownBlock)(hq:∀q,u.ownBlock=some q->w.heap.size+1+1+1<=q):
  fB W' (w.heap.size+1+1) (tmC x u)/\TdS w (W'.setCell ⟨w.heap.size+1+1,7,none⟩ v) x v (eQ acc g):=by
 have h1:=h.box.keep hg (.inr (fun e=>by have:=hq _ e.symm;simp only at this;omega));have h2:=h.res.keep hg (.inr (fun e=>by have:=hq _ e.symm;simp only at this;omega));obtain⟨h3,h4⟩:=h1.store 7 v;have hb:=h.bel.grown hg h.bel.size (fun q e=>qc (by omega) (hq q e));refine⟨h1,hb.grown h4 hb.size (by rintro q ⟨⟩;omega),h2.keep h4 (.inr (fun e=>?_)),h3,hO.keep h4 (fun q e=>?_),qc (qc h.sz hg.size) h4.size⟩
 ·have:=qp (show some w.heap.size=some (w.heap.size+1+1)from e)
  omega
 injection e with e;subst e;exact⟨fun e2=>by have:=(hO.lt _ e2).1;omega,fun hb=>hb.elim id (fun hb=>by omega)⟩
theorem TdS.ret{fn:Func}{tmps:Array Value}{w W W':World}{ds:List Deferred}{s b n:Nat}{x:Nd}{u:Value}{acc:Fo}(h:TdS w W x u acc)(hg:W.grownBy W' (some w.heap.size))(hB:fB W' w.heap.size (tmC x u))
  (hf:fn.results=#[.cell s 56,.tmp b]) (ha:tmps.getD s undef=.pointer (some ⟨w.heap.size,0,none⟩)) (hb:tmps.getD b undef=.int .i64 n) (hd:ds=[]):bodyPost prog fn (q1I (x,acc) n w) .ret ⟨tmps,ds⟩ W':=by
 have ho:kM (fun _=>False) W' (w.heap.size+1+1+1) 56 u acc:=h.own.keep hg (fun q e=>by
  injection e with e;subst e;exact⟨fun e2=>by have:=(h.own.lt _ e2).1;omega,fun hb=>hb.elim id (fun hb=>by omega)⟩)
 exact bB hf ha hb hd hB.load ⟨u,rfl,ho.tms.mono (fun b hb=>hb.imp id (fun h=>by omega)),h.bel.grown hg h.bel.size (by rintro q ⟨⟩;exact qb _)⟩
theorem q0N (N : Nat) : ∀ (w : World) (v : Value) (l post : List Nd) (x : Nd) (k : Fo), (aT k).length < N → aO w v l → l.length ≤ 400 → l = x :: (aT k ++ post) → x.n = cnt k → wf k →
    Calls prog 41 #[v] w (q1I (x, k) (1 + (aT k).length) w) := by
  induction N with
  | zero => intro w v l post x k h; omega
  | succ N ih =>
  intro w v l post x k hN h hl hd0 hn hk
  have HIH := qa ih
  have HAT := qa h
  obtain ⟨oa, cap, b, off, rfl, hd, hc⟩ := h.open
  obtain ⟨hi, hx, hd1⟩ := cZ (d := zN) (i := 0) (l := l) hd0
  have hix : ∀ W : World, (Instr.indexAt 39 (.slice oa l.length cap) (.int .i64 0)).run prog W = .ok (.pointer (some ⟨b, off, none⟩)) W := fun (W : World) => by
    have := d8 hd W .i64 0 (by omega) (by omega)
    simpa using this
  have hb := hd.hblk (by omega)
  have hck := cnt_le k
  have hlk : 1 + (aT k).length + post.length = l.length := by
    have := qZ List.length hd1
    simp only [j3, qj] at this; omega
  have hc0 := hc 0 hi
  rw [hx] at hc0
  have HD := qa hd1
  have HK := qa hk
  obtain ⟨T, hT⟩ : ∃ T : Nat, T = 1 + (aT k).length := ⟨_, rfl⟩
  rw [← hT]
  have HTT := qa hT
  obtain ⟨xk, xn, xa, xb, xc, xd, xl, xh⟩ := x
  change xn = _ at hn
  subst hn
  have HCE : Hid (∀ c', c' < 8 → (w.alloc (.cells tm0 56)).cell? ⟨b, off + c', none⟩ = some ((#[.int .i64 xk, .int .i64 (cnt k), .int .u64 xa, .int .u64 xb, .int .u64 xc, .int .u64 xd, .int .i64 xl, .int .i64 xh] : Array Value).getD c' undef)) := qa (fun c' h => by
    have := hc0 c' h
    rw [oJ, Nat.zero_mul, jD] at this
    rw [(aB w (.cells tm0 56)).cell (p := ⟨b, off + c', none⟩) hb]; exact this)
  clear ih h hd hc hx hd0 hd1 hk hc0
  go_enter func41, ntmps41
  go_wp2_with (refine aJ rfl 77 _ rfl b off 8 rfl _ _ HCE.o rfl underlying77 rfl (by kernel_rfl) ?_)
  have h1 := aB w (.cells tm0 56)
  have h2 := aB (w.alloc (.cells tm0 56)) (.cells #[.int .i64 xk, .int .i64 (cnt k), .int .u64 xa, .int .u64 xb, .int .u64 xc, .int .u64 xd, .int .i64 xl, .int .i64 xh] 77)
  have h3 := aB ((w.alloc (.cells tm0 56)).alloc (.cells #[.int .i64 xk, .int .i64 (cnt k), .int .u64 xa, .int .u64 xb, .int .u64 xc, .int .u64 xd, .int .i64 xl, .int .i64 xh] 77)) (.cells (tmA ⟨xk, cnt k, xa, xb, xc, xd, xl, xh⟩ (.slice none 0 0)) 56)
  have h4 := cM ((w.alloc (.cells tm0 56)).alloc (.cells #[.int .i64 xk, .int .i64 (cnt k), .int .u64 xa, .int .u64 xb, .int .u64 xc, .int .u64 xd, .int .i64 xl, .int .i64 xh] 77)) ⟨xk, cnt k, xa, xb, xc, xd, xl, xh⟩ (.slice none 0 0)
  rw [show ((w.alloc (.cells tm0 56)).alloc (.cells #[.int .i64 xk, .int .i64 (cnt k), .int .u64 xa, .int .u64 xb, .int .u64 xc, .int .u64 xd, .int .i64 xl, .int .i64 xh] 77)).heap.size = w.heap.size + 1 + 1 by simp] at h4
  have HS0 : Hid (TdS w (((w.alloc (.cells tm0 56)).alloc (.cells #[.int .i64 xk, .int .i64 (cnt k), .int .u64 xa, .int .u64 xb, .int .u64 xc, .int .u64 xd, .int .i64 xl, .int .i64 xh] 77)).alloc (.cells (tmA ⟨xk, cnt k, xa, xb, xc, xd, xl, xh⟩ (.slice none 0 0)) 56)) ⟨xk, cnt k, xa, xb, xc, xd, xl, xh⟩ (.slice none 0 0) .nil) :=
    qa ⟨h1.trans ((h2.trans (h3.mono h2.size)).mono h1.size), ((cM w ⟨0, 0, 0, 0, 0, 0, 0, 0⟩ (.slice none 0 0)).up h2).up h3, h4, kM.nil _ _ _ _, by simp⟩
  clear h1 h2 h3 h4
  go_loopg [6, 23] (cnt k) (fun gk av jv wr => ∃ (j at_ : Nat) (acc r : Fo) (u : Value), jv = .int .i64 j ∧ av = .int .i64 at_ ∧ at_ + (aT r).length + post.length = l.length ∧ j + cnt r = cnt k ∧ l.drop at_ = aT r ++ post ∧ wf r ∧ Hid (eQ acc r = k) ∧ (aT r).length ≤ (aT k).length ∧ cnt acc ≤ 400 ∧ TdS w wr ⟨xk, cnt k, xa, xb, xc, xd, xl, xh⟩ u acc ∧ gk = cnt r)
  case atStart => exact ⟨0, 1, .nil, k, _, rfl, rfl, by omega, by omega, HD.o, HK.o, qa rfl, qb _, qd _, HS0.o, rfl⟩
  case round =>
    obtain ⟨j, at_, acc, r, u, rfl, rfl, q6q, hj, hdr, hwr, HV, hrk, hac, hS, hgk⟩ := hrel
    have HS := qa hS
    have HGK := qa hgk
    obtain ⟨o1, n1, c1, hu1, -⟩ := hS.own.tms.form
    subst hu1
    clear hS hgk HS0
    cases r with
    | nil =>
      have hje : j = cnt k := by simpa [cnt] using hj
      clear hT
      have hae : at_ = T := by rw [HTT.o]; simp only [aT, qN] at q6q; omega
      have q8A : acc = k := by rw [← HV.o, i7]
      subst q8A
      subst hae
      subst hje
      clear hdr hwr hj HV HTT
      go_wp2_with (first
        | (refine bY rfl (.tmp 5) rfl (w.heap.size + 1 + 1) rfl xk _ xa xb xc xd xl xh (.slice o1 n1 c1) HS.o.box ?_)
        | (refine b6 rfl (.tmp 2) (.tmp 42) rfl w.heap.size rfl ⟨xk, (cnt acc : Int), xa, xb, xc, xd, xl, xh⟩ (.slice o1 n1 c1) rfl rfl _ HS.o.res (show (8 : Nat) = 8 from rfl) ?_; intro w7 hbx hg; have HX7 := qa hbx; have q5R := qa hg; clear hbx hg))
      all_goals exact HS.o.ret q5R.o HX7.o rfl rfl rfl rfl
    | cons y ky r' =>
      simp only [cnt] at hj
      simp only [aT, jl, qk] at hdr
      simp only [aT, qz, qj] at q6q hrk
      obtain ⟨hy1, hy2, hy3⟩ := hwr
      obtain ⟨-, -, q6f⟩ := cZ (d := zN) hdr
      have HDR : Hid (l.drop (at_ + 1 + (aT ky).length) = aT r' ++ post) := qa (kD q6f)
      obtain ⟨u, hsl, hnu⟩ := (HAT.o.up HS.o.bel).high at_ (by omega)
      have HCL := qa (HIH.o wr u _ (aT r' ++ post) y ky (by omega) hnu (by rw [j3]; omega) hdr hy1 hy2)
      have HW3 := qa hy3
      have HV2 : Hid (eQ (eQ acc (.cons y ky .nil)) r' = k) := qa (by rw [eO]; exact HV.o)
      have HAC : Hid (cnt acc + cnt (.cons y ky .nil) ≤ 400) := qa (by have h := qZ cnt HV2.o; rw [eJ, eJ] at h; omega)
      clear hdr q6f hy1 hy2 hy3 hnu HV
      obtain ⟨ykd, yn, ya, yb, yc, yd, ylo, yhi⟩ := y
      go_wp2_with (first
        | ((with_reducible refine HCL.o.mono ?_); rintro e w6 ⟨u6, rfl, hT6, hb⟩; obtain ⟨p6, n6, k6, hu6, -⟩ := hT6.form; subst hu6
           have hAF := HS.o.own.after (fun b hb => hb.elim) HS.o.sz hT6
           have hb1 := aB w6 (.cells (tmA ⟨ykd, yn, ya, yb, yc, yd, ylo, yhi⟩ (.slice p6 n6 k6)) 56)
           have hb2 := aB (w6.alloc (.cells (tmA ⟨ykd, yn, ya, yb, yc, yd, ylo, yhi⟩ (.slice p6 n6 k6)) 56)) (.cells (tmA ⟨ykd, yn, ya, yb, yc, yd, ylo, yhi⟩ (.slice p6 n6 k6)) 56)
           have HBX := qa (cM w6 ⟨ykd, yn, ya, yb, yc, yd, ylo, yhi⟩ (.slice p6 n6 k6))
           have hX := pD (w6.alloc (.cells (tmA ⟨ykd, yn, ya, yb, yc, yd, ylo, yhi⟩ (.slice p6 n6 k6)) 56)) ⟨ykd, yn, ya, yb, yc, yd, ylo, yhi⟩ (.slice p6 n6 k6)
           rw [show (w6.alloc (.cells (tmA ⟨ykd, yn, ya, yb, yc, yd, ylo, yhi⟩ (.slice p6 n6 k6)) 56)).heap.size = w6.heap.size + 1 by simp] at hX
           have HX := qa hX
           have HN := qa (bC.single (x := ⟨ykd, yn, ya, yb, yc, yd, ylo, yhi⟩) ((hAF.up hb1).up hb2))
           have HS6 := qa (HS.o.up hb)
           have HS7 := qa ((HS6.o.up hb1).up hb2)
           have c7 : w6.cell? ⟨w.heap.size + 1 + 1, 7, none⟩ = some (.slice o1 n1 c1) := HS6.o.box.cell (i := 7) (show (7 : Nat) < 8 by decide)
           have n7 : w.heap.size + 1 + 1 < w6.heap.size := (HS6.o.box.lt _ rfl).2
           clear hb hT6 hAF hb1 hb2 hX)
        | (refine bY rfl (.tmp 7) rfl w6.heap.size rfl ykd yn ya yb yc yd ylo yhi (.slice p6 n6 k6) HBX.o ?_)
        | (at_builtin; refine dT rfl (.tmp 33) (.tmp 35) rfl (fun _ => False) (w.heap.size + 1 + 1 + 1) _ acc rfl HS7.o.own _ rfl _ _ HX.o HN.o (qc HAC.o (by decide)) HS7.o.sz ?_; intro v5 w5 hO hg hq hk5; obtain ⟨o5, n5, c5, hv5, -⟩ := hO.tms.form; subst hv5; have HP := qa (HS7.o.push hO hg hq); have c75 : w5.cell? ⟨w.heap.size + 1 + 1, 7, none⟩ = some (.slice o1 n1 c1) := HP.o.1.cell (i := 7) (show (7 : Nat) < 8 by decide); have f75 : w5.frozen? ⟨w.heap.size + 1 + 1, 7, none⟩ = false := HP.o.1.free 7; have n75 : w.heap.size + 1 + 1 < w5.heap.size := (HP.o.1.lt _ rfl).2; clear hO hg hq hk5))
      go_roundg (cnt r')
      case measure => have := HGK.o; simp only [cnt] at this; omega
      case rel => exact ⟨j + 1, at_ + 1 + (aT ky).length, _, r', _, by go_num, by go_num, by omega, by omega, HDR.o, HW3.o, HV2, by omega, by rw [eJ]; exact HAC.o, HP.o.2, rfl⟩
def U4(l:List Nd)(w:World)(e:Ending)(w':World):Prop:=∃v,e=.returned v/\aO w' v l/\Below w.heap.size w w'
theorem q3z{A:Nat->Prop}:∀(N:Nat) {w:World} {x:Nd} {u:Value} {k:Fo},szF k<N->N<=400000->x.n=cnt k->wf k->aM A w u k->
  Calls prog 35 #[.agg (tmA x u)] w (U4 (x::aT k) w):=by
 intro N
 induction N with
 |zero=>intro w x u k h;omega
 |succ N ih=>
  intro w x u k hn hM hxn hwk h;obtain⟨rs,oa,cap,b,off,rfl,hd,hw⟩:=h.walk;have HIX:=qa (dL hd);have HW:=qa hw;have hm:=hd.len;have hck:=tN k;obtain⟨R,hR⟩:∃R,R=x::aT k:=⟨_,rfl⟩;rw[<-hR];have HR0:Hid (bC A w (rs.drop 0) k):=qa hw.rows;have HV0:Hid ([x]++aT k=R):=qa hR.symm;have HSZ:Hid (R.length<=400001):=qa (by rw[hR,qz,<-lX];omega);have HWF:=qa hwk;have HN:=qa hn;have IH:Hid (∀(W:World) (y:Nd) (v:Value) (j:Fo),szF j<N->y.n=cnt j->wf j->aM A W v j->Calls prog 35 #[.agg (tmA y v)] W (U4 (y::aT j) W)):=qa (fun W y v j hj hy hwj hT=>ih hj (by omega) hy hwj hT);obtain⟨kd,nn,a,b',c,d,lo,hi⟩:=x;change nn=_ at hxn;subst hxn;generalize hmm:cnt k=m at*;clear hd hw h ih hR hn hwk;have hb1:=aB w (.cells (tmA ⟨kd,m,a,b',c,d,lo,hi⟩ (.slice oa m cap)) 56);have hb2:=aB (w.alloc (.cells (tmA ⟨kd,m,a,b',c,d,lo,hi⟩ (.slice oa m cap)) 56)) (.cells #[.int .i64 kd,.int .i64 m,.int .u64 a,.int .u64 b',.int .u64 c,.int .u64 d,.int .i64 lo,.int .i64 hi] 77);have HB0:=qa (hb1.trans (hb2.mono hb1.size));have hO:=iX 8 (w.alloc (.cells (tmA ⟨kd,m,a,b',c,d,lo,hi⟩ (.slice oa m cap)) 56)) w.heap.size #[.int .i64 kd,.int .i64 m,.int .u64 a,.int .u64 b',.int .u64 c,.int .u64 d,.int .i64 lo,.int .i64 hi] 77 ([⟨kd,m,a,b',c,d,lo,hi⟩].map ndC) rfl (by simp[ndC]) (show(1:Nat)<=4294967296 by decide) hb1.size;rw[show(w.alloc (.cells (tmA ⟨kd,m,a,b',c,d,lo,hi⟩ (.slice oa m cap)) 56)).heap.size=w.heap.size+1 by simp]at hO;have HO0:=qa hO;clear hb1 hb2 hO;go_enter func35,ntmps35;go_wp2
  go_loopg [3,22] m (fun gk ov iv wr=>∃(i:Nat) (acc:List Nd) (r:Fo),iv=.int .i64 i/\i<=m/\d4 8 wr w.heap.size 77 ov (acc.map ndC)/\Hid (acc++aT r=R)/\wf r/\szF r<=N/\bC A w (rs.drop i) r/\Below w.heap.size w wr/\gk=m-i)
  case atStart=>exact⟨0,_,k,rfl,qd _,HO0.o,HV0.o,HWF.o,by have:=HN.o;omega,HR0.o,HB0.o,rfl⟩
  case round=>
   obtain⟨i,acc,r,rfl,hi,hO,HV,hwr,hsr,hrr,hB,hgk⟩:=hrel;have HB:=qa hB;have HO:=qa hO;have HGK:=qa hgk;have HRR:=qa hrr;clear hB hgk hrr hO HR0 HV0 HB0 HO0;by_cases hlt:i<m
   ·have q64:=fun W=>HIX.o W i hlt
    obtain⟨y,oj,nj,cj,j,r',hre,ht,hrr,hcc⟩:=HW.o.next HRR.o hlt HB.o;subst hre;obtain⟨hw1,hw2,hw3⟩:=hwr;have HW3:=qa hw3;have HSR:Hid (szF r'<=N):=qa (by rw[szF]at hsr;omega);have HCW:=qa hcc;have q5Y:=qa hrr;have HBX:=qa (cM wr y (.slice oj nj cj));have hbn:=aB wr (.cells (tmA y (.slice oj nj cj)) 56);have HBA:=qa (HB.o.trans (hbn.mono HB.o.size));have HT:=qa (ht.up HBA.o);have HO2:=qa (HO.o.up hbn);have HCL:=qa (IH.o _ y (.slice oj nj cj) j (by rw[szF]at hsr;omega) hw1 hw2 HT.o);have HV2:Hid ((acc++(y::aT j))++aT r'=R):=qa (by rw[<-HV.o,aT];simp);have HL:Hid (acc.length+(y::aT j).length<=1000000000):=qa (by have h:=qZ List.length HV2.o;have:=HSZ.o;rw[qj,qj]at h;omega);obtain⟨nl,hnl⟩:∃nl,nl=y::aT j:=⟨_,rfl⟩;rw[<-hnl]at HV2 HL HCL;clear hrr hcc HIX HRR HB HO hbn ht hw1 hw2 hw3 HV IH HT hnl hsr;obtain⟨ykd,yn,ya,yb,yc,yd,ylo,yhi⟩:=y
    go_wp2_with(first
     |(refine cR rfl (.tmp 24) rfl b (off+i*8) rfl ykd yn ya yb yc yd ylo yhi (.slice oj nj cj) HCW.o ?_)
     |(refine bY rfl (.tmp 5) rfl wr.heap.size rfl ykd yn ya yb yc yd ylo yhi (.slice oj nj cj) HBX.o ?_)
     |((with_reducible refine HCL.o.mono ?_);rintro e w6 ⟨u6,rfl,hN6,hb⟩;have HN6:=qa hN6;have HB6:=qa (HBA.o.trans (hb.mono HBA.o.size));have HO6:=qa (HO2.o.up hb);clear hb hN6)
     |(at_builtin;refine dI 8 rfl (.tmp 26) (.tmp 28) 39 rfl w.heap.size 77 (.agg #[.int .i64 0,.int .i64 0,.int .u64 0,.int .u64 0,.int .u64 0,.int .u64 0,.int .i64 0,.int .i64 0]) 64 underlying39 (by kernel_rfl) rfl (by decide) (by decide) _ (acc.map ndC) rfl HO6.o u6 (nl.map ndC) rfl HN6.o (q0C _) (q0D _) (by rw[qA,qA];exact HL.o) HB6.o.size ?_;intro v5 w5 hO hg hk5;have HO5:Hid (d4 8 w5 w.heap.size 77 v5 ((acc++nl).map ndC)):=qa (by rw[qG];exact hO);have HB5:=qa (HB6.o.grown hg HB6.o.size (fun q e=>(HO6.o.lt q e).1));clear hO hg hk5))
    go_roundg (m-(i+1))
    case measure=>have:=HGK.o;omega
    case rel=>exact⟨i+1,_,r',by go_num,by omega,HO5.o,HV2,HW3.o,HSR.o,q5Y.o,HB5.o,rfl⟩
   have hr0:=HRR.o.done (by rw[HW.o.len];omega);subst hr0;have hE:acc=R:=by rw[<-HV.o,aT,j6]
   subst hE;clear HV hwr hsr;go_wp2;go_ret;exact⟨_,rfl,HO.o.sl,HB.o⟩
noncomputable def gvT(l:List Nd):Tm:=if Chk l then hdT (gL l)else eS
def q1J(t:Tm)(q:Bool)(w:World)(e:Ending)(w':World):Prop:=∃u,e=.returned (.tuple #[.agg (tmA t.1 u),.bool q])/\aM (upA (fun _=>False) w.heap.size) w' u t.2/\Below w.heap.size w w'
theorem U5{fn:Func}{tmps:Array Value}{w W W':World}{ds:List Deferred}{s b:Nat}{q:Bool}{x:Nd}{u:Value}{k:Fo}(hT:aM (upA (fun _=>False) (w.heap.size+1)) W u k)(hb:Below w.heap.size w W)(hg:W.grownBy W' (some w.heap.size))(hB:fB W' w.heap.size (tmC x u))
  (hf:fn.results=#[.cell s 56,.tmp b]) (ha:tmps.getD s undef=.pointer (some ⟨w.heap.size,0,none⟩)) (hbb:tmps.getD b undef=.bool q) (hd:ds=[]):bodyPost prog fn (q1J (x,k) q w) .ret ⟨tmps,ds⟩ W':=by
 refine bB hf ha hbb hd hB.load ⟨u,rfl,(hT.keep hg.size (fun b hb hlt=>hg.block b hlt ?_)).mono (fun b hb=>hb.imp id (fun h=>by omega)),hb.grown hg hb.size (by rintro q ⟨⟩;exact qb _)⟩;intro e;injection e with e;rcases hb with h|h
 ·exact h
 omega
theorem zB {w : World} {v : Value} {l : List Nd} (h : aO w v l) : Calls prog 17 #[v] w (q1J (gvT l) (decide (Chk l)) w) := by
  have HB1 := qa (aB w (.cells tm0 56))
  have HG1 := qa (cM w ⟨0, 0, 0, 0, 0, 0, 0, 0⟩ (.slice none 0 0))
  have HS1 : Hid (w.heap.size + 1 ≤ (w.alloc (.cells tm0 56)).heap.size) := qa (by simp)
  have HN := qa h
  by_cases hc : Chk l
  · obtain ⟨x, k, h1, h2, h3, -, -, h6⟩ := iY hc
    have HCK := qa (fun W (hW : aO W v l) => by have := A3 hW; rw [fT hc] at this; exact this)
    have HTD := qa (fun W (hW : aO W v l) => q0N 400 W v l [] x k h6 hW (by have := qZ List.length h1; simp only [qz] at this; omega) (by rw [h1, j6]) h2 h3)
    have HR : Hid (gvT l = (x, k)) := qa (by unfold gvT; rw [qv hc, h1, dR x k h2 h3]; rfl)
    have HQ : Hid (decide (Chk l) = true) := qa (by simp [hc])
    generalize 1 + (aT k).length = T at *
    rw [HR.o, HQ.o]
    obtain ⟨kd, nn, a, b', c, d, lo, hi⟩ := x
    clear h hc h1 h2 h3 h6 HR HQ
    go_enter func17, ntmps17
    go_wp2_with (first
      | ((with_reducible refine (HCK.o _ (HN.o.up HB1.o)).mono ?_); rintro e w5 ⟨rfl, hx⟩; have HB5 := qa (HB1.o.trans ((aE hx).mono HB1.o.size)); have HG5 := qa (HG1.o.up (aE hx)); have HS5 := qa (qc HS1.o (aE hx).size); clear hx)
      | ((with_reducible refine (HTD.o _ (HN.o.up HB5.o)).mono ?_); rintro e w6 ⟨u6, rfl, hT6, hb⟩; obtain ⟨p6, n6, k6, hu6, -⟩ := hT6.form; subst hu6
         have ha := aB w6 (.cells (tmA ⟨kd, nn, a, b', c, d, lo, hi⟩ (.slice p6 n6 k6)) 56)
         have HT6 : Hid (aM (upA (fun _ => False) (w.heap.size + 1)) (w6.alloc (.cells (tmA ⟨kd, nn, a, b', c, d, lo, hi⟩ (.slice p6 n6 k6)) 56)) (.slice p6 n6 k6) k) := qa ((hT6.mono fun b hb => hb.imp id (qc HS5.o)).up ha)
         have HX6 := qa (cM w6 ⟨kd, nn, a, b', c, d, lo, hi⟩ (.slice p6 n6 k6))
         have hb6 := HB5.o.trans (hb.mono HB5.o.size)
         have HB6 := qa (hb6.trans (ha.mono hb6.size)); have HG6 := qa ((HG5.o.up hb).up ha); clear hT6 hb ha hb6)
      | (refine bY rfl (.tmp 4) rfl w6.heap.size rfl kd nn a b' c d lo hi (.slice p6 n6 k6) HX6.o ?_)
      | (refine b6 rfl (.tmp 2) (.tmp 15) rfl w.heap.size rfl ⟨kd, nn, a, b', c, d, lo, hi⟩ (.slice p6 n6 k6) rfl rfl _ HG6.o (show (8 : Nat) = 8 from rfl) ?_; intro w7 hbx hg; have HX7 := qa hbx; have q5R := qa hg; clear hbx hg))
    all_goals exact U5 HT6.o HB6.o q5R.o HX7.o rfl rfl rfl rfl
  · have HCK := qa (fun W (hW : aO W v l) => by have := A3 hW; rw [fU hc] at this; exact this)
    have HNO : Hid (∀ W, Calls prog 40 #[] W (iC (fun _ => False) eS W)) := qa (fun W => K0 _)
    have HR : Hid (gvT l = (noT, .nil)) := qa (by unfold gvT; rw [qu hc]; rfl)
    have HQ : Hid (decide (Chk l) = false) := qa (by simp [hc])
    rw [HR.o, HQ.o]
    clear h hc HR HQ
    go_enter func17, ntmps17
    go_wp2_with (first
      | ((with_reducible refine (HCK.o _ (HN.o.up HB1.o)).mono ?_); rintro e w5 ⟨rfl, hx⟩; have HB5 := qa (HB1.o.trans ((aE hx).mono HB1.o.size)); have HG5 := qa (HG1.o.up (aE hx)); have HS5 := qa (qc HS1.o (aE hx).size); clear hx)
      | ((with_reducible refine (HNO.o _).mono ?_); rintro e w6 ⟨u6, rfl, hT6, hb⟩; have HB6 := qa (HB5.o.trans (hb.mono HB5.o.size)); have HG6 := qa (HG5.o.up hb); have HT6 : Hid (aM (upA (fun _ => False) (w.heap.size + 1)) w6 u6 .nil) := qa (hT6.mono (fun b hb => hb.imp id (qc HS5.o))); clear hb hT6)
      | (refine b6 rfl (.tmp 2) (.tmp 9) rfl w.heap.size rfl noT u6 HT6.o.one rfl _ HG6.o (show (8 : Nat) = 8 from rfl) ?_; intro w7 hbx hg; have HX7 := qa hbx; have q5R := qa hg; clear hbx hg))
    all_goals exact U5 HT6.o HB6.o q5R.o HX7.o rfl rfl rfl rfl
noncomputable def q2n(c:Nat)(l:List Nd):List Nd:=
 if Chk l then(if fA (iB c (gvT l).1 (gvT l).2 (cV c (gvT l).2)).1=true\/400<szT (iB c (gvT l).1 (gvT l).2 (cV c (gvT l).2))then []else(iB c (gvT l).1 (gvT l).2 (cV c (gvT l).2)).1::aT (iB c (gvT l).1 (gvT l).2 (cV c (gvT l).2)).2)else []
theorem nP(w:World):aO w (.slice none 0 0) []:=(d4.nil 8 w 0 0).sl
theorem U6 {w : World} {v : Value} {l : List Nd} (c : Nat) (hcb : c < 256) (h : aO w v l) (hq : ∀ x ∈ l, NdQ x) : Calls prog 15 #[v, .int .u8 (c : Int)] w (U4 (q2n c l) w) := by
  have HN := qa h
  have HGV := qa (fun W (hW : aO W v l) => zB hW)
  obtain ⟨R, hR⟩ : ∃ R, R = q2n c l := ⟨_, rfl⟩
  rw [← hR]
  unfold q2n at hR
  by_cases hc : Chk l
  · obtain ⟨x, k, h1, h2, h3⟩ := nM hc hq
    have hl := hc.2.1
    have hkl : szF k < 400 := by
      exact ZmM0
    have hg : gvT l = (x, k) := by unfold gvT; rw [qv hc, h2]; rfl
    rw [hg, show decide (Chk l) = true by simp [hc]] at HGV
    rw [qv hc, hg] at hR
    simp only at hR
    have HBY := qa (fun (A' : Nat → Prop) (W : World) (u : Value) (hT : aM A' W u k) => q4F c hcb 400 (qb _) A' W x u k (by omega) h3 hT)
    have hgd := nH (c := c) h3.1 h3.2.2 (dZ c k h3.2.2)
    have hsd := sC c x k (by omega)
    generalize iB c x k (cV c k) = t at *
    obtain ⟨⟨dk, dn, da, db, dc, dd, dl, dh⟩, df⟩ := t
    have hst : szT (⟨dk, dn, da, db, dc, dd, dl, dh⟩, df) = 1 + szF df := rfl
    rw [hst] at hR hsd
    have HSZ := qa (fun (A' : Nat → Prop) (W : World) (u : Value) (hT : aM A' W u df) => T9 (A := A') 400000 (w := W) (x := ⟨dk, dn, da, db, dc, dd, dl, dh⟩) (u := u) (by omega) (by decide) hT)
    have HDD := qa (fun (W : World) (u : Value) => tU (w := W) ⟨dk, dn, da, db, dc, dd, dl, dh⟩ u)
    have HLD := qa (fun (A' : Nat → Prop) (W : World) (u : Value) (hT : aM A' W u df) => q3z (A := A') 400000 (w := W) (x := ⟨dk, dn, da, db, dc, dd, dl, dh⟩) (u := u) (k := df) (by omega) (by decide) hgd.2.1 hgd.2.2.2 hT)
    simp only at hR
    generalize fA ⟨dk, dn, da, db, dc, dd, dl, dh⟩ = q at *
    generalize (⟨dk, dn, da, db, dc, dd, dl, dh⟩ :: aT df : List Nd) = nl at *
    obtain ⟨kd, nn, a, b', c', d, lo, hi⟩ := x
    have HR := qa hR
    generalize hS : 1 + szF df = S at *
    clear h hc h1 h2 h3 hl hkl hg hgd hst hR hS
    by_cases hs4 : 400 < S
    all_goals
      have HS4 := qa hs4
      cases q
      all_goals
        go_enter func15, ntmps15
        go_wp2_with (first
          | ((with_reducible refine (HGV.o _ HN.o).mono ?_); rintro e w6 ⟨u6, rfl, hT6, hb⟩; obtain ⟨p6, n6, k6, hu6, -⟩ := hT6.form; subst hu6
             have ha := aB w6 (.cells (tmA ⟨kd, nn, a, b', c', d, lo, hi⟩ (.slice p6 n6 k6)) 56)
             have HT6 := qa (hT6.up ha)
             have HX6 := qa (cM w6 ⟨kd, nn, a, b', c', d, lo, hi⟩ (.slice p6 n6 k6))
             have HB6 := qa (hb.trans (ha.mono hb.size)); clear hT6 hb ha)
          | (refine bY rfl (.tmp 5) rfl w6.heap.size rfl kd nn a b' c' d lo hi (.slice p6 n6 k6) HX6.o ?_)
          | ((with_reducible refine (HBY.o _ _ _ HT6.o).mono ?_); rintro e w7 ⟨u7, rfl, hT7, hb⟩; obtain ⟨p7, n7, k7, hu7, -⟩ := hT7.form; subst hu7
             have ha := aB w7 (.cells (tmA ⟨dk, dn, da, db, dc, dd, dl, dh⟩ (.slice p7 n7 k7)) 56)
             have HT7 := qa (hT7.up ha)
             have HX7 := qa (cM w7 ⟨dk, dn, da, db, dc, dd, dl, dh⟩ (.slice p7 n7 k7))
             have HB7 := qa (HB6.o.trans ((hb.trans (ha.mono hb.size)).mono HB6.o.size)); clear hT7 hb ha)
          | (refine bY rfl (.tmp 7) rfl w7.heap.size rfl dk dn da db dc dd dl dh (.slice p7 n7 k7) HX7.o ?_)
          | ((with_reducible refine (HDD.o _ _).mono ?_); rintro e w8 ⟨rfl, hx⟩; have HX7 := qa (HX7.o.up (aE hx)); have HT7 := qa (HT7.o.up (aE hx)); have HB7 := qa (HB7.o.trans ((aE hx).mono HB7.o.size)); have c0 : w8.cell? ⟨w7.heap.size, 0, none⟩ = some (.int .i64 dk) := HX7.o.cell (i := 0) (show (0 : Nat) < 8 by decide); have c1 : w8.cell? ⟨w7.heap.size, 1, none⟩ = some (.int .u64 da) := HX7.o.cell (i := 1) (show (1 : Nat) < 8 by decide); have c2 : w8.cell? ⟨w7.heap.size, 2, none⟩ = some (.int .u64 db) := HX7.o.cell (i := 2) (show (2 : Nat) < 8 by decide); have c3 : w8.cell? ⟨w7.heap.size, 3, none⟩ = some (.int .u64 dc) := HX7.o.cell (i := 3) (show (3 : Nat) < 8 by decide); have c4 : w8.cell? ⟨w7.heap.size, 4, none⟩ = some (.int .u64 dd) := HX7.o.cell (i := 4) (show (4 : Nat) < 8 by decide); have c5 : w8.cell? ⟨w7.heap.size, 5, none⟩ = some (.int .i64 dl) := HX7.o.cell (i := 5) (show (5 : Nat) < 8 by decide); have c6 : w8.cell? ⟨w7.heap.size, 6, none⟩ = some (.int .i64 dh) := HX7.o.cell (i := 6) (show (6 : Nat) < 8 by decide); have c7 : w8.cell? ⟨w7.heap.size, 7, none⟩ = some (.slice p7 n7 k7) := HX7.o.cell (i := 7) (show (7 : Nat) < 8 by decide); clear hx)
          | ((with_reducible refine (HSZ.o _ _ _ HT7.o).mono ?_); rintro e w9 ⟨rfl, hx⟩; have HX7 := qa (HX7.o.up (aE hx)); have HT7 := qa (HT7.o.up (aE hx)); have HB7 := qa (HB7.o.trans ((aE hx).mono HB7.o.size)); clear hx)
          | ((with_reducible refine (HLD.o _ _ _ HT7.o).mono ?_); rintro e w10 ⟨u10, rfl, hN, hb⟩; have q7i := qa hN; have HB7 := qa (HB7.o.trans (hb.mono HB7.o.size)); clear hb hN))
        all_goals (go_ret; rw [HR.o]; first
          | (rw [qv (show (true = true ∨ 400 < S) from .inl rfl)]; exact ⟨_, rfl, nP _, HB7.o⟩)
          | (rw [qv (show (True ∨ 400 < S) from .inl True.intro)]; exact ⟨_, rfl, nP _, HB7.o⟩)
          | (rw [qv (show (false = true ∨ 400 < S) from .inr HS4.o)]; exact ⟨_, rfl, nP _, HB7.o⟩)
          | (rw [qu (show ¬ (false = true ∨ 400 < S) from fun h => h.elim (fun e => by cases e) HS4.o)]; exact ⟨_, rfl, q7i.o, HB7.o⟩))
  · rw [show decide (Chk l) = false by simp [hc], show gvT l = (noT, .nil) by unfold gvT; rw [qu hc]; rfl] at HGV
    rw [qu hc] at hR
    have HR := qa hR
    clear h hc hR hq
    go_enter func15, ntmps15
    go_wp2_with (first
      | ((with_reducible refine (HGV.o _ HN.o).mono ?_); rintro e w6 ⟨u6, rfl, hT6, hb⟩; obtain ⟨p6, n6, k6, hu6, -⟩ := hT6.form; subst hu6
         have ha := aB w6 (.cells (tmA noT (.slice p6 n6 k6)) 56)
         have HB6 := qa (hb.trans (ha.mono hb.size)); clear hT6 hb ha))
    go_ret
    rw [HR.o]
    exact ⟨_, rfl, nP _, HB6.o⟩
def mtR:Tm->List UInt8->Bool
 |t,[]=>tJ t.1 (mL t.2)
 |t,c::s=>if fA (iB c.toNat t.1 t.2 (cV c.toNat t.2)).1=true\/400<szT (iB c.toNat t.1 t.2 (cV c.toNat t.2))then false else mtR (iB c.toNat t.1 t.2 (cV c.toNat t.2)) s
noncomputable def mtN(l:List Nd)(s:List UInt8):Bool:=if Chk l then mtR (gvT l) s else false
theorem W8{α:Type}(l:List α)(i:Nat)(d:α)(h:i<l.length):l.drop i=l.getD i d::l.drop (i+1):=by
 rw[jC h];simp[List.getD,h]
structure MtS(w W:World)(g:Nat)(t:Tm)(u:Value):Prop where
 bel:Below w.heap.size w W
 box:fB W g (tmC t.1 u)
 tm:aM (fun b=>b≠g) W u t.2
theorem MtS.up{w W W':World}{g:Nat}{t:Tm}{u:Value}(h:MtS w W g t u)(hb:Below W.heap.size W W'):MtS w W' g t u:=
 ⟨h.bel.trans (hb.mono h.bel.size),h.box.up hb,h.tm.up hb⟩
theorem MtS.put{w W W' W'':World}{g:Nat}{t d:Tm}{u u':Value}(h:MtS w W g t u)(hwg:w.heap.size<=g)(hT:aM (upA (fun b=>b≠g) W.heap.size) W' u' d.2)(hb:Below W.heap.size W W')(hg:W'.grownBy W'' (some g))(hx:fB W'' g (tmC d.1 u')):MtS w W'' g d u':=by
 have hlt:=(h.box.lt _ rfl).2;have hne:aM (fun b=>b≠g) W' u' d.2:=hT.mono fun b hb=>hb.elim id (fun h e=>by subst e;simp only at hlt;omega);exact⟨(h.bel.trans (hb.mono h.bel.size)).grown hg (h.bel.trans (hb.mono h.bel.size)).size (by rintro q ⟨⟩;exact hwg),hx,hne.keep hg.size (fun b hb hlt=>hg.block b hlt (fun e=>hb (qp e)))⟩
theorem sN {w : World} {v : Value} {l : List Nd} (s : ByteArray) (hsz : s.size ≤ 1000000) (h : aO w v l) (hq : ∀ x ∈ l, NdQ x) : Calls prog 14 #[v, .string s] w fun e w' => e = .returned (.bool (mtN l (bys s))) ∧ ∃ x, w' = ext w x := by
  have HN := qa h
  have HGV := qa (fun W (hW : aO W v l) => zB hW)
  have HIX := qa (fun (i : Nat) (h : i < s.size) (W : World) => eY (P := prog) 9 underlying9 h W)
  obtain ⟨R, hR⟩ : ∃ R, R = mtN l (bys s) := ⟨_, rfl⟩
  rw [← hR]
  unfold mtN at hR
  by_cases hc : Chk l
  · obtain ⟨x, k, h1, h2, h3⟩ := nM hc hq
    have hkl : szF k < 400 := by
      exact ZmM0
    have hg : gvT l = (x, k) := by unfold gvT; rw [qv hc, h2]; rfl
    rw [hg, show decide (Chk l) = true by simp [hc]] at HGV
    rw [qv hc, hg] at hR
    have HR : Hid (mtR (x, k) ((bys s).drop 0) = R) := qa hR.symm
    have HGD := qa h3
    have HSM : Hid (szT (x, k) ≤ 400) := qa (by show 1 + szF k ≤ 400; omega)
    obtain ⟨kd, nn, a, b', c', d, lo, hi⟩ := x
    clear h hc h1 h2 h3 hkl hg hR hq
    go_enter func14, ntmps14
    go_wp2_with (first
      | ((with_reducible refine (HGV.o _ HN.o).mono ?_); rintro e w6 ⟨u6, rfl, hT6, hb⟩; obtain ⟨p6, n6, k6, hu6, -⟩ := hT6.form; subst hu6
         have ha := aB w6 (.cells (tmA ⟨kd, nn, a, b', c', d, lo, hi⟩ (.slice p6 n6 k6)) 56)
         have HM6 : Hid (MtS w (w6.alloc (.cells (tmA ⟨kd, nn, a, b', c', d, lo, hi⟩ (.slice p6 n6 k6)) 56)) w6.heap.size (⟨kd, nn, a, b', c', d, lo, hi⟩, k) (.slice p6 n6 k6)) :=
           qa ⟨hb.trans (ha.mono hb.size), cM w6 ⟨kd, nn, a, b', c', d, lo, hi⟩ (.slice p6 n6 k6), (hT6.lt.up ha).mono (fun b hb e => by have := hb.2; omega)⟩
         have HG6 : Hid (w.heap.size ≤ w6.heap.size) := qa hb.size
         clear hT6 hb ha))
    generalize w6.alloc (.cells (tmA ⟨kd, nn, a, b', c', d, lo, hi⟩ (.slice p6 n6 k6)) 56) = w7 at *
    generalize w6.heap.size = g at *
    go_loopg [17] s.size (fun gk iv wr => ∃ (i : Nat) (t : Tm) (u : Value), iv = .int .i64 i ∧ i ≤ s.size ∧ MtS w wr g t u ∧ gZ t ∧ szT t ≤ 400 ∧ Hid (mtR t ((bys s).drop i) = R) ∧ gk = s.size - i)
    case atStart => exact ⟨0, _, _, rfl, qd _, HM6.o, HGD.o, HSM.o, HR, rfl⟩
    case round =>
      obtain ⟨i, t, u, rfl, hi, hM, q7p, q7E, HV, hgk⟩ := hrel
      have HM := qa hM
      have HGK := qa hgk
      obtain ⟨p, n, q, hu, -⟩ := hM.tm.form
      subst hu
      clear hM hgk HM6 HR HGV HGD HSM
      by_cases hlt : i < s.size
      · have q64 := HIX.o i hlt
        have q7V : (bys s).drop i = (bys s).getD i 0 :: (bys s).drop (i + 1) := W8 (bys s) i 0 (by rw [bH]; exact hlt)
        have HV2 := HV.o
        rw [q7V, mtR] at HV2
        have hcb : ((bys s).getD i 0).toNat < 256 := UInt8.toNat_lt _
        have HBY := qa (fun (A' : Nat → Prop) (W : World) (hT : aM A' W (.slice p n q) t.2) => q4F ((bys s).getD i 0).toNat hcb 400 (qb _) A' W t.1 (.slice p n q) t.2 q7E q7p hT)
        have hgd := nH (c := ((bys s).getD i 0).toNat) q7p.1 q7p.2.2 (dZ ((bys s).getD i 0).toNat t.2 q7p.2.2)
        have hsd := sC ((bys s).getD i 0).toNat t.1 t.2 q7E
        generalize ((bys s).getD i 0).toNat = c at *
        generalize iB c t.1 t.2 (cV c t.2) = d at *
        have qcl := qa hgd
        have hva : (fA d.1 = true ∨ 400 < 1 + szF d.2) → R = false := fun h => by rw [qv h] at HV2; exact HV2.symm
        have hvb : ¬ (fA d.1 = true ∨ 400 < 1 + szF d.2) → mtR d ((bys s).drop (i + 1)) = R := fun h => by rw [qu h] at HV2; exact HV2
        have hzz : ∀ N, 1 + szF d.2 ≤ N → szT d ≤ N := fun _ h => h
        clear HV2
        obtain ⟨⟨kd, nn, a, b', c', dd', lo, hi'⟩, k⟩ := t
        obtain ⟨⟨dk, dn, da, db, dc, dd, dl, dh⟩, df⟩ := d
        have HSZ := qa (fun (A' : Nat → Prop) (W : World) (u : Value) (hT : aM A' W u df) => T9 (A := A') 400000 (w := W) (x := ⟨dk, dn, da, db, dc, dd, dl, dh⟩) (u := u) (by change 1 + szF df ≤ _ at hsd; omega) (by decide) hT)
        have HDD := qa (fun (W : World) (u : Value) => tU (w := W) ⟨dk, dn, da, db, dc, dd, dl, dh⟩ u)
        simp only at hva hvb hzz
        generalize fA ⟨dk, dn, da, db, dc, dd, dl, dh⟩ = q5 at *
        generalize 1 + szF df = S at *
        have HVA := qa hva
        have HVB := qa hvb
        have HZZ := qa hzz
        clear hva hvb hzz
        clear q7V hcb hgd hsd q7p q7E HIX HV
        go_upto_region 7 with (fail)
        have hdr := fR (qn wr.heap.size wr)
        have HM7 := qa (HM.o.up hdr)
        refine bQ (C := fun w' => ∃ x, w' = ext wr.drew x) [0, 1, 2, 3] [4] [5] (by kernel_rfl) (by kernel_rfl) (aF (qn _ _)) ?_
        clear hdr HM
        generalize wr.drew = w8 at *
        have HLT : Hid (g < w8.heap.size) := qa (HM7.o.box.lt _ rfl).2
        simp only [pk]
        repeat (first
          | (go_big_quiet_want; refine bP 56 8 _ rfl g 0 rfl (tmA ⟨kd, nn, a, b', c', dd', lo, hi'⟩ (.slice p n q)) rfl (fun w' hw' j hj => by obtain ⟨y, rfl⟩ := hw'; rw [qH, (aC w8 y).cell (p := ⟨g, j, none⟩) HLT.o, HM7.o.box.cell (show j < 8 from hj), q0L]) _ underlying56 rfl (by kernel_rfl) ?_; go_simp; go_big_quiet_on)
          | go_big_quiet_step (fail))
        refine wpQuiet_nil ?_
        unfold aD
        go_wp2_with (first | ((with_reducible refine (HBY.o _ _ HM7.o.tm).mono ?_); rintro e w9 ⟨u8, rfl, hT, hb⟩; obtain ⟨p8, n8, k8, hu8, -⟩ := hT.form; subst hu8; have HT9 := qa hT; have HB9 := qa hb; have q7t := qa (HM7.o.box.up hb); clear hT hb))
        refine ⟨aF HB9.o, ?_⟩
        unfold aD
        unfold aD
        go_wp2_with (first | (refine b6 rfl (.tmp 5) (.tmp 24) rfl g rfl ⟨dk, dn, da, db, dc, dd, dl, dh⟩ (.slice p8 n8 k8) rfl rfl _ q7t.o (show (8 : Nat) = 8 from rfl) ?_; intro w11 hbx hg; have HM9 := qa (HM7.o.put (d := (⟨dk, dn, da, db, dc, dd, dl, dh⟩, df)) HG6.o HT9.o HB9.o hg hbx); clear hbx hg))
        refine ⟨trivial, ?_⟩
        unfold aD
        clear HM7 HT9 HB9 q7t HLT
        by_cases hs4 : 400 < S
        all_goals
          have HS4 := qa hs4
          cases q5
          all_goals
            go_wp2_with (first
              | (refine bY rfl (.tmp 5) rfl g rfl dk dn da db dc dd dl dh (.slice p8 n8 k8) HM9.o.box ?_)
              | ((with_reducible refine (HDD.o _ _).mono ?_); rintro e w10 ⟨rfl, hx⟩; have q60 := qa (HM9.o.up (aE hx)); have c0 : w10.cell? ⟨g, 0, none⟩ = some (.int .i64 dk) := q60.o.box.cell (i := 0) (show (0 : Nat) < 8 by decide); have c1 : w10.cell? ⟨g, 1, none⟩ = some (.int .u64 da) := q60.o.box.cell (i := 1) (show (1 : Nat) < 8 by decide); have c2 : w10.cell? ⟨g, 2, none⟩ = some (.int .u64 db) := q60.o.box.cell (i := 2) (show (2 : Nat) < 8 by decide); have c3 : w10.cell? ⟨g, 3, none⟩ = some (.int .u64 dc) := q60.o.box.cell (i := 3) (show (3 : Nat) < 8 by decide); have c4 : w10.cell? ⟨g, 4, none⟩ = some (.int .u64 dd) := q60.o.box.cell (i := 4) (show (4 : Nat) < 8 by decide); have c5 : w10.cell? ⟨g, 5, none⟩ = some (.int .i64 dl) := q60.o.box.cell (i := 5) (show (5 : Nat) < 8 by decide); have c6 : w10.cell? ⟨g, 6, none⟩ = some (.int .i64 dh) := q60.o.box.cell (i := 6) (show (6 : Nat) < 8 by decide); have c7 : w10.cell? ⟨g, 7, none⟩ = some (.slice p8 n8 k8) := q60.o.box.cell (i := 7) (show (7 : Nat) < 8 by decide); clear hx)
              | ((with_reducible refine (HSZ.o _ _ _ q60.o.tm).mono ?_); rintro e w12 ⟨rfl, hx⟩; have q60 := qa (q60.o.up (aE hx)); clear hx))
            first
              | (go_ret; rw [HVA.o (.inr HS4.o)]; exact ⟨rfl, aF q60.o.bel⟩)
              | (go_ret; rw [HVA.o (.inl rfl)]; exact ⟨rfl, aF q60.o.bel⟩)
              | (go_ret; rw [HVA.o (.inl True.intro)]; exact ⟨rfl, aF q60.o.bel⟩)
              | (go_ret; have hrf := HVA.o (by simp); rw [hrf]; exact ⟨rfl, aF q60.o.bel⟩)
              | (go_roundg (s.size - (i + 1))
                 case measure => (have := HGK.o; omega)
                 case rel => exact ⟨i + 1, _, _, by go_num, by omega, q60.o, qcl.o, HZZ.o 400 (Nat.le_of_not_lt HS4.o), qa (HVB.o (fun h => h.elim (fun e => by cases e) HS4.o)), rfl⟩)
      · have q7V : (bys s).drop i = [] := List.drop_eq_nil_of_le (by rw [bH]; omega)
        have hv := HV.o
        rw [q7V, mtR] at hv
        have HNU := qa (fun (A' : Nat → Prop) (W : World) (hT : aM A' W (.slice p n q) t.2) => q2m (A := A') 401 (w := W) (x := t.1) (k := t.2) (by change 1 + szF t.2 ≤ 400 at q7E; omega) hT)
        rw [hv] at HNU
        clear q7V hv HV q7p q7E HIX
        obtain ⟨⟨kd, nn, a, b', c', dd', lo, hi'⟩, k⟩ := t
        go_wp2_with (first
          | (refine bY rfl (.tmp 5) rfl g rfl kd nn a b' c' dd' lo hi' (.slice p n q) HM.o.box ?_)
          | ((with_reducible refine (HNU.o _ _ HM.o.tm).mono ?_); rintro e w10 ⟨rfl, hx⟩; have q60 := qa (HM.o.up (aE hx)); clear hx))
        go_ret
        exact ⟨rfl, aF q60.o.bel⟩
  · rw [show decide (Chk l) = false by simp [hc], show gvT l = (noT, .nil) by unfold gvT; rw [qu hc]; rfl] at HGV
    rw [qu hc] at hR
    have HR := qa hR
    clear h hc hR hq
    go_enter func14, ntmps14
    go_wp2_with (first
      | ((with_reducible refine (HGV.o _ HN.o).mono ?_); rintro e w6 ⟨u6, rfl, hT6, hb⟩; obtain ⟨p6, n6, k6, hu6, -⟩ := hT6.form; subst hu6
         have ha := aB w6 (.cells (tmA noT (.slice p6 n6 k6)) 56)
         have HB6 := qa (hb.trans (ha.mono hb.size)); clear hT6 hb ha))
    go_ret
    rw [HR.o]
    exact ⟨rfl, aF HB6.o⟩
theorem q3I{A:Nat->Prop}{w:World}{v:Value}{f:Fo}(h:aM A w v f)(hs:szF f<=1000000):Calls prog 22 #[v] w fun e w'=>e=.returned (.int .i64 (pC 0 f))/\∃x,w'=ext w x:=by
 obtain⟨rs,oa,cap,b,off,rfl,hd,hw⟩:=h.walk;have HIX:=qa (dL hd);have HW:=qa hw;have hm:=hd.len;have hcz:=tN f;obtain⟨R,hR⟩:∃R,R=pC 0 f:=⟨_,rfl⟩;rw[<-hR];have HR0:Hid (bC A w (rs.drop 0) f):=qa hw.rows;have HV0:Hid (pC 0 f=R):=qa hR.symm;have HSZ:=qa hs;generalize cnt f=m at*;clear hd hw h hR hs;go_enter func22,ntmps22;go_wp2
 go_loopg [7] m (fun gk iv wr=>∃(i:Nat) (r:Fo),iv=.int .i64 i/\i<=m/\Hid (pC i r=R)/\szF r<=1000000/\bC A w (rs.drop i) r/\Below w.heap.size w wr/\gk=m-i)
 case atStart=>exact⟨0,f,rfl,qd _,HV0,HSZ.o,HR0.o,qn _ _,rfl⟩
 case round=>
  obtain⟨i,r,rfl,hi,HV,hsr,hrr,hB,hgk⟩:=hrel;have HB:=qa hB;have HGK:=qa hgk;have HRR:=qa hrr;clear hB hgk hrr HR0 HV0 HSZ;by_cases hlt:i<m
  ·have q64:=fun W=>HIX.o W i hlt
   obtain⟨y,oj,nj,cj,j,r',hre,ht,hrr,hcc⟩:=HW.o.next HRR.o hlt HB.o;subst hre;have hv:=HV.o;rw[pC]at hv;rw[szF]at hsr;have HSR:Hid (szF r'<=1000000):=qa (by omega);have HCW:=qa hcc;have q5Y:=qa hrr;have HBX:=qa (cM wr y (.slice oj nj cj));have hbn:=aB wr (.cells (tmA y (.slice oj nj cj)) 56);have HBA:=qa (HB.o.trans (hbn.mono HB.o.size));have HNU:=qa (q2m (A:=A) 1000001 (x:=y) (by omega) (ht.up HBA.o));clear hrr hcc HIX HRR HB hbn ht hsr HV;obtain⟨ykd,yn,ya,yb,yc,yd,ylo,yhi⟩:=y;rcases hq:tJ ⟨ykd,yn,ya,yb,yc,yd,ylo,yhi⟩ (mL j)with _|_
   ·rw[hq,qu (by decide)]at hv
    rw[hq]at HNU;have HV2:=qa hv;clear hv hq
    go_wp2_with(first
     |(refine cR rfl (.tmp 10) rfl b (off+i*8) rfl ykd yn ya yb yc yd ylo yhi (.slice oj nj cj) HCW.o ?_)
     |(refine bY rfl (.tmp 4) rfl wr.heap.size rfl ykd yn ya yb yc yd ylo yhi (.slice oj nj cj) HBX.o ?_)
     |((with_reducible refine HNU.o.mono ?_);rintro e w5 ⟨rfl,hx⟩;have HB5:=qa (HBA.o.trans ((aE hx).mono HBA.o.size));clear hx))
    all_goals
     go_roundg (m-(i+1))
     case measure=>have:=HGK.o;omega
     case rel=>exact⟨i+1,r',by go_num,by omega,HV2,HSR.o,q5Y.o,HB5.o,rfl⟩
   rw[hq,qv rfl]at hv;rw[hq]at HNU;have HV2:=qa hv;clear hv hq
   go_wp2_with(first
    |(refine cR rfl (.tmp 10) rfl b (off+i*8) rfl ykd yn ya yb yc yd ylo yhi (.slice oj nj cj) HCW.o ?_)
    |(refine bY rfl (.tmp 4) rfl wr.heap.size rfl ykd yn ya yb yc yd ylo yhi (.slice oj nj cj) HBX.o ?_)
    |((with_reducible refine HNU.o.mono ?_);rintro e w5 ⟨rfl,hx⟩;have HB5:=qa (HBA.o.trans ((aE hx).mono HBA.o.size));clear hx))
   all_goals
    go_ret;rw[<-HV2.o];exact⟨rfl,aF HB5.o⟩
  have hr0:=HRR.o.done (by rw[HW.o.len];omega);subst hr0;have hv:=HV.o;rw[pC]at hv;have HV2:=qa hv;clear HV hv;go_wp2;go_ret;rw[<-HV2.o];exact⟨rfl,aF HB.o⟩
def q2v(A:Nat->Prop)(q:Bool)(f:Fo)(w:World)(e:Ending)(w':World):Prop:=∃u,e=.returned (.tuple #[u,.bool q])/\(q=true->aM (upA A w.heap.size) w' u f)/\Below w.heap.size w w'
theorem q3J {A : Nat → Prop} {w : World} {v : Value} {f : Fo} (c : Nat) (hcb : c < 256) (h : aM A w v f) (hg : cU f) (hs : dP f = true) (qbi : cnt f ≤ 1000) : Calls prog 21 #[v, .int .u8 (c : Int)] w (q2v A (dP (cV c f)) (cV c f) w) := by
  obtain ⟨rs, oa, cap, b, off, rfl, hd, hw⟩ := h.lt.walk
  have HIX := qa (dL hd)
  have HW := qa hw
  have hm := hd.len
  obtain ⟨A0, hA0⟩ : ∃ A0, A0 = fun b => A b ∧ b < w.heap.size := ⟨_, rfl⟩
  rw [← hA0] at HW
  have HR0 : Hid (bC A0 w (rs.drop 0) f) := qa HW.o.rows
  have HA1 : Hid (∀ b, A0 b → A b ∧ b < w.heap.size) := qa (fun b hb => by rw [hA0] at hb; exact hb)
  obtain ⟨D, hD⟩ : ∃ D, D = cV c f := ⟨_, rfl⟩
  rw [← hD]
  have HV0 : Hid (eQ .nil (cV c f) = D) := qa hD.symm
  have HC0 : Hid (cnt D ≤ 1000) := qa (by rw [hD, lW]; exact qbi)
  have HQ0 : Hid (dP D = dP (cV c f)) := qa (by rw [hD])
  generalize dP D = Q at *
  have HGF := qa hg
  have HSF := qa hs
  generalize cnt f = m at *
  clear hd hw h hA0 hD hg hs
  go_enter func21, ntmps21
  go_wp2
  go_loopg [6, 12] m (fun gk ov iv wr => ∃ (i : Nat) (acc r : Fo), iv = .int .i64 i ∧ i ≤ m ∧ kM A0 wr w.heap.size 56 ov acc ∧ Hid (eQ acc (cV c r) = D) ∧ Hid (Q = dP (cV c r)) ∧ cU r ∧ dP r = true ∧ bC A0 w (rs.drop i) r ∧ Below w.heap.size w wr ∧ gk = m - i)
  case atStart => exact ⟨0, .nil, f, rfl, qd _, kM.nil _ _ _ _, HV0, HQ0, HGF.o, HSF.o, HR0.o, qn _ _, rfl⟩
  case round =>
    obtain ⟨i, acc, r, rfl, hi, hO, HV, HQ, hgr, hsr, hrr, hB, hgk⟩ := hrel
    have HB := qa hB
    have HO := qa hO
    have HGK := qa hgk
    have HRR := qa hrr
    have HGR := qa hgr
    have HSR := qa hsr
    clear hB hgk hrr hO hgr hsr HR0 HGF HSF HV0 HQ0
    by_cases hlt : i < m
    · have q64 := fun W => HIX.o W i hlt
      obtain ⟨y, oj, nj, cj, j, r', hre, ht, hrr, hcc⟩ := HW.o.next HRR.o hlt HB.o
      subst hre
      have hgt := bF HGR.o
      have q9n := qa hgt.2
      have hsy := HSR.o
      rw [dP, qJ, jm] at hsy
      have q9g := qa hsy.2
      have HCW := qa hcc
      have q5Y := qa hrr
      have HBX := qa (cM wr y (.slice oj nj cj))
      have hbn := aB wr (.cells (tmA y (.slice oj nj cj)) 56)
      have HBA := qa (HB.o.trans (hbn.mono HB.o.size))
      have HT := qa (ht.up HBA.o)
      have HO2 := qa (HO.o.up hbn)
      have HBY := qa (q4F c hcb 400 (qb _) A0 _ y (.slice oj nj cj) j hsy.1 hgt.1 HT.o)
      have hsd := sC c y j hsy.1
      have hq := HQ.o
      have HV2 : Hid (eQ (eQ acc (one (iB c y j (cV c j)) .nil)) (cV c r') = D) := qa (by rw [eO, ← HV.o, cV]; rfl)
      rw [cV, one, dP] at hq
      generalize iB c y j (cV c j) = d1 at *
      obtain ⟨⟨dk, dn, da, db, dc, dd, dl, dh⟩, df⟩ := d1
      have q6x : Hid (cnt acc + cnt (.cons ⟨dk, dn, da, db, dc, dd, dl, dh⟩ df .nil) ≤ 1000000000) := qa (by have h := HC0.o; rw [← HV2.o, eJ, eJ] at h; simp only [cnt, one] at *; omega)
      have HSZ := qa (fun (A' : Nat → Prop) (W : World) (u : Value) (hT : aM A' W u df) => T9 (A := A') 400000 (w := W) (x := ⟨dk, dn, da, db, dc, dd, dl, dh⟩) (u := u) (by change 1 + szF df ≤ _ at hsd; omega) (by decide) hT)
      simp only at hq
      clear hrr hcc HIX HRR HB HO hbn ht hgt hsy HGR HSR HV HQ HT hsd
      obtain ⟨ykd, yn, ya, yb, yc, yd, ylo, yhi⟩ := y
      generalize 1 + szF df = S at *
      by_cases hs4 : 400 < S
      · have hqf : Q = false := by rw [hq]; simp; omega
        subst hqf
        clear hq
        go_wp2_with (first
          | (refine cR rfl (.tmp 14) rfl b (off + i * 8) rfl ykd yn ya yb yc yd ylo yhi (.slice oj nj cj) HCW.o ?_)
          | (refine bY rfl (.tmp 8) rfl wr.heap.size rfl ykd yn ya yb yc yd ylo yhi (.slice oj nj cj) HBX.o ?_)
          | ((with_reducible refine HBY.o.mono ?_); rintro e w6 ⟨u6, rfl, hT6, hb⟩; obtain ⟨p6, n6, k6, hu6, -⟩ := hT6.form; subst hu6; have hAF := HO2.o.after (fun b hb => (HA1.o b hb).2) HBA.o.size hT6
             have ha := aB w6 (.cells (tmA ⟨dk, dn, da, db, dc, dd, dl, dh⟩ (.slice p6 n6 k6)) 56)
             have HAF := qa (hAF.up ha); have HX6 := qa (cM w6 ⟨dk, dn, da, db, dc, dd, dl, dh⟩ (.slice p6 n6 k6)); have HO6 := qa ((HO2.o.up hb).up ha); have hb6 := HBA.o.trans (hb.mono HBA.o.size); have HB6 := qa (hb6.trans (ha.mono hb6.size)); clear hb hT6 hAF ha hb6)
          | ((with_reducible refine (HSZ.o _ _ _ HAF.o).mono ?_); rintro e w7 ⟨rfl, hx⟩
             have hb7 := aE hx
             have HX7 := qa (HX6.o.up hb7)
             have HB7 := qa (HB6.o.trans (hb7.mono HB6.o.size))
             have hb2 := aB w7 (.cells (tmA ⟨dk, dn, da, db, dc, dd, dl, dh⟩ (.slice p6 n6 k6)) 56)
             have HX := qa (pD w7 ⟨dk, dn, da, db, dc, dd, dl, dh⟩ (.slice p6 n6 k6))
             have HN := qa (bC.single (x := ⟨dk, dn, da, db, dc, dd, dl, dh⟩) ((HAF.o.up hb7).up hb2))
             have HO7 := qa ((HO6.o.up hb7).up hb2)
             have HBB := qa (HB7.o.trans (hb2.mono HB7.o.size))
             clear hx hb7 hb2)
          | (refine bY rfl (.tmp 9) rfl w6.heap.size rfl dk dn da db dc dd dl dh (.slice p6 n6 k6) HX7.o ?_)
          | (at_builtin; refine dT rfl (.tmp 22) (.tmp 24) rfl A0 w.heap.size _ acc rfl HO7.o _ rfl _ _ HX.o HN.o q6x.o HBB.o.size ?_; intro v5 w5 hO hg hq hk5; have HO5 := qa hO; have HB5 := qa (HBB.o.grown hg HBB.o.size hq); clear hO hg hq hk5))
        all_goals
          go_ret2
          refine ⟨_, rfl, ?_, HB7.o⟩
          intro h
          exact absurd h (by decide)
      · have HQ2 : Hid (Q = dP (cV c r')) := qa (by rw [hq]; simp; omega)
        clear hq
        go_wp2_with (first
          | (refine cR rfl (.tmp 14) rfl b (off + i * 8) rfl ykd yn ya yb yc yd ylo yhi (.slice oj nj cj) HCW.o ?_)
          | (refine bY rfl (.tmp 8) rfl wr.heap.size rfl ykd yn ya yb yc yd ylo yhi (.slice oj nj cj) HBX.o ?_)
          | ((with_reducible refine HBY.o.mono ?_); rintro e w6 ⟨u6, rfl, hT6, hb⟩; obtain ⟨p6, n6, k6, hu6, -⟩ := hT6.form; subst hu6; have hAF := HO2.o.after (fun b hb => (HA1.o b hb).2) HBA.o.size hT6
             have ha := aB w6 (.cells (tmA ⟨dk, dn, da, db, dc, dd, dl, dh⟩ (.slice p6 n6 k6)) 56)
             have HAF := qa (hAF.up ha); have HX6 := qa (cM w6 ⟨dk, dn, da, db, dc, dd, dl, dh⟩ (.slice p6 n6 k6)); have HO6 := qa ((HO2.o.up hb).up ha); have hb6 := HBA.o.trans (hb.mono HBA.o.size); have HB6 := qa (hb6.trans (ha.mono hb6.size)); clear hb hT6 hAF ha hb6)
          | ((with_reducible refine (HSZ.o _ _ _ HAF.o).mono ?_); rintro e w7 ⟨rfl, hx⟩
             have hb7 := aE hx
             have HX7 := qa (HX6.o.up hb7)
             have HB7 := qa (HB6.o.trans (hb7.mono HB6.o.size))
             have hb2 := aB w7 (.cells (tmA ⟨dk, dn, da, db, dc, dd, dl, dh⟩ (.slice p6 n6 k6)) 56)
             have HX := qa (pD w7 ⟨dk, dn, da, db, dc, dd, dl, dh⟩ (.slice p6 n6 k6))
             have HN := qa (bC.single (x := ⟨dk, dn, da, db, dc, dd, dl, dh⟩) ((HAF.o.up hb7).up hb2))
             have HO7 := qa ((HO6.o.up hb7).up hb2)
             have HBB := qa (HB7.o.trans (hb2.mono HB7.o.size))
             clear hx hb7 hb2)
          | (refine bY rfl (.tmp 9) rfl w6.heap.size rfl dk dn da db dc dd dl dh (.slice p6 n6 k6) HX7.o ?_)
          | (at_builtin; refine dT rfl (.tmp 22) (.tmp 24) rfl A0 w.heap.size _ acc rfl HO7.o _ rfl _ _ HX.o HN.o q6x.o HBB.o.size ?_; intro v5 w5 hO hg hq hk5; have HO5 := qa hO; have HB5 := qa (HBB.o.grown hg HBB.o.size hq); clear hO hg hq hk5))
        go_roundg (m - (i + 1))
        case measure => have := HGK.o; omega
        case rel => exact ⟨i + 1, _, r', by go_num, by omega, HO5.o, HV2, HQ2, q9n.o, q9g.o, q5Y.o, HB5.o, rfl⟩
    · have hr0 := HRR.o.done (by rw [HW.o.len]; omega)
      subst hr0
      have he : acc = D := by rw [← HV.o, cV, i7]
      have hq : Q = true := HQ.o
      subst hq
      have HTA := qa HO.o.tms
      rw [he] at HTA
      clear HV HQ he
      go_wp2
      all_goals
        go_ret2
        exact ⟨_, rfl, fun _ => HTA.o.mono (fun b hb => hb.imp (fun h => (HA1.o b h).1) id), HB.o⟩
end Go.Cm
namespace Go.Cm
open Go.RowKit Go.Proofs Go.Maps
def X7(mb:Nat)(pre:List Ed)(f:Fo)(N:Nat)(w:World)(e:Ending)(w':World):Prop:=
 ∃u news,e=.returned u/\aQ gY (pre++eA f)=aQ gY pre++news/\news.length<=szF f/\d4 4 w' w.heap.size 54 u (news.map rE)/\pR prog 54 w' mb ((aQ gY (pre++eA f)).map kv) (N+szF f)/\w.grownBy w' (some mb)
theorem pR.le{P:Program}{K:TypeId}{w:World}{b n n':Nat}{ks:List Value}(h:pR P K w b ks n)(hn:n<=n'):pR P K w b ks n':=by
 obtain⟨d,rfl⟩:=Nat.le.dest hn;clear hn
 induction d with
 |zero=>exact h
 |succ d ih=>exact ih.more
theorem m6{m:Nat}{w W:World}(h:w.grownBy W (some m)):K3 m w W:=⟨h.size,fun b hb hne=>h.block b hb (fun e=>hne (qp e))⟩
theorem dQ{m:Nat}{w W W':World}{row:Option Nat}(h:w.grownBy W (some m))(hg:W.grownBy W' row)(hr:∀k,row=some k->k=m\/w.heap.size<=k):w.grownBy W' (some m):=by
 obtain⟨a1,a2,a3,a4,a5⟩:=h;obtain⟨b1,b2,b3,b4,b5⟩:=hg
 exact⟨b1.trans a1,b2.trans a2,b3.trans a3,qc a4 b4,fun i hi hne=>(b5 i (qe hi a4) (fun e=>by
  rcases hr i e.symm with h1|h1
  ·exact hne (by rw[h1])
  omega)).trans (a5 i hi hne)⟩
theorem d4.keepm{k B E m:Nat}{w w':World}{v:Value}{l:List (List Value)}(h:d4 k w B E v l)(hg:w.grownBy w' (some m))(hm:m<B):d4 k w' B E v l:=h.keep hg (by
 rcases hv:v.ownBlock with _|q
 ·exact .inl rfl
 exact .inr (by intro hh;injection hh with hh;have:=(h.lt q hv).1;omega))
theorem rG(l:List Ed):∀u∈(l.map rE).flatten,u.oneCell'=true:=by
 intro u hu;obtain⟨c,hc,hu⟩:=List.mem_flatten.1 hu;obtain⟨e,-,rfl⟩:=List.mem_map.1 hc;simp only[rE,jK,List.not_mem_nil,or_false]at hu;rcases hu with rfl|rfl|rfl|rfl<;>rfl
theorem q44 {A : Nat → Prop} (mb : Nat) (hA : ¬ A mb) : ∀ (n : Nat) {w : World} {v : Value} {f : Fo} {pre : List Ed} {N : Nat}, szF f < n → N + szF f ≤ 1000000 → aM A w v f → AS EdW f → pR prog 54 w mb ((aQ gY pre).map kv) N →
    Calls prog 19 #[v, .map (some mb)] w (X7 mb pre f N w) := by
  intro n
  induction n with
  | zero => intro w v f pre N h; omega
  | succ n ih =>
    intro w v f pre N hn hM h hE hmp
    obtain ⟨rs, oa, cap, b, off, rfl, hd, hw⟩ := h.walk
    have HIX := qa (dL hd)
    have HW := qa hw
    have hm := hd.len
    have hbm : 0 < cnt f → b ≠ mb := fun h0 e => hA (e ▸ h.ina hd h0)
    have HBM := qa hbm
    have HR0 : Hid (bC A w (rs.drop 0) f) := qa hw.rows
    have HMP := qa hmp
    have HMB := qa hmp.lt
    have HE := qa hE
    have HSZ := qa hM
    have HN := qa hn
    have HIH : Hid (∀ (W : World) (v' : Value) (g : Fo) (p : List Ed) (M : Nat), szF g < n → M + szF g ≤ 1000000 → aM A W v' g → AS EdW g → pR prog 54 W mb ((aQ gY p).map kv) M → Calls prog 19 #[v', .map (some mb)] W (X7 mb p g M W)) := qa (fun W v' g p M h1 h2 h3 h4 h5 => ih h1 h2 h3 h4 h5)
    obtain ⟨sz, hsz⟩ : ∃ sz, sz = szF f := ⟨_, rfl⟩
    have HSF : Hid (szF f = sz) := qa hsz.symm
    generalize cnt f = m at *
    clear hd hw h ih hE hmp hM hn hbm hsz
    go_enter func19, ntmps19
    go_wp2
    go_loopg [5, 10] m (fun gk ov iv wr => ∃ (i N' : Nat) (don acc : List Ed) (r : Fo), iv = .int .i64 i ∧ i ≤ m ∧ d4 4 wr w.heap.size 54 ov (acc.map rE) ∧ Hid (aQ gY (pre ++ don) = aQ gY pre ++ acc) ∧ Hid (don ++ eA r = eA f) ∧ acc.length + szF r ≤ sz ∧ AS EdW r ∧ pR prog 54 wr mb ((aQ gY (pre ++ don)).map kv) N' ∧ N' + szF r ≤ N + sz ∧ bC A w (rs.drop i) r ∧ w.grownBy wr (some mb) ∧ gk = m - i)
    case atStart => exact ⟨0, N, [], [], f, rfl, qd _, d4.nil _ _ _ _, qa (by simp), qa rfl, by have := HSF.o; simp only [qN]; omega, HE.o, by rw [j6]; exact HMP.o, by have := HSF.o; omega, HR0.o, fS _ _, rfl⟩
    case round =>
      obtain ⟨i, N', don, acc, r, rfl, hi, hO, HP, HV, hal, hE, hmp, hNs, hrr, hB, hgk⟩ := hrel
      have HB := qa hB
      have HO := qa hO
      have HGK := qa hgk
      have HRR := qa hrr
      have HEE := qa hE
      have HMM := qa hmp
      have HAL := qa hal
      have HNS := qa hNs
      clear hB hgk hrr HR0 hE hmp hal hNs hO HMP HE
      by_cases hlt : i < m
      · have q64 := fun W => HIX.o W i hlt
        obtain ⟨y, oj, nj, cj, j, r', hre, ht, hrr, hcc⟩ := HW.o.nextS HRR.o hlt (m6 HB.o) (HBM.o (by omega))
        subst hre
        have hee := eD.1 HEE.o
        have HE1 := qa hee.1
        have HE2 := qa hee.2.1
        have HE3 := qa hee.2.2
        have HCW := qa hcc
        have q5Y := qa hrr
        have HBX := qa (cM wr y (.slice oj nj cj))
        have hbn := aB wr (.cells (tmA y (.slice oj nj cj)) 56)
        have HOB := qa (fun q e => (HO.o.lt q e).2)
        have HWR : Hid (w.heap.size ≤ wr.heap.size) := qa HB.o.size
        have HBA := qa (dQ HB.o (aI hbn none) (fun k e => by cases e))
        have HT := qa ht
        have HO2 := qa (HO.o.up hbn)
        have HM2 := qa (HMM.o.up hbn)
        clear hrr hcc HIX HRR HB HO hbn ht hee HEE HMM
        by_cases h1 : y.kd = 1
        · obtain ⟨ykd, yn, ya, yb, yc, yd, ylo, yhi⟩ := y
          simp only at h1
          subst h1
          go_upto_region 6 with (first | (refine cR rfl (.tmp 12) rfl b (off + i * 8) rfl 1 yn ya yb yc yd ylo yhi (.slice oj nj cj) HCW.o ?_))
          generalize wr.alloc (.cells (tmA ⟨1, yn, ya, yb, yc, yd, ylo, yhi⟩ (.slice oj nj cj)) 56) = wy at *
          have HM7 : Hid (pR prog 54 wy.drew mb ((aQ gY (pre ++ don)).map kv) N') := qa (HM2.o.up (fR (qn _ _)))
          have qaJ : Hid (∃ c : Int, ∃ ks', q4I prog 54 64 wy.drew mb ((aQ gY (pre ++ don)).map kv) N' (.agg #[.int .u64 ya, .int .u64 yb, .int .u64 yc, .int .u64 yd]) c ks' ∧ 0 ≤ c ∧ c ≤ N' ∧ ((c = 0 ∧ ks' = (aQ gY (pre ++ (don ++ [bW ⟨1, yn, ya, yb, yc, yd, ylo, yhi⟩ 0]))).map kv ∧ aQ gY (pre ++ (don ++ [bW ⟨1, yn, ya, yb, yc, yd, ylo, yhi⟩ 0])) = aQ gY (pre ++ don) ++ [bW ⟨1, yn, ya, yb, yc, yd, ylo, yhi⟩ 0]) ∨ (1 ≤ c ∧ ks' = (aQ gY (pre ++ (don ++ [bW ⟨1, yn, ya, yb, yc, yd, ylo, yhi⟩ 0]))).map kv ∧ aQ gY (pre ++ (don ++ [bW ⟨1, yn, ya, yb, yc, yd, ylo, yhi⟩ 0])) = aQ gY (pre ++ don)))) := qa (by
            obtain ⟨lk, hk⟩ := q2D (x := bW ⟨1, yn, ya, yb, yc, yd, ylo, yhi⟩ 0) (HE1.o rfl)
            rw [← qk, dJ]
            by_cases hm : gY (bW ⟨1, yn, ya, yb, yc, yd, ylo, yhi⟩ 0) ∈ (aQ gY (pre ++ don)).map gY
            · rw [qv hm]
              obtain ⟨c, h1, h2, h3⟩ := q3L xW underlying64 (fun w => F7 w) hk HM7.o (q1S.2 hm)
              exact ⟨c, _, h3, by omega, h2, .inr ⟨h1, rfl, rfl⟩⟩
            · rw [qu hm]
              have h3 := q3K xW underlying64 (fun w => F7 w) hk HM7.o (fun h => hm (q1S.1 h))
              exact ⟨0, _, h3, by omega, by omega, .inl ⟨rfl, by rw [qG]; rfl, rfl⟩⟩)
          obtain ⟨c, ks', qa8, hc0, hcN, q7Y⟩ := qaJ.o
          obtain ⟨st, w1', w2', i1, i2, i3, i4, i5, g1, g2, hm2⟩ := qa8.step
          have HG1 := qa g1
          have HG2 := qa g2
          have HMM := qa hm2
          have HCS := qa q7Y
          have HCB : Hid (c ≤ 1000000) := qa (by have := HSZ.o; have := HNS.o; have := HSF.o; omega)
          have hcb := HCB.o
          have q9x : Hid (fB wy.drew wr.heap.size (tmC ⟨1, yn, ya, yb, yc, yd, ylo, yhi⟩ (.slice oj nj cj))) := qa (HBX.o.up (fR (qn _ _)))
          have HPM : Hid (some mb ≠ some wr.heap.size) := qa (by intro hh; injection hh with hh; have := HMB.o; have := HWR.o; omega)
          have HQD : Hid (∀ w', wy.drew.grownBy w' (some mb) → ∀ c, c < 4 → w'.cell? ⟨wr.heap.size, 1 + c, none⟩ = some ((#[.int .u64 ya, .int .u64 yb, .int .u64 yc, .int .u64 yd] : Array Value).getD c undef)) := qa (by
            intro w' hg c hc
            have hb := q9x.o.keep hg (.inr (fun e => HPM.o e.symm))
            have hk := fun q (hq : q < 8) => hb.cell (i := q) hq
            rcases (show c = 0 ∨ c = 1 ∨ c = 2 ∨ c = 3 by omega) with rfl | rfl | rfl | rfl
            · exact hk 1 (by decide)
            · exact hk 2 (by decide)
            · exact hk 3 (by decide)
            · exact hk 4 (by decide))
          clear qaJ qa8 hm2 q7Y g1 g2 HM7 HM2
          refine bQ (fun w' => w' = wy.drew ∨ w' = w1') [0,1,2,3,4] [5,6] [7] (by kernel_rfl) (by kernel_rfl) (.inl rfl) ?_
          simp only [pk]
          repeat (first
            | (go_big_quiet_want; refine bP 54 4 _ rfl wr.heap.size 1 rfl #[.int .u64 ya, .int .u64 yb, .int .u64 yc, .int .u64 yd] rfl (fun w' hw' => HQD.o w' (by rcases hw' with rfl | rfl; exact fS _ _; exact HG1.o)) _ underlying54 rfl (by kernel_rfl) ?_; go_simp; go_big_quiet_on)
            | (go_big_quiet_want; refine L1 64 _ _ rfl (.map (some mb)) (.agg #[.int .u64 ya, .int .u64 yb, .int .u64 yc, .int .u64 yd]) (.int .i64 c) rfl rfl (fun w' hw' => by rcases hw' with rfl | rfl; exact i2; exact i3) ?_; go_simp; go_big_quiet_on)
            | go_big_quiet_step (fail))
          refine wpQuiet_nil ?_
          (unfold aD; go_wp2; refine ⟨.inr rfl, ?_⟩)
          (unfold aD; go_wp2; refine ⟨.inr rfl, ?_⟩)
          unfold aD
          have hdr : wy.grownBy wy.drew none := aI (fR (qn _ _)) none
          have HB7 := qa (dQ (dQ HBA.o hdr (fun k e => by cases e)) HG2.o (fun k e => .inl (qp e).symm))
          have HO7 := qa ((HO2.o.up (fR (qn _ _))).keepm HG2.o HMB.o)
          have HX7 := qa (q9x.o.keep HG2.o (.inr (fun e => HPM.o e.symm)))
          have QC2 := qa (HQD.o w2' HG2.o)
          have c7 : w2'.cell? ⟨wr.heap.size, 7, none⟩ = some (.slice oj nj cj) := HX7.o.cell (i := 7) (show (7 : Nat) < 8 by decide)
          have n7 : wr.heap.size < w2'.heap.size := (HX7.o.lt _ rfl).2
          have HT7 := qa (HT.o.stay (m6 HB7.o) hA)
          clear HQD HG1 q9x hdr HBA HO2 HBX
          rcases HCS.o with ⟨rfl, h2, h3⟩ | ⟨h1, h2, h3⟩
          · subst h2
            have HP3 : Hid (aQ gY (pre ++ (don ++ [bW ⟨1, yn, ya, yb, yc, yd, ylo, yhi⟩ 0])) = aQ gY pre ++ (acc ++ [bW ⟨1, yn, ya, yb, yc, yd, ylo, yhi⟩ 0])) := qa (by rw [h3, HP.o, qk])
            rw [show (0 : Int) + 1 = 1 from rfl] at i4 i5
            (unfold aD; go_wp2; refine ⟨trivial, ?_⟩)
            unfold aD
            have HV2 : Hid ((don ++ [bW ⟨1, yn, ya, yb, yc, yd, ylo, yhi⟩ 0] ++ eA j) ++ eA r' = eA f) := qa (by rw [← HV.o, eA, qv rfl]; simp)
            have hb1 := HN.o
            have hb2 := HSF.o
            have hb3 := HAL.o
            have hb4 := HNS.o
            have hb5 := HSZ.o
            rw [szF] at hb3 hb4
            have HCL := qa (fun W hT hM => HIH.o W (.slice oj nj cj) j (pre ++ (don ++ [bW ⟨1, yn, ya, yb, yc, yd, ylo, yhi⟩ 0])) (N' + 1) (by omega) (by omega) hT HE2.o hM)
            have HN3 : Hid (N' + 1 + szF j + szF r' ≤ N + sz) := qa (by omega)
            have HL3 : Hid (acc.length + 1 + szF j + szF r' ≤ sz ∧ sz ≤ 1000000) := qa (by omega)
            have hl7 := aB w2' (.cells #[.int .u64 ya, .int .u64 yb, .int .u64 yc, .int .u64 yd] 54)
            have HX1 : Hid (SlK 4 (w2'.alloc (.cells #[.int .u64 ya, .int .u64 yb, .int .u64 yc, .int .u64 yd] 54)) (.slice (some ⟨w2'.heap.size, 0, none⟩) 1 1) ([bW ⟨1, yn, ya, yb, yc, yd, ylo, yhi⟩ 0].map rE)) := qa (oI 4 w2' #[.int .u64 ya, .int .u64 yb, .int .u64 yc, .int .u64 yd] 54 ([bW ⟨1, yn, ya, yb, yc, yd, ylo, yhi⟩ 0].map rE) rfl (nX _) (show (1 : Nat) ≤ 4294967296 by decide))
            have HO7 := qa (HO7.o.up hl7)
            have HB7 := qa (dQ HB7.o (aI hl7 none) (fun k e => by cases e))
            have HX7 := qa (HX7.o.up hl7)
            have HM7 := qa (HMM.o.up hl7)
            clear hb1 hb2 hb3 hb4 hb5 HP HAL HNS HE1 HE2 HIH HMM HV h3 hl7 HT7
            go_wp2_with (first
              | (refine aJ rfl 54 _ rfl wr.heap.size 1 4 rfl _ _ QC2.o rfl underlying54 rfl (by kernel_rfl) ?_)
              | (at_builtin; refine dI 4 rfl (.tmp 29) (.tmp 32) 62 rfl w.heap.size 54 (.agg #[.int .u64 0, .int .u64 0, .int .u64 0, .int .u64 0]) 32 underlying62 (by kernel_rfl) rfl (by decide) (by decide) _ (acc.map rE) rfl HO7.o _ ([bW ⟨1, yn, ya, yb, yc, yd, ylo, yhi⟩ 0].map rE) rfl HX1.o (nX _) (rG _) (by rw [qA, qA]; have := HL3.o; simp only [qD]; omega) HB7.o.size ?_; intro v4 w4 hO hg hk5; have HO8 : Hid (d4 4 w4 w.heap.size 54 v4 ((acc ++ [bW ⟨1, yn, ya, yb, yc, yd, ylo, yhi⟩ 0]).map rE)) := qa (by rw [qG]; exact hO)
                 have HB8 := qa (dQ HB7.o hg (fun k e => .inr (HO7.o.lt k e).1))
                 have HM8 := qa (HM7.o.keep hg (fun e => by have := (HO7.o.lt _ e.symm).1; have := HMB.o; omega))
                 have HT8 := qa (HT.o.stay (m6 HB8.o) hA)
                 have hx8 := HX7.o.keep hg (.inr (fun e => by have := HOB.o _ e.symm; simp only at this; omega))
                 have c78 : w4.cell? ⟨wr.heap.size, 7, none⟩ = some (.slice oj nj cj) := hx8.cell (i := 7) (show (7 : Nat) < 8 by decide)
                 have n78 : wr.heap.size < w4.heap.size := (hx8.lt _ rfl).2
                 clear hO hg hk5 hx8)
              | ((with_reducible refine (HCL.o _ HT8.o HM8.o).mono ?_); rintro e w6 ⟨u6, nw, rfl, hp, hln, hO6, hM6, hg6⟩
                 have HO9 := qa (HO8.o.keepm hg6 HMB.o)
                 have HX6 := qa hO6.sl
                 have HM6 := qa hM6
                 have HG6 := qa (dQ HB8.o hg6 (fun k e => .inl (qp e).symm))
                 have HPN : Hid (aQ gY (pre ++ (don ++ [bW ⟨1, yn, ya, yb, yc, yd, ylo, yhi⟩ 0] ++ eA j)) = aQ gY pre ++ (acc ++ [bW ⟨1, yn, ya, yb, yc, yd, ylo, yhi⟩ 0] ++ nw)) := qa (by rw [← qk, hp, HP3.o, qk])
                 have HLN := qa hln
                 clear hp hln hO6 hM6 hg6)
              | (at_builtin; refine dI 4 rfl (.tmp 34) (.tmp 38) 62 rfl w.heap.size 54 (.agg #[.int .u64 0, .int .u64 0, .int .u64 0, .int .u64 0]) 32 underlying62 (by kernel_rfl) rfl (by decide) (by decide) _ ((acc ++ [bW ⟨1, yn, ya, yb, yc, yd, ylo, yhi⟩ 0]).map rE) rfl HO9.o u6 (nw.map rE) rfl HX6.o (nX _) (rG _) (by rw [qA, qA, qj]; have := HLN.o; have := HL3.o; simp only [qD]; omega) HG6.o.size ?_; intro v5 w5 hO hg hk5; have HO5 : Hid (d4 4 w5 w.heap.size 54 v5 ((acc ++ [bW ⟨1, yn, ya, yb, yc, yd, ylo, yhi⟩ 0] ++ nw).map rE)) := qa (by rw [qG]; exact hO)
                 have HB5 := qa (dQ HG6.o hg (fun k e => .inr (HO9.o.lt k e).1))
                 have HM5 := qa (HM6.o.keep hg (fun e => by have := (HO9.o.lt _ e.symm).1; have := HMB.o; omega))
                 clear hO hg hk5))
            go_roundg (m - (i + 1))
            case measure => have := HGK.o; omega
            case rel => exact ⟨i + 1, N' + 1 + szF j, don ++ [bW ⟨1, yn, ya, yb, yc, yd, ylo, yhi⟩ 0] ++ eA j, acc ++ [bW ⟨1, yn, ya, yb, yc, yd, ylo, yhi⟩ 0] ++ nw, r', by go_num, by omega, HO5.o, HPN, HV2, by have := HLN.o; have := HL3.o; rw [qj, qj, qD]; omega, HE3.o, by rw [← qk]; exact HM5.o, HN3.o, q5Y.o, HB5.o, rfl⟩
          · have d1 : decide (c + 1 = 1) = false := by simp; omega
            subst h2
            have HP3 : Hid (aQ gY (pre ++ (don ++ [bW ⟨1, yn, ya, yb, yc, yd, ylo, yhi⟩ 0])) = aQ gY pre ++ acc) := qa (h3.trans HP.o)
            (unfold aD; go_wp2; refine ⟨trivial, ?_⟩)
            unfold aD
            have HV2 : Hid ((don ++ [bW ⟨1, yn, ya, yb, yc, yd, ylo, yhi⟩ 0] ++ eA j) ++ eA r' = eA f) := qa (by rw [← HV.o, eA, qv rfl]; simp)
            have hb1 := HN.o
            have hb2 := HSF.o
            have hb3 := HAL.o
            have hb4 := HNS.o
            have hb5 := HSZ.o
            rw [szF] at hb3 hb4
            have HCL := qa (HIH.o _ (.slice oj nj cj) j (pre ++ (don ++ [bW ⟨1, yn, ya, yb, yc, yd, ylo, yhi⟩ 0])) (N' + 1) (by omega) (by omega) HT7.o HE2.o HMM.o)
            have HN3 : Hid (N' + 1 + szF j + szF r' ≤ N + sz) := qa (by omega)
            have HL3 : Hid (acc.length + szF j + szF r' ≤ sz ∧ sz ≤ 1000000) := qa (by omega)
            clear hb1 hb2 hb3 hb4 hb5 HP HAL HNS HE1 HE2 HIH HT HMM HV h3
            go_wp2_with (first
              | (refine aJ rfl 54 _ rfl wr.heap.size 1 4 rfl _ _ QC2.o rfl underlying54 rfl (by kernel_rfl) ?_)
              | ((with_reducible refine HCL.o.mono ?_); rintro e w6 ⟨u6, nw, rfl, hp, hln, hO6, hM6, hg6⟩
                 have HO8 := qa (HO7.o.keepm hg6 HMB.o)
                 have HX6 := qa hO6.sl
                 have HM6 := qa hM6
                 have HG6 := qa (dQ HB7.o hg6 (fun k e => .inl (qp e).symm))
                 have HPN : Hid (aQ gY (pre ++ (don ++ [bW ⟨1, yn, ya, yb, yc, yd, ylo, yhi⟩ 0] ++ eA j)) = aQ gY pre ++ (acc ++ nw)) := qa (by rw [← qk, hp, HP3.o, qk])
                 have HLN := qa hln
                 clear hp hln hO6 hM6 hg6)
              | (at_builtin; refine dI 4 rfl (.tmp 34) (.tmp 38) 62 rfl w.heap.size 54 (.agg #[.int .u64 0, .int .u64 0, .int .u64 0, .int .u64 0]) 32 underlying62 (by kernel_rfl) rfl (by decide) (by decide) _ (acc.map rE) rfl HO8.o u6 (nw.map rE) rfl HX6.o (nX _) (rG _) (by rw [qA, qA]; have := HLN.o; have := HL3.o; omega) HG6.o.size ?_; intro v5 w5 hO hg hk5; have HO5 : Hid (d4 4 w5 w.heap.size 54 v5 ((acc ++ nw).map rE)) := qa (by rw [qG]; exact hO)
                 have HB5 := qa (dQ HG6.o hg (fun k e => .inr (HO8.o.lt k e).1))
                 have HM5 := qa (HM6.o.keep hg (fun e => by have := (HO8.o.lt _ e.symm).1; have := HMB.o; omega))
                 clear hO hg hk5))
            go_roundg (m - (i + 1))
            case measure => have := HGK.o; omega
            case rel => exact ⟨i + 1, N' + 1 + szF j, don ++ [bW ⟨1, yn, ya, yb, yc, yd, ylo, yhi⟩ 0] ++ eA j, acc ++ nw, r', by go_num, by omega, HO5.o, HPN, HV2, by have := HLN.o; have := HL3.o; rw [qj]; omega, HE3.o, by rw [← qk]; exact HM5.o, HN3.o, q5Y.o, HB5.o, rfl⟩
        · have HV2 : Hid ((don ++ eA j) ++ eA r' = eA f) := qa (by rw [← HV.o, eA, qu h1, qk]; rfl)
          have hb1 := HN.o
          have hb2 := HSF.o
          have hb3 := HAL.o
          have hb4 := HNS.o
          have hb5 := HSZ.o
          rw [szF] at hb3 hb4
          have HCL := qa (HIH.o _ (.slice oj nj cj) j (pre ++ don) N' (by omega) (by omega) (HT.o.stay (m6 HBA.o) hA) HE2.o HM2.o)
          have HN3 : Hid (N' + szF j + szF r' ≤ N + sz) := qa (by omega)
          have HL3 : Hid (acc.length + szF j + szF r' ≤ sz ∧ sz ≤ 1000000) := qa (by omega)
          have HP2 := qa HP.o
          clear hb1 hb2 hb3 hb4 hb5 HP HAL HNS HE1 HE2 HIH HT HM2 HV
          obtain ⟨ykd, yn, ya, yb, yc, yd, ylo, yhi⟩ := y
          simp only at h1
          have q1 : (ykd == 1) = false := beq_eq_false_iff_ne.2 h1
          clear h1
          go_wp2_with (first
            | (refine cR rfl (.tmp 12) rfl b (off + i * 8) rfl ykd yn ya yb yc yd ylo yhi (.slice oj nj cj) HCW.o ?_)
            | ((with_reducible refine HCL.o.mono ?_); rintro e w6 ⟨u6, nw, rfl, hp, hln, hO6, hM6, hg6⟩
               have HO7 := qa (HO2.o.keepm hg6 HMB.o)
               have HX6 := qa hO6.sl
               have HM6 := qa hM6
               have HG6 := qa (dQ HBA.o hg6 (fun k e => .inl (qp e).symm))
               have HPN : Hid (aQ gY (pre ++ (don ++ eA j)) = aQ gY pre ++ (acc ++ nw)) := qa (by rw [← qk, hp, HP2.o, qk])
               have HLN := qa hln
               clear hp hln hO6 hM6 hg6)
            | (at_builtin; refine dI 4 rfl (.tmp 34) (.tmp 38) 62 rfl w.heap.size 54 (.agg #[.int .u64 0, .int .u64 0, .int .u64 0, .int .u64 0]) 32 underlying62 (by kernel_rfl) rfl (by decide) (by decide) _ (acc.map rE) rfl HO7.o u6 (nw.map rE) rfl HX6.o (nX _) (rG _) (by rw [qA, qA]; have := HLN.o; have := HL3.o; omega) HG6.o.size ?_; intro v5 w5 hO hg hk5; have HO5 : Hid (d4 4 w5 w.heap.size 54 v5 ((acc ++ nw).map rE)) := qa (by rw [qG]; exact hO)
               have HB5 := qa (dQ HG6.o hg (fun k e => .inr (HO7.o.lt k e).1))
               have HM5 := qa (HM6.o.keep hg (fun e => by have := (HO7.o.lt _ e.symm).1; have := HMB.o; omega))
               clear hO hg hk5))
          go_roundg (m - (i + 1))
          case measure => have := HGK.o; omega
          case rel => exact ⟨i + 1, N' + szF j, don ++ eA j, acc ++ nw, r', by go_num, by omega, HO5.o, HPN, HV2, by have := HLN.o; have := HL3.o; rw [qj]; omega, HE3.o, by rw [← qk]; exact HM5.o, HN3.o, q5Y.o, HB5.o, rfl⟩
      · have hr0 := HRR.o.done (by rw [HW.o.len]; omega)
        subst hr0
        have hv : don = eA f := by rw [← HV.o, eA, j6]
        subst hv
        go_wp2
        go_ret
        exact ⟨_, acc, rfl, HP.o, by have := HAL.o; have := HSF.o; omega, HO.o, HMM.o.le (by have := HNS.o; have := HSF.o; omega), HB.o⟩
def kB(l:List Ed)(c:Nat):List Nat:=l.map fun x=>if kV x c then 1 else 0
def kSd(l:List Ed)(c:Nat):Value:=.string (kZ (kB l c))
theorem q4O(l:List Ed)(c:Nat):By8 (kB l c):=by
 intro n hn;obtain⟨x,-,rfl⟩:=List.mem_map.1 hn;split<;>decide
theorem q1T{l:List Ed}{a b:Nat}:kB l a=kB l b↔iV l a=iV l b:=by
 unfold kB iV
 induction l with
 |nil=>simp
 |cons x l ih=>
  simp only[qI,List.cons.injEq,ih]
  constructor
  ·rintro⟨h1,h2⟩
   exact⟨by revert h1;cases kV x a<;>cases kV x b<;>simp,h2⟩
  rintro⟨h1,h2⟩;exact⟨by rw[h1],h2⟩
theorem X8{l:List Ed}{a b:Nat}:kSd l a=kSd l b↔iV l a=iV l b:=by
 unfold kSd
 constructor
 ·intro h
  injection h with h;exact q1T.1 (vD (q4O l a) (q4O l b) h)
 intro h;rw[q1T.2 h]
theorem q45{l:List Ed}{F:List Nat}{c:Nat}:kSd l c∈F.map (kSd l)↔iV l c∈F.map (iV l):=by
 simp only[jz];exact⟨fun⟨a,ha,h⟩=>⟨a,ha,X8.1 h⟩,fun⟨a,ha,h⟩=>⟨a,ha,X8.2 h⟩⟩
theorem X9{l:List Ed}{c:Nat}(hc:c<256){F:List Nat}(hF:aQ (iV l) (mO.take c)=F):
  (∃i,(F.map (kSd l))[i]? =some (kSd l c)/\aQ (iV l) (mO.take (c+1))=F/\kY l c=i)\/(kSd l c∉F.map (kSd l)/\aQ (iV l) (mO.take (c+1))=F++[c]/\kY l c=F.length):=by
 have hcl:c<mO.length:=by rw[rB];exact hc
 unfold kY;by_cases hm:iV l c∈F.map (iV l)
 ·left
  have h1:=fE hm;have h2:=kJ hm;rw[qA]at h1;rw[ju]at h2;have hq:F.getD (idx (F.map (iV l)) (iV l c)) 0=F[idx (F.map (iV l)) (iV l c)]:=by simp[List.getD,h1]
  have h3:=yY (f:=iV l) (l:=mO) (z:=0) hcl (C7 hc) hF h1 (fun a ha e=>by
   have hal:a<F.length:=by omega
   have:=C3 (F.map (iV l)) a (iV l c) (by rw[qT,qx hal,jN,<-e];simp[List.getD,hal]);unfold idx at ha;omega) (by rw[hq];exact h2)
  refine⟨_,?_,h3.1,h3.2⟩;rw[qT,qx h1,jN,X8.2 h2]
 right
 have h3:=R3 (f:=iV l) (l:=mO) (z:=0) hcl (C7 hc) hF (fun a ha e=>hm (by rw[<-e];exact jd (gN _ _ _ ha)));exact⟨fun h=>hm (q45.1 h),h3.1,h3.2⟩
def M2(l:List Ed):List Int:=nl (mO.map (kY l))
theorem rH(l:List Ed):(M2 l).length=256:=by simp[M2,mO]
def q46(l:List Ed)(w:World)(en:Ending)(w':World):Prop:=
 ∃vf,en=.returned (.tuple #[.agg (ints (M2 l)).toArray,vf])/\Own w' w.heap.size 5 vf (bvN (cP l))/\Below w.heap.size w w'
def F9(l:List Ed)(c:Nat)(cl:List Int):Prop:=cl.length=256/\∀q,q<c->cl.getD q 0=(kY l q:Nat)
theorem tY{l:List Ed}{c k:Nat}{cl:List Int}(h:F9 l c cl)(hc:c<256)(hk:kY l c=k):F9 l (c+1) (cl.set c (k:Int)):=by
 refine⟨by rw[ja];exact h.1,fun q hq=>?_⟩;by_cases hqc:q=c
 ·subst hqc
  rw[cA (by rw[h.1];exact hc),hk]
 rw[cE (fun e=>hqc e.symm),h.2 q (by omega)]
theorem L3{l:List Ed}{cl:List Int}(h:F9 l 256 cl):cl=M2 l:=by
 refine jT (by rw[h.1,rH]) fun i h1 h2=>?_;have h3:=h.2 i (by rw[rH]at h2;exact h2);rw[qt,qx h1,qM]at h3;rw[h3];simp[M2,nl,mO]
theorem q2F(l:List Ed)(x:Ed)(c:Nat):kB (l++[x]) c=kB l c++[(M1 x c).toNat]:=by
 unfold kB;rw[qG,qI,js,q17];rcases q2E x c with h|h<;>rw[h]<;>rfl
theorem q1U(l:List Ed)(c:Nat):(kB l c).length=l.length:=by simp[kB]
theorem Y0 {w : World} {v : Value} {l : List Ed} (h : SlK 4 w v (l.map rE)) (hl : l.length ≤ 1000000) : Calls prog 18 #[v] w (q46 l w) := by
  obtain ⟨ou, cu, bu, fu, rfl, hdu, hcu⟩ := h
  rw [qA] at hdu hcu ⊢
  have hz := F8
  obtain ⟨Z, hZ⟩ : ∃ Z, Z = q34 := ⟨_, rfl⟩
  rw [← hZ] at hz
  obtain ⟨O, hO⟩ : ∃ O : List Int, O = List.replicate 256 0 := ⟨_, rfl⟩
  have HOL : Hid (O.length = 256) := qa (by rw [hO]; exact qO)
  have hb1 := q4L w Z hZ
  have hb2 := q4L (w.alloc (.cells Z 25)) Z hZ
  rw [show (w.alloc (.cells Z 25)).heap.size = w.heap.size + 1 by simp] at hb2
  rw [← hO] at hb1 hb2
  have HB2 := qa (hb2.up (aB _ (.map #[] 0)))
  have HB1 := qa ((hb1.up (aB _ (.cells Z 25))).up (aB _ (.map #[] 0)))
  have HM0 : Hid (pS prog 9 (((w.alloc (.cells Z 25)).alloc (.cells Z 25)).alloc (.map #[] 0)) (w.heap.size + 2) []) := qa (by
    have := pS.made prog 9 ((w.alloc (.cells Z 25)).alloc (.cells Z 25))
    simpa using this)
  have HA : Hid (Below w.heap.size w (((w.alloc (.cells Z 25)).alloc (.cells Z 25)).alloc (.map #[] 0))) := qa aS
  have HS : Hid (w.heap.size + 3 ≤ (((w.alloc (.cells Z 25)).alloc (.cells Z 25)).alloc (.map #[] 0)).heap.size) := qa (by simp)
  have qa5 := lU (P := prog) 4 62 54 underlying62 (by kernel_rfl) hdu
  have HCU : Hid (∀ i, i < l.length → ∀ c, c < 4 → w.cell? ⟨bu, fu + i * 4 + c, none⟩ = some ((#[.int .u64 (l.getD i iJ).a, .int .u64 (l.getD i iJ).b, .int .u64 (l.getD i iJ).c, .int .u64 (l.getD i iJ).d] : Array Value).getD c undef)) := qa (fun i hi c hc => by
    rw [hcu i hi c hc]
    have e1 : (l.map rE).getD i [] = rE (l.getD i iJ) := by simp [List.getD, hi]
    rw [e1]
    unfold rE
    simp [List.getD, qR])
  have HBU : Hid (0 < l.length → bu < w.heap.size) := qa (fun h0 => hdu.hblk h0)
  have hmm := @run_makeMap prog
  have hmu := hdu.len
  obtain ⟨N, hN⟩ : ∃ N, N = l.length := ⟨_, rfl⟩
  have HN := qa hN
  rw [← hN] at qa5 HCU HBU hmu hl ⊢
  clear hdu hcu hb1 hb2 hZ hO hN
  go_enter func18, ntmps18
  go_wp2
  generalize ((w.alloc (.cells Z 25)).alloc (.cells Z 25)).alloc (.map #[] 0) = w3 at *
  clear hmm hz
  go_loopg [5, 14] 256 (fun gk fv cv wr => ∃ (c : Nat) (cl : List Int) (F : List Nat), cv = .int .i64 c ∧ c ≤ 256 ∧ Own wr (w.heap.size + 3) 5 fv (bvN F) ∧ Hid (aQ (iV l) (mO.take c) = F) ∧ oG wr 25 256 (w.heap.size + 1) cl ∧ F9 l c cl ∧ pS prog 9 wr (w.heap.size + 2) (F.map (kSd l)) ∧ oG wr 25 256 w.heap.size O ∧ Below w.heap.size w wr ∧ w.heap.size + 3 ≤ wr.heap.size ∧ gk = 256 - c)
  case atStart => exact ⟨0, O, [], rfl, qd _, Own.nil _ _ _, qa rfl, HB2.o, ⟨HOL.o, fun q hq => by omega⟩, HM0.o, HB1.o, HA.o, HS.o, rfl⟩
  case round =>
    obtain ⟨c, cl, F, rfl, hc, hO, HF, hbx, hcl, hmp, hbo, hbl, hsz, rfl⟩ := hrel
    have HO := qa hO
    have HBX := qa hbx
    have HCL := qa hcl
    have HMP := qa hmp
    have HBO := qa hbo
    have HBL := qa hbl
    have HSZ := qa hsz
    clear hO hbx hcl hmp hbo hbl hsz HB1 HB2 HM0 HA HS
    by_cases q7Q : c < 256
    · have d0 : decide ((c : Int) < 256) = true := qy (by omega)
      have qcH : c % 64 < 64 := jU _ (by decide)
      have qcU : c / 64 < 4 := by omega
      have h1 := B0
      go_wp2
      generalize wr = wo at *
      go_loopg [8, 19] N (fun gk bv iv wr => ∃ i : Nat, iv = .int .i64 i ∧ i ≤ N ∧ Own wr wo.heap.size 5 bv (bvN (kB (l.take i) c)) ∧ Below wo.heap.size wo wr ∧ gk = N - i)
      case atStart => exact ⟨0, rfl, qd _, Own.nil _ _ _, qn _ _, rfl⟩
      case round =>
        obtain ⟨i, rfl, hi, hOb, hbl, rfl⟩ := hrel
        have HOB := qa hOb
        have HBW := qa hbl
        clear hOb hbl
        by_cases hlt : i < N
        · have hbb := HBU.o (by omega)
          have q64 : ∀ W, (Instr.indexAt 62 (.slice ou N cu) (.int .i64 i)).run prog W = .ok (.pointer (some ⟨bu, fu + i * 4, none⟩)) W := fun W => by simpa using qa5 W .i64 i (by omega) (by omega)
          have HCD : Hid (∀ q, q < 4 → wr.cell? ⟨bu, fu + i * 4 + q, none⟩ = some ((#[.int .u64 (l.getD i iJ).a, .int .u64 (l.getD i iJ).b, .int .u64 (l.getD i iJ).c, .int .u64 (l.getD i iJ).d] : Array Value).getD q undef)) := qa (fun q hq => by
            rw [HBW.o.cell (p := ⟨bu, fu + i * 4 + q, none⟩) (by have := HBL.o.size; simp only; omega), HBL.o.cell (p := ⟨bu, fu + i * 4 + q, none⟩) hbb]
            exact HCU.o i hlt q hq)
          obtain ⟨x, hx⟩ : ∃ x, x = l.getD i iJ := ⟨_, rfl⟩
          have HTK : Hid (l.take (i + 1) = l.take i ++ [x]) := qa (by rw [hx]; exact cK l i iJ (by have := HN.o; omega))
          rw [← hx] at HCD
          have hqq : (wr.alloc (.cells #[.int .u64 x.a, .int .u64 x.b, .int .u64 x.c, .int .u64 x.d] 54)).cell? ⟨wr.heap.size, c / 64, none⟩ = some (.int .u64 (kF x (c / 64))) := by
            rw [World.cell?_alloc_new]
            unfold kF
            rcases (show c / 64 = 0 ∨ c / 64 = 1 ∨ c / 64 = 2 ∨ c / 64 = 3 by omega) with e | e | e | e <;> rw [e] <;> rfl
          have HBN : Hid (kF x (c / 64) / 2 ^ (c % 64) % 2 = M1 x c) := qa rfl
          generalize kF x (c / 64) = v at *
          clear hx
          have hz0 : 0 ≤ v / 2 ^ (c % 64) % 2 ∧ v / 2 ^ (c % 64) % 2 < 256 := by have h1 := Int.emod_nonneg (v / 2 ^ (c % 64)) (show (2 : Int) ≠ 0 by decide); have h2 := Int.emod_lt_of_pos (v / 2 ^ (c % 64)) (show (0 : Int) < 2 by decide); omega
          have hs1 : (wr.alloc (.cells #[.int .u64 x.a, .int .u64 x.b, .int .u64 x.c, .int .u64 x.d] 54)).heap.size = wr.heap.size + 1 := by simp
          have HL0 := lM (wr.alloc (.cells #[.int .u64 x.a, .int .u64 x.b, .int .u64 x.c, .int .u64 x.d] 54)) (v / 2 ^ (c % 64) % 2) hz0
          rw [hs1, HBN.o] at HL0
          rw [HBN.o] at hz0
          have HKS : Hid (kB (l.take (i + 1)) c = kB (l.take i) c ++ [(M1 x c).toNat]) := qa (by rw [HTK.o]; exact q2F _ _ _)
          have HLE : Hid ((bvN (kB (l.take i) c)).length + (bvN [(M1 x c).toNat]).length ≤ 4294967296) := qa (by rw [fG, fG, q1U, qW]; simp only [qD]; omega)
          have hlb : Below wr.heap.size wr ((wr.alloc (.cells #[.int .u64 x.a, .int .u64 x.b, .int .u64 x.c, .int .u64 x.d] 54)).alloc (.cells #[.int .u8 (M1 x c)] 5)) := aS
          have HO4 := qa (HOB.o.up hlb)
          have HB4 := qa (HBW.o.trans (hlb.mono HBW.o.size))
          have HS4 : Hid (wo.heap.size ≤ ((wr.alloc (.cells #[.int .u64 x.a, .int .u64 x.b, .int .u64 x.c, .int .u64 x.d] 54)).alloc (.cells #[.int .u8 (M1 x c)] 5)).heap.size) := qa HB4.o.size
          have HL := qa HL0
          have hpw : wr.heap.size < (wr.alloc (.cells #[.int .u64 x.a, .int .u64 x.b, .int .u64 x.c, .int .u64 x.d] 54)).heap.size := by omega
          clear hlb HL0 HTK hs1 hz0 HOB HBW
          generalize (M1 x c) = bt at *
          go_wp2_with (first
            | (refine aJ rfl 54 _ rfl bu (fu + i * 4) 4 rfl _ _ HCD.o rfl underlying54 rfl (by kernel_rfl) ?_)
            | (at_builtin; rw [HBN.o]; refine bU rfl (.tmp 23) (.tmp 34) 59 rfl wo.heap.size 5 (.int .u8 0) 1 underlying59 (by kernel_rfl) rfl (by decide) _ _ rfl HO4.o _ _ rfl HL.o.sl (by intro u hu; simp only [bvN, qI, js, jf] at hu; subst hu; rfl) HLE.o HS4.o ?_; intro v5 w5 hown1 hg1 hk1; have HO5 := qa hown1; have HB5 := qa (HB4.o.grown hg1 HS4.o (fun q e => (HO4.o.lt q e).1)); clear hown1 hg1 hk1))
          go_roundg (N - (i + 1))
          case measure => omega
          case rel => exact ⟨i + 1, by go_num, by omega, by rw [HKS.o, oR]; exact HO5.o, HB5.o, rfl⟩
        · have hie : i = N := by omega
          subst hie
          have htk : l.take i = l := qE (by have := HN.o; omega)
          rw [htk] at HOB
          have HCV : Hid (∀ W v, Sl W v (bvN (kB l c)) → (convert 59 9 v).run prog W = .ok (.string (kZ (kB l c))) W) := qa (fun W v hv => eX (P := prog) W 59 9 5 underlying59 underlying5 underlying9 v _ (by rw [oS (q4O l c)]; exact hv))
          have hcv := HCV.o wr _ HOB.o.sl
          have HLK : Hid (keyOf prog 9 (.string (kZ (kB l c))) = some (.string (kZ (kB l c)).data.toList)) := qa (vG (kB l c) (by rw [q1U]; have := HN.o; omega))
          have HSP := qa (X9 (l := l) q7Q (F := F) HF.o)
          have HKV : Hid (kSd l c = .string (kZ (kB l c))) := qa rfl
          have HBR := qa (HBL.o.trans (HBW.o.mono HBL.o.size))
          have HM7 := qa (HMP.o.up HBW.o)
          have HB7 := qa (HBX.o.up HBW.o)
          have HZ7 := qa (HBO.o.up HBW.o)
          have HO7 := qa (HO.o.up HBW.o)
          have HS7 := qa (qc HSZ.o HBW.o.size)
          have HBV := HOB
          have HWB := HBW
          have HWZ := HSZ
          clear htk HBL HMP HBX HBO HO HSZ HOB HBW
          have hcell : wr.cell? ⟨w.heap.size + 1, c, none⟩ = some (.int .i64 (cl.getD c 0)) := HB7.o.cell q7Q
          have hfr : wr.frozen? ⟨w.heap.size + 1, c, none⟩ = false := HB7.o.free c
          have hpw : w.heap.size + 1 < wr.heap.size := HB7.o.lt
          generalize hky : kZ (kB l c) = ky at *
          rw [HKV.o] at HSP
          rcases HSP.o with ⟨ix, hx1, hx2, hx3⟩ | ⟨hx1, hx2, hx3⟩
          · obtain ⟨e1, e2⟩ := HM7.o.lookOld dA underlying66 HLK.o hx1
            have HX2 := qa hx2
            have HX3 := qa hx3
            have HST := qa (HB7.o.set c ix)
            generalize cl.getD c 0 = y0 at *
            clear hx1 hx2 hx3
            go_wp2
            go_roundg (256 - (c + 1))
            case measure => omega
            case rel =>
              have hgs := HST.o.2
              exact ⟨c + 1, cl.set c ix, F, by go_num, by omega, HO7.o.keep hgs (.inr (fun e => by have := (HO7.o.lt _ e).1; omega)), qa HX2.o, HST.o.1, tY HCL.o q7Q HX3.o, HM7.o.keep hgs (by intro hh; injection hh with hh; omega), HZ7.o.keep hgs (by intro hh; injection hh with hh; omega), HBR.o.grown hgs HBR.o.size (fun k hk => by injection hk with hk; omega), qc HS7.o hgs.size, rfl⟩
          · have e1 := HM7.o.lookNew dA underlying66 (iR wr) HLK.o hx1
            obtain ⟨w8, e2, hm8, hg8⟩ := HM7.o.put dA underlying66 HLK.o hx1
            have hmap : F.map (kSd l) ++ [Value.string ky] = (F ++ [c]).map (kSd l) := by rw [qG, qI, HKV.o]; rfl
            rw [qA] at e2
            rw [hmap] at hm8
            have HX2 := qa hx2
            have HX3 := qa hx3
            have HM8 := qa hm8
            have qca := qa (HBV.o.keep hg8 (.inr (fun e => by have h1 := (HBV.o.lt _ e).1; have h2 := HWZ.o; omega)))
            have qcV := HCV.o w8 _ qca.o.sl
            have HB8 := qa (HB7.o.keep hg8 (by intro hh; injection hh with hh; omega))
            have HZ8 := qa (HZ7.o.keep hg8 (by intro hh; injection hh with hh; omega))
            have HO8 := qa (HO7.o.keep hg8 (.inr (fun e => by have := (HO7.o.lt _ e).1; omega)))
            have HR8 := qa (HBR.o.grown hg8 HBR.o.size (fun k hk => by injection hk with hk; omega))
            have HS8 := qa (qc HS7.o hg8.size)
            have HFL : Hid (F.length ≤ 256) := qa (by
              have := tP (iV l) (mO.take c)
              rw [qW, rB, HF.o] at this
              omega)
            obtain ⟨oF, cF, gF, hfv, -⟩ := HO7.o.cases
            rw [fG] at hfv
            have hfl := HFL.o
            have hcm : (c : Int) % 256 = c := by omega
            have HLI := lM w8 (c : Int) (by omega)
            rw [qC] at HLI
            have HL := qa HLI
            have hb9 := aB w8 (.cells #[.int .u8 (c : Int)] 5)
            have HO9 := qa (HO8.o.up hb9)
            have HB9 := qa (HB8.o.up hb9)
            have HZ9 := qa (HZ8.o.up hb9)
            have HM9 := qa (HM8.o.up hb9)
            have HR9 := qa (HR8.o.trans (hb9.mono HR8.o.size))
            have HS9 := qa (qc HS8.o hb9.size)
            have HLE : Hid ((bvN F).length + (bvN [c]).length ≤ 4294967296) := qa (by rw [fG, fG]; simp only [qD]; omega)
            generalize cl.getD c 0 = y0 at *
            subst hfv
            clear hx1 hx2 hx3 hm8 hg8 hmap hb9 HLI hcell hfr hpw hcv
            have hcv := HCV.o wr _ HBV.o.sl
            go_wp2_with (first
              | (at_builtin; refine bU rfl (.tmp 52) (.tmp 55) 59 rfl (w.heap.size + 3) 5 (.int .u8 0) 1 underlying59 (by kernel_rfl) rfl (by decide) _ _ rfl HO9.o _ (bvN [c]) rfl HL.o.sl (by intro u hu; simp only [bvN, qI, js, jf] at hu; subst hu; rfl) HLE.o HS9.o ?_; intro v5 w5 hown1 hg1 hk1; have HO5 := qa hown1
                 have HB5 := qa (HB9.o.keep hg1 (fun e => by have := (HO9.o.lt _ e).1; omega))
                 have HZ5 := qa (HZ9.o.keep hg1 (fun e => by have := (HO9.o.lt _ e).1; omega))
                 have HM5 := qa (HM9.o.keep hg1 (fun e => by have := (HO9.o.lt _ e.symm).1; omega))
                 have HR5 := qa (HR9.o.grown hg1 HR9.o.size (fun q e => by have := (HO9.o.lt q e).1; omega))
                 have HS5 := qa (qc HS9.o hg1.size)
                 have hcell : w5.cell? ⟨w.heap.size + 1, c, none⟩ = _ := HB5.o.cell q7Q
                 have hfr : w5.frozen? ⟨w.heap.size + 1, c, none⟩ = false := HB5.o.free c
                 have hpw : w.heap.size + 1 < w5.heap.size := HB5.o.lt
                 clear hown1 hg1 hk1))
            have HST := qa (HB5.o.set c F.length)
            go_roundg (256 - (c + 1))
            case measure => omega
            case rel =>
              have hgs := HST.o.2
              refine ⟨c + 1, cl.set c F.length, F ++ [c], by go_num, by omega, (by rw [oR]; exact HO5.o.keep hgs (.inr (fun e => by have := (HO5.o.lt _ e).1; omega))), qa HX2.o, HST.o.1, tY HCL.o q7Q HX3.o, HM5.o.keep hgs (by intro hh; injection hh with hh; omega), HZ5.o.keep hgs (by intro hh; injection hh with hh; omega), HR5.o.grown hgs HR5.o.size (fun k hk => by injection hk with hk; omega), qc HS5.o hgs.size, rfl⟩
    · have hce : c = 256 := by omega
      subst hce
      have htk : mO.take 256 = mO := qE (by rw [rB]; exact qb _)
      have HF2 : Hid (F = cP l) := qa (by rw [← HF.o, htk]; rfl)
      have HCA := qa (L3 HCL.o)
      obtain ⟨B, hgB, hsB, hB⟩ := HBX.o.open
      have HBA : Hid (B = (ints (M2 l)).toArray) := qa (by rw [← HCA.o]; exact qZ List.toArray hB)
      clear hB htk
      go_wp2_with (first
        | (refine mR rfl 25 256 _ rfl (w.heap.size + 1) rfl B hsB hgB _ underlying25 rfl (by kernel_rfl) ?_)
        | (refine nV rfl 25 256 _ _ rfl w.heap.size rfl O (M2 l) (qZ Value.agg HBA.o) (rH l) (by kernel_rfl) HBO.o ?_; intro w3 hb2 hg2; have HB4 := qa hb2; have HG2 := qa hg2; clear hb2 hg2))
      refine bB (s := 2) (b := 3) (ad := ⟨w.heap.size, 0, none⟩) (x := .agg (ints (M2 l)).toArray) rfl rfl rfl rfl (HB4.o.load _ underlying25 rfl (by kernel_rfl)) ?_
      refine ⟨_, rfl, ?_, HBL.o.grown HG2.o HBL.o.size (fun k hk => by injection hk with hk; omega)⟩
      rw [← HF2.o]
      exact (HO.o.keep HG2.o (.inr (fun e => by have := (HO.o.lt _ e).1; omega))).mono (by omega)
def kT(f:Fo):Value:=.string (kZ (txF f))
theorem q47{f g:Fo}(hf:cU f)(hg:cU g)(h:kT f=kT g):f=g:=by
 unfold kT at h;injection h with h;exact(uU f g hf.okT hg.okT hf.2 hg.2 [] [] (by rw[vD (sI f hf.okT) (sI g hg.okT) h])).1
structure MkD(A:Nat->Prop)(w:World)(B q m:Nat)(lv:Value)(vs:List Value)(R:List Fo):Prop where
 box:Own w B 69 (.slice (some ⟨q,0,none⟩) 2 2) [lv,.map (some m)]
 lists:Own w B 51 lv vs
 len:vs.length=R.length
 terms:∀i,i<R.length->aM A w (vs.getD i undef) (R.getD i .nil)
 map:pS prog 9 w m (R.map kT)
 ok:∀f∈R,cU f
 mB:B<=m
 qm:q≠m
 offQ:lv.ownBlock≠some q
 offM:lv.ownBlock≠some m
 low:∀b,A b->b<w.heap.size
 ap:∀b,A b->¬M0 q m lv b
section
variable {A A' : Nat → Prop} {w w' : World} {B q m : Nat} {lv : Value} {vs : List Value} {R : List Fo}
theorem MkD.up(h:MkD A w B q m lv vs R)(hb:Below w.heap.size w w'):MkD A w' B q m lv vs R:=
 ⟨h.box.up hb,h.lists.up hb,h.len,fun i hi=>(h.terms i hi).up hb,h.map.up hb,h.ok,h.mB,h.qm,h.offQ,h.offM,fun b hA=>qe (h.low b hA) hb.size,h.ap⟩
theorem MkD.lt(h:MkD A w B q m lv vs R):∀k,M0 q m lv k->B<=k/\k<w.heap.size:=fun k hk=>by
 rcases hk with rfl|rfl|hk
 ·exact h.box.lt _ rfl
 ·exact⟨h.mB,h.map.lt⟩
 exact h.lists.lt k hk
theorem MkD.gw{S S':Nat->Prop}(h:MkD A w B q m lv vs R)(hg:Gw S w S' w')(h1:∀k,S k->¬M0 q m lv k)(h2:∀k,S k->¬A k):MkD A w' B q m lv vs R:=
 ⟨hg.own h.box (fun k hk hS=>h1 k hS (.inl (by injection hk with hk;exact hk.symm))),hg.own h.lists (fun k hk hS=>h1 k hS (.inr (.inr hk))),h.len,
  fun i hi=>(h.terms i hi).keep hg.size (fun b hA hlt=>hg.blk hlt (fun hS=>h2 b hS hA)),by
   have hlt:=h.map.lt;obtain⟨es,clock,hb,r⟩:=h.map;exact⟨es,clock,(hg.blk hlt (fun hS=>h1 m hS (.inr (.inl rfl)))).trans hb,r⟩,h.ok,h.mB,h.qm,h.offQ,h.offM,fun b hA=>qe (h.low b hA) hg.size,h.ap⟩
theorem MkD.wide(h:MkD A w B q m lv vs R)(hb:Below w.heap.size w w'):MkD (fun b=>upA A w.heap.size b/\b<w'.heap.size) w' B q m lv vs R:=by
 have h':=h.up hb;refine{h' with terms:=fun i hi=>(h'.terms i hi).mono fun b hA=>⟨.inl hA,h'.low b hA⟩,low:=fun b hA=>hA.2,ap:=fun b hA hk=>?_};rcases hA.1 with h1|h1
 ·exact h.ap b h1 hk
 have:=(h.lt b hk).2;omega
theorem MkD.c(h:MkD A w B q m lv vs R):w.cell? ⟨q,0,none⟩=some lv/\w.cell? ⟨q,1,none⟩=some (.map (some m))/\q<w.heap.size:=
 ⟨h.box.cell (i:=0) (by simp),h.box.cell (i:=1) (by simp),h.box.blk.2⟩
theorem q48{f:Fo}(h:∀g∈R,cU g)(hf:cU f):kT f∈R.map kT↔f∈R:=by
 rw[jz];exact⟨fun⟨a,ha,e⟩=>q47 (h a ha) hf e▸ha,fun hL=>⟨f,hL,rfl⟩⟩
theorem q4P{f:Fo}(hm:f∈R):(R.map kT)[idx R f]? =some (kT f):=by
 have h1:=fE hm;rw[qT,qx h1,kJ hm];rfl
end
theorem G6{A:Nat->Prop}{w:World}{B q m:Nat}{lv:Value}{vs:List Value}{R:List Fo}(h:MkD A w B q m lv vs R){x:Value}{f:Fo}(hx:aM A w x f)(hf:cU f)(hs:szF f<=1000000)(hR:R.length<=1000000):
  Calls prog 20 #[.pointer (some ⟨q,0,none⟩),x] w fun e w'=>e=.returned (.int .i64 (idx (bG R f) f:Nat))/\∃lv' vs',MkD A w' B q m lv' vs' (bG R f)/\Gw (M0 q m lv) w (M0 q m lv') w':=by
 obtain⟨rs,oa,cap,b,off,rfl,hd,hw⟩:=hx.walk;have HIX:=qa (dL hd);have HW:=qa hw;have hn:=hd.len;have HXT:=qa hx;have HGF:=qa hf;have HM:=qa h;have HR0:Hid (bC A w (rs.drop 0) f):=qa hw.rows;have HOK:=qa hf.okT;have H8:Hid (By8 (txF f)):=qa (sI f hf.okT);have HTL:Hid ((txF f).length<=37000000):=qa (by have:=xG f;omega);have hRl:=hR;obtain⟨T,hT⟩:∃T,T=txF f:=⟨_,rfl⟩;have HT0:Hid ([]++txF f=T):=qa hT.symm;have HKV:Hid (kT f=.string (kZ T)):=qa (by rw[hT];rfl);rw[<-hT]at H8 HTL;have HKEY:Hid (keyOf prog 9 (.string (kZ T))=some (.string (kZ T).data.toList)):=qa (vG T (by have:=HTL.o;omega));have HSZ:=qa hs;have HCN:Hid (cnt f=cnt f):=qa rfl;obtain⟨N,hN⟩:∃N,N=cnt f:=⟨_,rfl⟩;rw[<-hN]at hn HIX HW⊢;rw[<-hN]at HXT;clear hd hw hx h hT hN HCN hf hs;go_enter func20,ntmps20;go_wp2
 go_loopg [5,12] N (fun gk sv iv wr=>∃(i:Nat) (acc:List Nat) (r:Fo),iv=.int .i64 i/\i<=N/\sv=.string (kZ acc)/\Hid (acc++txF r=T)/\szF r<=1000000/\gT OkT r/\bC A w (rs.drop i) r/\Below w.heap.size w wr/\gk=N-i)
 case atStart=>exact⟨0,[],f,rfl,qd _,rfl,HT0,HSZ.o,HOK.o,HR0.o,qn _ _,rfl⟩
 case round=>
  obtain⟨i,acc,r,rfl,hi,rfl,HV,hsz,hok,hrr,hB,hgk⟩:=hrel;have HB:=qa hB;have HGK:=qa hgk;have HRR:=qa hrr;have HSR:=qa hsz;have HOR:=qa hok;clear hB hgk hrr hsz hok HR0 HSZ HOK HT0;by_cases hlt:i<N
  ·have q64:=fun W=>HIX.o W i hlt
   obtain⟨y,oj,nj,cj,j,r',hre,ht,hrr,hcc⟩:=HW.o.next HRR.o hlt HB.o;subst hre;have HCW:=qa hcc;have q5Y:=qa hrr;have HBX:=qa (cM wr y (.slice oj nj cj));have hbn:=aB wr (.cells (tmA y (.slice oj nj cj)) 56);have HBA:=qa (HB.o.trans (hbn.mono HB.o.size));obtain⟨o1,o2,o3⟩:=HOR.o;have q7g:=qa o3;have hz1:=HSR.o;rw[szF]at hz1;have q66:Hid (szF r'<=1000000):=qa (by omega);have HTT:=qa (q1H (A:=A) 10000000 (w:=wr.alloc (.cells (tmA y (.slice oj nj cj)) 56)) (x:=y) (u:=.slice oj nj cj) (k:=j) (by omega) (by decide) o1 o2 (ht.up HBA.o));have HV2:Hid ((acc++txT y j)++txF r'=T):=qa (by rw[<-HV.o,U0 y j r'];simp only[qk]);have HL2:Hid (acc.length+(txT y j).length<=1000000000):=qa (by have h1:=HTL.o;have h2:=qZ List.length HV2.o;rw[qj,qj]at h2;omega);obtain⟨tx,htx⟩:∃tx,tx=txT y j:=⟨_,rfl⟩;rw[<-htx]at HTT HV2 HL2
   have qby:∀W,(Op.stringOp .add (kZ acc) (kZ tx)).run prog W=.ok (.string (kZ (acc++tx))) W:=fun W=>by
    have:=Y1 (P:=prog) (acc.map UInt8.ofNat) (tx.map UInt8.ofNat) (by simp only[qA];have:=HL2.o;omega) W;rw[<-qG]at this;exact this
   clear hrr hcc HIX HRR HB hbn ht o1 o2 o3 hz1 HSR HV htx HOR;obtain⟨ykd,yn,ya,yb,yc,yd,ylo,yhi⟩:=y
   go_wp2_with(first
    |(refine cR rfl (.tmp 14) rfl b (off+i*8) rfl ykd yn ya yb yc yd ylo yhi (.slice oj nj cj) HCW.o ?_)
    |(refine bY rfl (.tmp 7) rfl wr.heap.size rfl ykd yn ya yb yc yd ylo yhi (.slice oj nj cj) HBX.o ?_)
    |((with_reducible refine HTT.o.mono ?_);rintro e w6 ⟨rfl,hb⟩;have HB6:=qa (HBA.o.trans (hb.mono HBA.o.size));clear hb))
   go_roundg (N-(i+1))
   case measure=>have:=HGK.o;omega
   case rel=>exact⟨i+1,_,r',by go_num,by omega,rfl,HV2,q66.o,q7g.o,q5Y.o,HB6.o,rfl⟩
  have hr0:=HRR.o.done (by rw[HW.o.len];omega);subst hr0;have HA:Hid (acc=T):=qa (by rw[<-HV.o,txF,j6]);rw[HA.o];have hHM:=HM.o.up HB.o;have HM7:=qa hHM;obtain⟨c0,c1,hq⟩:=hHM.c;have HX7:=qa (HXT.o.up HB.o);obtain⟨og,cg,gg,hlv,-⟩:=hHM.lists.cases;rw[hHM.len]at hlv;subst hlv;clear HRR HV HA HIX HW HM HXT hHM HOR HSR;have hRb:(R.length:Int)<9223372036854775807:=by omega
  by_cases q62:f∈R
  ·have HNR:Hid (bG R f=R):=qa (by unfold bG;rw[qv q62])
   have hat:=q4P q62;rw[HKV.o]at hat;obtain⟨e1,e2⟩:=HM7.o.map.lookOld dA underlying66 HKEY.o hat;have hib:=fE q62;obtain⟨ix,hix⟩:∃ix,ix=idx R f:=⟨_,rfl⟩;rw[<-hix]at e1 e2 hib;have qci:=qa hix;clear hat q62 hix e2;go_wp2;go_ret;rw[HNR.o,<-qci.o];exact⟨rfl,_,_,HM7.o,bZ _ HB.o⟩
  have HNR:Hid (bG R f=R++[f]):=qa (by unfold bG;rw[qu q62]);have HID:Hid (idx (bG R f) f=R.length):=qa (by rw[HNR.o,e9 q62]);have hnk:Value.string (kZ T)∉R.map kT:=by rw[<-HKV.o];exact fun h=>q62 ((q48 HM7.o.ok HGF.o).1 h)
  have e1:=HM7.o.map.lookNew dA underlying66 (iR wr) HKEY.o hnk;obtain⟨w8,e2,hm8,hg8⟩:=HM7.o.map.put dA underlying66 HKEY.o hnk;have hmap:R.map kT++[Value.string (kZ T)]=(R++[f]).map kT:=by rw[qG,qI,HKV.o];rfl
  rw[qA]at e2;rw[hmap]at hm8;have hM7:=HM7.o;have HM8:=qa hm8;have HG8:=qa hg8;have q8q:=qa (hM7.box.keep hg8 (.inr (fun e=>by injection e with e;exact hM7.qm e)));have qcg:=qa (hM7.lists.keep hg8 (.inr hM7.offM));have f0:=q8q.o.cell (i:=0) (by simp);have f1:=q8q.o.cell (i:=1) (by simp);simp only[j9,List.getD_cons_succ]at f0 f1;have hq8:=q8q.o.blk.2;have hlW:=qa (aB w8 (.cells #[.slice oa N cap] 51));have HSX:Hid (Sl (w8.alloc (.cells #[.slice oa N cap] 51)) (.slice (some ⟨w8.heap.size,0,none⟩) 1 1) [.slice oa N cap]):=qa (by simpa using fZ w8 #[.slice oa N cap] 51 (by simp));have HT1:=qa (qcg.o.up hlW.out);have HVL:Hid ((vs++[Value.slice oa N cap]).length=R.length+1):=qa (by rw[qj,hM7.len];rfl);have HT3:Hid (vs.length+[Value.slice oa N cap].length<=4294967296):=qa (by rw[hM7.len];simp only[qD];omega);have HT4:Hid (B<=(w8.alloc (.cells #[.slice oa N cap] 51)).heap.size):=qa (by have:=q8q.o.blk;have:=hlW.out.size;omega);have f0a:=((hlW.out.cell (p:=⟨q,0,none⟩) hq8).trans f0);clear hnk hm8 hg8 hmap hM7 q62
  go_wp2_with(at_builtin;refine bU rfl (.tmp 47) (.tmp 49) 67 rfl B 51 (.slice none 0 0) 24 underlying67 (by kernel_rfl) rfl (by decide) (.slice og R.length cg) vs rfl HT1.o (.slice (some ⟨w8.heap.size,0,none⟩) 1 1) [.slice oa N cap] rfl HSX.o (by simp[Value.oneCell']) HT3.o HT4.o ?_;intro v' w5 hown1 hg1 hk1;obtain⟨o5,c5,g5',rfl,-⟩:=hown1.cases;rw[HVL.o]at hown1 hk1⊢;have HO5:=qa hown1;have HG5:=qa hg1;have HK5:=qa hk1;clear hown1 hg1 hk1;have q6W:=qa ((q8q.o.up hlW.out).keep HG5.o (.inr (fun e=>HM7.o.offQ e.symm)));have g5:=q6W.o.free 0;have h5:=q6W.o.cell (i:=0) (by simp);have hq5:=q6W.o.blk.2)
  go_ret;have hst:=q6W.o.store 0 (.slice o5 (R.length+1) c5);have hM:=HM7.o;have qcG:=HM8.o.lt;have hs8:=HG8.o.size;have hsl:=hlW.out.size
  have hoq:(Value.slice o5 (R.length+1) c5).ownBlock≠some q:=fun e=>by
   rcases HK5.o q e with h1|h1
   ·exact hM.offQ h1
   omega
  have hom:(Value.slice o5 (R.length+1) c5).ownBlock≠some m:=fun e=>by
   rcases HK5.o m e with h1|h1
   ·exact hM.offM h1
   omega
  have g1:Gw (M0 q m (.slice og R.length cg)) wr (M0 q m (.slice og R.length cg)) w8:=(dB HG8.o (fun k hk=>.inr (.inl (by injection hk with hk;exact hk.symm))) (fun k hk=>.inl hk));have g2:=g1.up hlW.out
  have g3:Gw (M0 q m (.slice og R.length cg)) (w8.alloc (.cells #[.slice oa N cap] 51)) (M0 q m (.slice o5 (R.length+1) c5)) w5:=dB HG5.o (fun k hk=>.inr (.inr hk)) (fun k hk=>by
   rcases hk with h|h|h
   ·exact .inl (.inl h)
   ·exact .inl (.inr (.inl h))
   exact(HK5.o k h).imp (fun e=>.inr (.inr e)) id)
  have g4:=(g2.trans g3).trans (dB hst.2 (fun k hk=>.inl (by injection hk with hk;exact hk.symm)) (fun k hk=>.inl hk));rw[HID.o,HNR.o];have hkA:∀{v:Value} {f:Fo},aM A wr v f->aM A (w5.setCell ⟨q,0,none⟩ (.slice o5 (R.length+1) c5)) v f:=fun h=>h.keep g4.size (fun b hA hlt=>g4.blk hlt (fun hS=>hM.ap b hA hS));refine⟨rfl,_,vs++[.slice oa N cap],⟨hst.1,HO5.o.keep hst.2 (.inr hoq),by rw[HVL.o];simp,fun i hi=>?_,?_,fun g hg=>?_,hM.mB,hM.qm,hoq,hom,fun b hA=>qe (hM.low b hA) g4.size,fun b hA hk=>?_⟩,(bZ _ HB.o).trans g4⟩
  ·rw[qj,qD]at hi
   rcases Nat.lt_succ_iff_lt_or_eq.1 hi with h1|rfl
   ·rw[aV h1,aV (by rw[hM.len];exact h1)]
    exact hkA (hM.terms i h1)
   rw[bV];have e:=bV (l:=vs) (x:=Value.slice oa N cap) (d:=undef);rw[hM.len]at e;rw[e];exact hkA HX7.o
  ·exact((HM8.o.up hlW.out).keep HG5.o (fun e=>HM7.o.offM e.symm)).keep hst.2 (fun e=>hM.qm (by injection e with e;exact e.symm))
  ·rcases List.mem_append.1 hg with h1|h1
   ·exact hM.ok g h1
   rw[List.mem_singleton.1 h1];exact HGF.o
  rcases hk with h1|h1|h1
  ·exact hM.ap b hA (.inl h1)
  ·exact hM.ap b hA (.inr (.inl h1))
  rcases HK5.o b h1 with h2|h2
  ·exact hM.ap b hA (.inr (.inr h2))
  have:=hM.low b hA;omega
end Go.Cm
namespace Go.Cm
open Go.RowKit Go.Proofs Go.Maps
theorem G8(L:List Ed):cP (aQ gY L)=cP L/\M2 (aQ gY L)=M2 L:=by
 have h:=wY (f:=iV (aQ gY L)) (g:=iV L) (l:=mO) (fun a _ b _=>by
  rw[z3,z3]
  constructor
  ·intro h x hx
   have:gY x∈(aQ gY L).map gY:=by rw[iN,lZ];exact jd hx
   obtain⟨y,hy,hk⟩:=List.mem_map.1 this;rw[<-C8 hk,<-C8 hk];exact h y hy
  exact fun h x hx=>h x (iO hx))
 refine⟨h.1,?_⟩;unfold M2;exact qZ nl (List.map_congr_left fun c hc=>h.2 c hc)
theorem vX:∀{f:Fo},gT OkT f->AS EdW f
 |.nil,_=>nJ
 |.cons _x _k _r,h=>eD.2 ⟨fun _=>h.1.2.2.1,vX h.2.1,vX h.2.2⟩
def MkA(A:Nat->Prop)(q m:Nat)(lv:Value)(k:Nat):Prop:=M0 q m lv k\/A k
structure iF(A:Nat->Prop)(w:World)(B q m:Nat)(lv:Value)(vs:List Value)(R:List Fo)(g:Nat)(nv:Value)(nvs:List Value)(rv:Value)(cl:List Int)(rows:List (List Int))(rules:List Int):Prop where
 mkr:MkD A w B q m lv vs R
 db:DbN w B g nv nvs rv cl rows rules
 ap:∀k,MkA A q m lv k->¬DbF g nv nvs rv k
section
variable {A A' : Nat → Prop} {w w1 w2 w7 w8 : World} {B q m g : Nat} {lv lv' nv rv v' : Value} {vs vs' nvs : List Value} {R R' : List Fo} {cl : List Int} {rows : List (List Int)} {rules : List Int}
theorem MkD.ltA(h:MkD A w B q m lv vs R):∀k,MkA A q m lv k->k<w.heap.size:=fun k hk=>hk.elim (fun h1=>(h.lt k h1).2) (h.low k)
theorem iF.up(h:iF A w B q m lv vs R g nv nvs rv cl rows rules)(hb:Below w.heap.size w w1):iF A w1 B q m lv vs R g nv nvs rv cl rows rules:=⟨h.mkr.up hb,h.db.up hb,h.ap⟩
theorem iF.gw{S S':Nat->Prop}(h:iF A w B q m lv vs R g nv nvs rv cl rows rules)(hg:Gw S w S' w1)(h1:∀k,S k->¬MkA A q m lv k)(h2:∀k,S k->¬DbF g nv nvs rv k):iF A w1 B q m lv vs R g nv nvs rv cl rows rules:=
 ⟨h.mkr.gw hg (fun k hk hh=>h1 k hk (.inl hh)) (fun k hk hh=>h1 k hk (.inr hh)),h.db.gw hg h2,h.ap⟩
theorem iF.num(h:iF A w B q m lv vs R g nv nvs rv cl rows rules)(hb:Below w.heap.size w w7)(hm:MkD (fun b=>upA A w.heap.size b/\b<w7.heap.size) w8 B q m lv' vs' R')(hg:Gw (M0 q m lv) w7 (M0 q m lv') w8):
  iF (fun b=>upA A w.heap.size b/\b<w7.heap.size) w8 B q m lv' vs' R' g nv nvs rv cl rows rules/\∀k,k<w.heap.size->¬MkA A q m lv k->¬MkA (fun b=>upA A w.heap.size b/\b<w7.heap.size) q m lv' k:=by
 have hs:=hb.size
 have hk:∀k,k<w.heap.size->¬MkA A q m lv k->¬MkA (fun b=>upA A w.heap.size b/\b<w7.heap.size) q m lv' k:=fun k hk hn h1=>by
  rcases h1 with h1|h1
  ·rcases hg.sub k h1 with h2|h2
   ·exact hn (.inl h2)
   omega
  rcases h1.1 with h2|h2
  ·exact hn (.inr h2)
  omega
 exact⟨⟨hm,(h.db.up hb).gw hg (fun k hk=>h.ap k (.inl hk)),fun k h1 h2=>hk k (h.db.ltF k h2).2 (fun h3=>h.ap k h3 h2) h1⟩,hk⟩
theorem iF.pushRow(h:iF A w B q m lv vs R g nv nvs rv cl rows rules){row:Value}{x:List Int}(hr:Own w B 3 row (ints x))(hf:∀k,row.ownBlock=some k->¬DbF g nv nvs rv k/\¬MkA A q m lv k)(hb:Below w.heap.size w w1)(ho:Own w2 B 27 v' (nvs++[row]))(hg:w1.grownBy w2 nv.ownBlock)(hk:∀k,v'.ownBlock=some k->nv.ownBlock=some k\/w1.heap.size<=k):
  iF A (w2.setCell ⟨g,256,none⟩ v') B q m lv vs R g v' (nvs++[row]) rv cl (rows++[x]) rules/\Below B w (w2.setCell ⟨g,256,none⟩ v'):=by
 obtain⟨h1,h2⟩:=h.db.pushRow hr (fun k hk=>(hf k hk).1) hb ho hg hk;have hB:∀k,(DbF g nv nvs rv k\/row.ownBlock=some k)->B<=k/\k<w.heap.size:=fun k hk=>hk.elim (h.db.ltF k) (hr.lt k);refine⟨⟨h.mkr.gw h2 (fun k hk hm=>hk.elim (h.ap k (.inl hm)) (fun e=>(hf k e).2 (.inl hm))) (fun k hk hm=>hk.elim (h.ap k (.inr hm)) (fun e=>(hf k e).2 (.inr hm))),h1,fun k hm hd=>?_⟩,h2.below (by have:=(h.db.ltF g (.inl rfl));omega) fun k hk=>(hB k hk).1⟩;rcases h2.sub k hd with h3|h3
 ·rcases h3 with h3|h3
  ·exact h.ap k hm h3
  exact(hf k h3).2 hm
 have:=h.mkr.ltA k hm;omega
theorem iF.pushRule(h:iF A w B q m lv vs R g nv nvs rv cl rows rules){x:Int}(hb:Below w.heap.size w w1)(ho:Own w2 B 3 v' (ints (rules++[x])))(hg:w1.grownBy w2 rv.ownBlock)(hk:∀k,v'.ownBlock=some k->rv.ownBlock=some k\/w1.heap.size<=k):
  iF A (w2.setCell ⟨g,257,none⟩ v') B q m lv vs R g nv nvs v' cl rows (rules++[x])/\Below B w (w2.setCell ⟨g,257,none⟩ v'):=by
 obtain⟨h1,h2⟩:=h.db.pushRule hb ho hg hk;refine⟨⟨h.mkr.gw h2 (fun k hk hm=>h.ap k (.inl hm) hk) (fun k hk hm=>h.ap k (.inr hm) hk),h1,fun k hm hd=>?_⟩,h2.below (by have:=(h.db.ltF g (.inl rfl));omega) fun k hk=>(h.db.ltF k hk).1⟩;rcases h2.sub k hd with h3|h3
 ·exact h.ap k hm h3
 have:=h.mkr.ltA k hm;omega
theorem iF.keep{row:Option Nat}(h:iF A w B q m lv vs R g nv nvs rv cl rows rules)(hg:w.grownBy w1 row)(hr:∀k,row=some k->¬MkA A q m lv k/\¬DbF g nv nvs rv k):iF A w1 B q m lv vs R g nv nvs rv cl rows rules:=
 h.gw (dB (S:=fun k=>row=some k) (S':=fun k=>row=some k) hg (fun _ hk=>hk) (fun _ hk=>.inl hk)) (fun k hk=>(hr k hk).1) (fun k hk=>(hr k hk).2)
end
end Go.Cm
namespace Go.Cm
open Go.RowKit Go.Proofs Go.Maps
noncomputable def wA(ll:List (List Nd)):Int:=if oC ll=0 then q1B (kL ll)else oC ll
noncomputable def uA(ll:List (List Nd)):Dfa:=if oC ll=0 then q1A (kL ll)else z7
def Y8(d:Dfa)(e:Int)(w:World)(en:Ending)(w':World):Prop:=
 ∃v,en=.returned (.tuple #[v,.int .i64 e])/\xX w' v d/\Below w.heap.size w w'
theorem uB:∀{f g:Fo},dP f=true->dP g=true->dP (eQ f g)=true
 |.nil,_,_,h=>h
 |.cons x k r,g,h1,h2=>by
  rw[dP,qJ]at h1;show(decide (1+szF k<=400)&&dP (eQ r g))=true;rw[qJ];exact⟨h1.1,uB h1.2 h2⟩
theorem uC{l:List Nd}(h:Chk l)(hq:∀x∈l,NdQ x):∃x k,gL l=.cons x k .nil/\gvT l=(x,k)/\gZ (x,k)/\1+szF k<=400:=by
 obtain⟨x,k,h1,h2,h3⟩:=nM h hq;refine⟨x,k,h2,by unfold gvT;rw[qv h,h2];rfl,h3,?_⟩;have hl:=h.2.1;obtain⟨x',k',h1',-,-,-,-,h6⟩:=iY h;rw[lX];have e1:=qZ List.length h1;have e2:=qZ List.length h1';simp only[qz]at e1 e2;omega
theorem uD:∀{ll:List (List Nd)},(∀l∈ll,Chk l)->mD ll->dP (kL ll)=true
 |[],_,_=>rfl
 |l::r,h,hq=>by
  obtain⟨x,k,h1,-,-,h4⟩:=uC (h l jg) (hq l jg);rw[kL,h1];refine uB ?_ (uD (ll:=r) (fun y hy=>h y (qX _ hy)) (fun y hy=>hq y (qX _ hy)));rw[dP,qJ,jm];exact⟨h4,rfl⟩
theorem Y9{ll:List (List Nd)}{i:Nat}(hi:i<ll.length):kL (ll.drop i)=eQ (gL (ll.getD i [])) (kL (ll.drop (i+1))):=by
 rw[jC hi,kL];simp[List.getD,hi]
theorem Z0 {w : World} {v : Value} {ll : List (List Nd)} (h : dO w v ll) (hq : mD ll) : Calls prog 6 #[v] w (Y8 (uA ll) (wA ll) w) := by
  have hz := vU
  have hzc := F8
  obtain ⟨ZC, hZC⟩ : ∃ ZC, ZC = q34 := ⟨_, rfl⟩
  rw [← hZC] at hzc
  have HBZ : Hid (∀ w : World, oG (w.alloc (.cells ZC 25)) 25 256 w.heap.size (List.replicate 256 0)) := qa (fun w => q4L w ZC hZC)
  have hbd := Y3
  obtain ⟨Z, hZ⟩ : ∃ Z, Z = yH := ⟨_, rfl⟩
  rw [← hZ] at hz hbd
  have HBW : Hid (∀ w : World, lQ (w.alloc (.cells Z 29)) w.heap.size (.slice none 0 0) (.slice none 0 0) (List.replicate 256 0)) := qa (fun w => by rw [hZ]; exact zS w)
  have HZL : Hid (Z.toList = ints (List.replicate 256 0) ++ [Value.slice none 0 0, Value.slice none 0 0]) := qa (by rw [hZ]; exact o6)
  have HB1 := qa (HBW.o w)
  have hA := aB w (.cells Z 29)
  have HA := qa hA
  have HNM := qa (q0u (h.up hA))
  have hs1 : (w.alloc (.cells Z 29)).heap.size = w.heap.size + 1 := by simp
  obtain ⟨M, hM⟩ : ∃ M, M = oC ll := ⟨_, rfl⟩
  rw [← hM] at HNM
  have HMM := qa hM
  have HTR := qa h
  have HQ := qa hq
  obtain ⟨oa, cap, b, off, rfl, hd, hc⟩ := h.open
  clear hM hZ hZC hA hq h
  by_cases h0 : M = 0
  · subst h0
    obtain ⟨q6R, -, h32, q69⟩ := q1w HMM.o.symm
    obtain ⟨g1, g2, -⟩ := nN q6R HQ.o
    have hsm := uD q6R HQ.o
    have hix := d9 hd
    have hNl := hd.len
    have q8J : Hid (0 < ll.length → b < w.heap.size) := qa (fun h => hd.hblk h)
    have HTC : Hid (∀ i, i < ll.length → ∃ u, w.cell? ⟨b, off + i, none⟩ = some u ∧ aO w u (ll.getD i [])) := qa hc
    have HDE : Hid (wA ll = q1B (kL ll) ∧ uA ll = q1A (kL ll)) := qa ⟨by unfold wA; rw [qv HMM.o.symm], by unfold uA; rw [qv HMM.o.symm]⟩
    have HTS : Hid (∀ i, i < ll.length → ∃ x k, gL (ll.getD i []) = .cons x k .nil ∧ gvT (ll.getD i []) = (x, k) ∧ gZ (x, k) ∧ 1 + szF k ≤ 400 ∧ kL (ll.drop i) = eQ (.cons x k .nil) (kL (ll.drop (i + 1)))) := qa (fun i hi => by
      have hm := gN ll i [] hi
      obtain ⟨x, k, q1, q2, q3, q4⟩ := uC (q6R _ hm) (HQ.o _ hm)
      exact ⟨x, k, q1, q2, q3, q4, by rw [Y9 hi, q1]⟩)
    have HDR : Hid (eQ .nil (kL (ll.drop 0)) = kL ll) := qa rfl
    have HDN : Hid (kL (ll.drop ll.length) = .nil) := qa (by rw [List.drop_length]; rfl)
    obtain ⟨N, hN⟩ : ∃ N, N = ll.length := ⟨_, rfl⟩
    have HNE := qa hN
    rw [← hN] at g2 HTS HDN HTC q8J hix hNl h32 q69 HNM ⊢
    obtain ⟨F0, hF0⟩ : ∃ F0, F0 = kL ll := ⟨_, rfl⟩
    rw [← hF0] at g1 g2 hsm HDR HDE
    have q9h : Hid (OkF (cnt F0) F0) := qa ⟨g1, hsm, rfl⟩
    have HC0 : Hid (cnt F0 = N) := qa g2
    have q9M : szF F0 ≤ 12800 := by have := oB hsm; rw [g2] at this; omega
    have q9f := qa q9M
    clear q6R g1 g2 hsm hc hd hN hF0 q9M HMM
    have qah := qa hbd
    clear hbd
    go_enter func6, ntmps6
    go_wp2_with ((with_reducible refine HNM.o.mono ?_); rintro en w2 ⟨A2, rfl, h1, -, hb⟩; obtain ⟨ve, vr, rfl, he, hr⟩ := h1 rfl; obtain ⟨oe, ce, be, fe, rfl, -, -⟩ := he.open; obtain ⟨orr, cr, br, fr, rfl, -, -⟩ := hr.open; generalize (mkS ll N).e.length = n1 at *; generalize (mkS ll N).r.length = n2 at *; have HB2 := qa (HA.o.trans (hb.mono HA.o.size)); have HR2 := qa (HB1.o.up hb); have HG2 := qa hb; clear h1 hb he hr)
    have hb3 := aB w2 (.cells #[.slice oe n1 ce, .int .i64 0, .slice orr n2 cr] 48)
    have HB3 := qa (HB2.o.trans (hb3.mono HB2.o.size))
    have HR3 := qa (HR2.o.up hb3)
    have HS3 : Hid (w.heap.size + 1 ≤ (w2.alloc (.cells #[.slice oe n1 ce, .int .i64 0, .slice orr n2 cr] 48)).heap.size) := qa (by have := HG2.o.size; have := hb3.size; omega)
    clear hb3 HB2 HR2 HG2 HB1 HNM HA hs1
    generalize (w2.alloc (.cells #[.slice oe n1 ce, .int .i64 0, .slice orr n2 cr] 48)) = w3 at *
    go_loopg [6, 32] N (fun gk tv iv wr => ∃ (i : Nat) (acc : Fo), iv = .int .i64 i ∧ i ≤ N ∧ kM (fun _ => False) wr w3.heap.size 56 tv acc ∧ Hid (eQ acc (kL (ll.drop i)) = F0) ∧ Below w3.heap.size w3 wr ∧ gk = N - i)
    case atStart => exact ⟨0, .nil, rfl, qd _, kM.nil _ _ _ _, HDR, qn _ _, rfl⟩
    case round =>
      obtain ⟨i, acc, rfl, hi, hO, HV, hB, hgk⟩ := hrel
      have HO := qa hO
      have q74 := qa hB
      have HGK := qa hgk
      clear hO hB hgk HDR
      by_cases hlt : i < N
      · obtain ⟨x, k, q1, q2, q3, q4, q5⟩ := HTS.o i hlt
        obtain ⟨u, hu, hnu⟩ := HTC.o i hlt
        have hbw : Below w.heap.size w wr := HB3.o.trans (q74.o.mono HB3.o.size)
        have hcell : wr.cell? ⟨b, off + i, none⟩ = some u := by rw [hbw.cell (p := ⟨b, off + i, none⟩) (q8J.o (by omega))]; exact hu
        have hbb : b < wr.heap.size := by have := q8J.o (by omega); have := hbw.size; omega
        have q64 : ∀ W, (Instr.indexAt 22 (.slice oa N cap) (.int .i64 (i : Int))).run prog W = .ok (.pointer (some ⟨b, off + i, none⟩)) W := fun W => by simpa using hix W .i64 i (by omega) (by omega)
        have HGV := qa (zB (hnu.up hbw))
        rw [q2] at HGV
        have HV2 : Hid (eQ (eQ acc (.cons x k .nil)) (kL (ll.drop (i + 1))) = F0) := qa (by rw [eO, ← q5]; exact HV.o)
        have q6x : Hid (cnt acc + cnt (.cons x k .nil) ≤ 1000000000) := qa (by have h := HC0.o; rw [← HV2.o, eJ, eJ] at h; omega)
        generalize decide (Chk (ll.getD i [])) = qq at *
        clear hbw hu hnu q1 q2 q3 q4 q5 HV
        obtain ⟨dk, dn, da, db, dc, dd, dl, dh⟩ := x
        go_wp2_with (first
          | ((with_reducible refine HGV.o.mono ?_); rintro e w6 ⟨u6, rfl, hT6, hb⟩; obtain ⟨p6, n6, k6, hu6, -⟩ := hT6.form; subst hu6
             have ha := aB w6 (.cells (tmA ⟨dk, dn, da, db, dc, dd, dl, dh⟩ (.slice p6 n6 k6)) 56)
             have hAF := HO.o.after (fun b hb => hb.elim) q74.o.size hT6
             have HAF := qa (hAF.up ha); have HX6 := qa (cM w6 ⟨dk, dn, da, db, dc, dd, dl, dh⟩ (.slice p6 n6 k6)); have HO6 := qa ((HO.o.up hb).up ha); have hb6 := q74.o.trans (hb.mono q74.o.size); have HB6 := qa (hb6.trans (ha.mono hb6.size))
             have hb2 := aB (w6.alloc (.cells (tmA ⟨dk, dn, da, db, dc, dd, dl, dh⟩ (.slice p6 n6 k6)) 56)) (.cells (tmA ⟨dk, dn, da, db, dc, dd, dl, dh⟩ (.slice p6 n6 k6)) 56)
             have HX := qa (pD (w6.alloc (.cells (tmA ⟨dk, dn, da, db, dc, dd, dl, dh⟩ (.slice p6 n6 k6)) 56)) ⟨dk, dn, da, db, dc, dd, dl, dh⟩ (.slice p6 n6 k6))
             rw [show (w6.alloc (.cells (tmA ⟨dk, dn, da, db, dc, dd, dl, dh⟩ (.slice p6 n6 k6)) 56)).heap.size = w6.heap.size + 1 by simp] at HX
             have HN := qa (bC.single (x := ⟨dk, dn, da, db, dc, dd, dl, dh⟩) (HAF.o.up hb2))
             have HO7 := qa (HO6.o.up hb2)
             have HBB := qa (HB6.o.trans (hb2.mono HB6.o.size))
             clear hb hT6 hAF ha hb6 hb2)
          | (refine bY rfl (.tmp 9) rfl w6.heap.size rfl dk dn da db dc dd dl dh (.slice p6 n6 k6) HX6.o ?_)
          | (at_builtin; refine dT rfl (.tmp 41) (.tmp 43) rfl (fun _ => False) w3.heap.size _ acc rfl HO7.o _ rfl _ _ HX.o HN.o q6x.o HBB.o.size ?_; intro v5 w5 hO hg hq hk5; have HO5 := qa hO; have HB5 := qa (HBB.o.grown hg HBB.o.size hq); clear hO hg hq hk5))
        go_roundg (N - (i + 1))
        case measure => have := HGK.o; omega
        case rel => exact ⟨i + 1, _, by go_num, by omega, HO5.o, HV2, HB5.o, rfl⟩
      · obtain rfl : N = i := by omega
        have HA0 : Hid (acc = F0) := qa (by rw [← HV.o, HDN.o, i7])
        rw [HA0.o] at HO
        clear HA0 HV HTS HTC HDN hix q8J HGK HTR
        obtain ⟨w4, rfl⟩ : ∃ w4 : World, w4 = wr := ⟨_, rfl⟩
        obtain ⟨ot, nt, ct, htv, -⟩ := HO.o.tms.form
        subst htv
        have HT4 := qa HO.o.tms.lt
        obtain ⟨A0, hA0⟩ : ∃ A0 : Nat → Prop, A0 = fun b => upA (fun _ => False) w3.heap.size b ∧ b < w4.heap.size := ⟨_, rfl⟩
        rw [← hA0] at HT4
        have HAL : Hid (∀ b, A0 b → b < w4.heap.size) := qa (fun b hb => by rw [hA0] at hb; exact hb.2)
        have HB4 := qa (HB3.o.trans (q74.o.mono HB3.o.size))
        have HR4 := qa (HR3.o.up q74.o)
        have HS4 : Hid (w.heap.size + 1 ≤ w4.heap.size) := qa (qc HS3.o q74.o.size)
        clear hA0 HO HB3 q74 HR3 HS3 hi
        have hmm := @run_makeMap prog
        have hl5 := aB w4 (.map #[] 0)
        have HL5 := qa hl5
        have hst := q44 (A := A0) w4.heap.size (fun h => by have := HAL.o _ h; omega) (szF F0 + 1) (w := w4.alloc (.map #[] 0)) (v := .slice ot nt ct) (f := F0) (pre := []) (N := 0) (by omega) (by have := q9f.o; omega) (HT4.o.up hl5) (vX q9h.o.1.okT) (pR.made prog 54 w4)
        have HST := qa hst
        obtain ⟨CO, hCO⟩ : ∃ CO, CO = M2 (eA F0) := ⟨_, rfl⟩
        have HCO := qa hCO
        have q9t : Hid (CO.length = 256) := qa (by rw [hCO]; exact rH _)
        obtain ⟨H, hH⟩ : ∃ H, H = cP (eA F0) := ⟨_, rfl⟩
        have HHE := qa hH
        have qaQ : Hid (∀ (W : World) (u : Value) (nw : List Ed), aQ gY ([] ++ eA F0) = aQ gY [] ++ nw → nw.length ≤ szF F0 → SlK 4 W u (nw.map rE) → Calls prog 18 #[u] W fun en w' => ∃ of cf, en = .returned (.tuple #[.agg (ints CO).toArray, .slice of H.length cf]) ∧ Own w' W.heap.size 5 (.slice of H.length cf) (bvN H) ∧ Below W.heap.size W w') := qa (fun W u nw h1 h2 h3 => by
          have e : nw = aQ gY (eA F0) := h1.symm
          refine (Y0 h3 (by have := q9f.o; omega)).mono ?_
          rintro en w' ⟨vf, rfl, ho, hb⟩
          rw [e, (G8 _).1, ← hH] at ho
          rw [e, (G8 _).2, ← hCO]
          obtain ⟨of, cf, gf, hvf, -⟩ := ho.cases
          rw [fG] at hvf
          subst hvf
          exact ⟨of, cf, rfl, ho, hb⟩)
        clear hst hl5 hCO hH
        go_upto_region 12 with (first
          | ((with_reducible refine HST.o.mono ?_); rintro e w6 ⟨u6, nw, rfl, hp, hln, hO6, -, hg6⟩; have qaR := qa (qaQ.o w6 u6 nw hp hln hO6.sl); have HL6 := qa (HL5.o.grown hg6 HL5.o.size (fun k hk => by injection hk with hk; omega)); clear hp hln hO6 hg6)
          | ((with_reducible refine qaR.o.mono ?_); rintro e w7 ⟨of, cf, rfl, hof, hb7⟩
             have ha7 := aB w7 (.cells ZC 25)
             have HE7 := qa (hb7.trans (ha7.mono hb7.size))
             have HOF := qa (hof.up ha7)
             have HOL := qa (fun k hk => (hof.lt k hk).2)
             have hs7 := hb7.size
             clear hof hb7 ha7)
          | (refine nV rfl 25 256 _ _ rfl w7.heap.size rfl _ CO rfl q9t.o (by kernel_rfl) (HBZ.o w7) ?_; intro w8 hb8 hg8; have HB8 := qa hb8; have HG8 := qa hg8; clear hb8 hg8))
        have hE8 := HE7.o.grown HG8.o HE7.o.size (fun k hk => by injection hk with hk; omega)
        have HL8 := qa (HL6.o.trans (hE8.mono HL6.o.size))
        have q8D := qa (HOF.o.keep HG8.o (.inr (fun e => by have := HOL.o _ e; omega)))
        have qbf : w7.heap.size < w8.heap.size := HB8.o.lt
        have qcC : w4.heap.size ≤ w8.heap.size := HL8.o.size
        have qd4 : Hid (∀ k, (Value.slice of H.length cf).ownBlock = some k → k < w8.heap.size) := qa (fun k hk => (q8D.o.lt k hk).2)
        clear hE8 HL5 HST qaQ qaR HL6 HE7 HOF HOL HG8 hs7
        obtain ⟨p11, q7I⟩ : ∃ p11, p11 = w7.heap.size := ⟨_, rfl⟩
        obtain ⟨p6, q9U⟩ : ∃ p6, p6 = w6.heap.size := ⟨_, rfl⟩
        rw [← q7I] at HB8 qbf ⊢
        rw [← q9U] at q8D
        clear q7I q9U w6 w7
        have HT8 := qa (HT4.o.up HL8.o)
        have HR8 := qa (HR4.o.up HL8.o)
        have HW8 := qa (HB4.o.trans (HL8.o.mono HB4.o.size))
        clear HT4 HR4 HB4
        have HFR : Hid (∀ x, Below w8.heap.size w8 x → Below w.heap.size w x) := qa (fun x hx => HW8.o.trans (hx.mono HW8.o.size))
        have HR1 : Hid (∀ x, Below w8.heap.size w8 x → lQ x w.heap.size (.slice none 0 0) (.slice none 0 0) (List.replicate 256 0)) := qa (fun x hx => HR8.o.up hx)
        have HC4 : Hid (∀ x, Below w8.heap.size w8 x → oG x 25 256 p11 CO) := qa (fun x hx => HB8.o.up hx)
        obtain ⟨oF, cF, gF, hfv, hdF, hbF, hcF, -, -⟩ := q8D.o.cases
        rw [fG] at hfv hdF hcF
        injection hfv with hf1 hf2 hf3
        subst hf1 hf3
        clear hf2
        have HFX := qa (aZ (P := prog) 59 5 underlying59 (by kernel_rfl) hdF)
        have HFI : Hid (∀ x, Below w8.heap.size w8 x → ∀ k, k < H.length → x.cell? ⟨gF, k, none⟩ = some (.int .u8 (H.getD k 0 : Nat)) ∧ gF < x.heap.size) := qa (fun x hx k hk => by
          have h1 := hdF.hblk (by omega)
          refine ⟨?_, qe h1 hx.size⟩
          rw [hx.cell (p := ⟨gF, k, none⟩) h1, hcF k hk]
          simp [bvN, List.getD, hk])
        have hHl := hdF.len
        have HMK : Hid (MkD A0 ((w8.alloc (.map #[] 0)).alloc (.cells #[.slice none 0 0, .map (some w8.heap.size)] 69)) w8.heap.size (w8.heap.size + 1) w8.heap.size (.slice none 0 0) [] []) := qa (by
          have h1 := cX (w8.alloc (.map #[] 0)) w8.heap.size #[.slice none 0 0, .map (some w8.heap.size)] 69 (by simp) (by simp)
          have h2 : pS prog 9 (w8.alloc (.map #[] 0)) w8.heap.size (([] : List Fo).map kT) := pS.made prog 9 w8
          have hs : (w8.alloc (.map #[] 0)).heap.size = w8.heap.size + 1 := by simp
          rw [hs] at h1
          refine ⟨h1, Own.nil _ _ _, rfl, fun i hi => absurd hi (qB i), h2.up (aB _ _), fun f hf => (by cases hf), qb _, by omega, by simp [Value.ownBlock], by simp [Value.ownBlock], fun b hb => ?_, fun b hb hk => ?_⟩
          · have := HAL.o b hb
            simp; omega
          · have := HAL.o b hb
            rcases hk with h | h | h
            · omega
            · omega
            · simp [Value.ownBlock] at h)
        have HL9 : Hid (Below w8.heap.size w8 ((w8.alloc (.map #[] 0)).alloc (.cells #[.slice none 0 0, .map (some w8.heap.size)] 69))) := qa aS
        have HT9 := qa (HT8.o.up HL9.o)
        clear HT8 HR8 HB8 q8D hdF hbF hcF HL8 HW8
        go_upto_region 13 with (fail)
        generalize hB : w8.heap.size = B at *
        generalize ((w8.alloc (.map #[] 0)).alloc (.cells #[.slice none 0 0, .map (some B)] 69)) = w9 at *
        have HBB := qa hB
        have hpB : w.heap.size + 1 ≤ B ∧ p11 < B ∧ w4.heap.size ≤ B := by have := HS4.o; omega
        clear hB
        have q7h := qa (G6 HMK.o HT9.o q9h.o.1 (by have := q9f.o; omega) (by simp))
        have e1 : bG [] F0 = [F0] := by simp [bG]
        have e2 : idx [F0] F0 = 0 := by simp [idx]
        rw [e1, e2] at q7h
        have qaI := qa HMK.o.lt
        have qcw := qa HMK.o.low
        clear e1 e2 HT9 HMK
        go_upto_region 14 with ((with_reducible refine q7h.o.mono ?_); rintro e w10 ⟨rfl, lv, vs, hmk, qaa⟩; have q60 := qa hmk; have q8G := qa (HL9.o.trans (qaa.below (by have := HL9.o.size; have := HBB.o; omega) (fun k hk => by have h1 := (qaI.o k hk).1; have := HBB.o; omega))); clear hmk qaa)
        obtain ⟨A, hgA, q9P, hA⟩ := (HC4.o _ q8G.o).open
        have hAe : A = (ints CO).toArray := qZ List.toArray hA
        obtain ⟨D, hbc, hDl⟩ := Y7 CO q9t.o
        rw [← hAe] at hbc
        have HBC := qa hbc
        clear hbc
        have HDL := qa hDl
        have qau := qa (HBW.o w10)
        have hB8 : B ≤ w10.heap.size := by have := q8G.o.size; have := HBB.o; omega
        clear hA hAe hDl q7h HL9 HC4 qaI qcw
        go_upto_region 15 with (first
          | (refine mR rfl 25 256 _ rfl p11 rfl A q9P hgA _ underlying25 rfl (by kernel_rfl) ?_)
          | (refine oW rfl 29 _ rfl #[(0, .agg A)] (by first | kernel_rfl | rfl | (simp; rfl)) D HBC.o ?_)
          | (refine iU rfl _ _ rfl w10.heap.size rfl D rfl HDL.o q9t.o rfl rfl qau.o ?_; intro w11 qai qa9; have q9D := qa qai; have q8n := qa qa9; clear qai qa9))
        have q8T : Below w10.heap.size w10 (w10.alloc (.cells Z 29)) := aB _ _
        have q9k := qa (q8T.grown q8n.o q8T.size (fun k hk => by injection hk with hk; omega))
        have qaO := qa (q8G.o.trans (q9k.o.mono (by have := HBB.o; omega)))
        obtain ⟨g, hg⟩ : ∃ g, g = w10.heap.size := ⟨_, rfl⟩
        rw [← hg] at q9D ⊢
        have hBg : B ≤ g := by omega
        have HBO : Hid (iF A0 w11 B (B + 1) B lv vs [F0] g (.slice none 0 0) [] (.slice none 0 0) CO [] []) := qa (by
          have hnf : f8.free (.slice none 0 0) [] (some g) := ⟨fun _ hk => by simp [Value.ownBlock] at hk, fun i hi => absurd hi (qB i)⟩
          refine ⟨q60.o.up q9k.o, ⟨q9D.o, hBg, f8.nil _ _ _ _, Own.nil _ _ _, hnf, by simp [Value.ownBlock], f8.free_none⟩, fun k hk hd => ?_⟩
          have hk8 := q60.o.ltA k hk
          rcases hd with hd | hd | hd
          · omega
          · simp [Value.ownBlock] at hd
          · exact hd ⟨fun _ hk => by simp [Value.ownBlock] at hk, fun i hi => absurd hi (qB i)⟩)
        have HGZ := qa (L4 q9h.o)
        clear hg q9k q8T q8n q9D q60 q8G hgA q9P HBC HDL qau hB8 HBZ HBW hmm
        go_wp2
        go_loopg [15] 1001 (fun gk iv wr => ∃ (A : Nat → Prop) (i : Nat) (R : List Fo) (lv : Value) (vs : List Value) (nv : Value) (nvs : List Value) (rv : Value), iv = .int .i64 i ∧ oA F0 i R ∧ iF A wr B (B + 1) B lv vs R g nv nvs rv CO (gK F0 R i) (d6 R i) ∧ Below B w8 wr ∧ gk = 1001 - i)
        case atStart => exact ⟨A0, 0, [F0], lv, vs, _, _, _, rfl, HGZ.o, by simpa [gK, d6] using HBO.o, qaO.o, rfl⟩
        case round =>
          obtain ⟨A, i, R, lv, vs, nv, nvs, rv, rfl, hgo, hbo, hbl, rfl⟩ := hrel
          have HGO := qa hgo
          have HBT := qa hbo
          have HF := qa hbl
          clear hgo hbo hbl HBO qaO HGZ
          obtain ⟨og, cg, gg, hlv, -⟩ := HBT.o.mkr.lists.cases
          rw [HBT.o.mkr.len] at hlv
          subst hlv
          obtain ⟨c0, -, hq⟩ := HBT.o.mkr.c
          by_cases hlt : i < R.length
          · have d0 : decide ((i : Int) < R.length) = true := by simp; omega
            obtain ⟨G, hG⟩ : ∃ G, G = R.getD i .nil := ⟨_, rfl⟩
            have HGE := qa hG
            have HOG : Hid (OkF (cnt F0) G) := qa (by rw [hG]; exact HGO.o.ok _ (gN _ _ _ hlt))
            have q9z := qa HBT.o
            rw [← (Y4 F0 G R).1] at q9z
            have q6I := qa (Own.nil wr B 3)
            have HS0 := qa (q1f F0 G)
            clear hG HBT
            go_wp2
            go_loopg [16, 72] H.length (fun gk rowv jv wr => ∃ (A : Nat → Prop) (j : Nat) (lv : Value) (vs : List Value), jv = .int .i64 j ∧ j ≤ H.length ∧ iF A wr B (B + 1) B lv vs (tZ F0 G R j) g nv nvs rv CO (gK F0 R i) (d6 R i) ∧ Own wr B 3 rowv (ints (sS F0 G R j)) ∧ (∀ k, rowv.ownBlock = some k → ¬ DbF g nv nvs rv k ∧ ¬ MkA A (B + 1) B lv k) ∧ SmD F0 G j ∧ Below B w8 wr ∧ gk = H.length - j)
            case atStart => exact ⟨_, 0, _, _, rfl, qd _, q9z.o, q6I.o, fun k hk => by simp [Value.ownBlock] at hk, HS0.o, HF.o, rfl⟩
            case round =>
              obtain ⟨A, j, lv, vs, rfl, hj, hbo, hrw, hnb, hsd, hbl, rfl⟩ := hrel
              have HBT := qa hbo
              have HRW := qa hrw
              have HNB := qa hnb
              have HSD := qa hsd
              have HF := qa hbl
              clear hbo hrw hnb hsd hbl q9z q6I HS0 c0 hq
              by_cases q6d : j < H.length
              · have hjh : j < (cP (eA F0)).length := by rw [← HHE.o]; exact q6d
                have hdj : decide ((j : Int) < H.length) = true := by simp; omega
                have hBw : B ≤ wr.heap.size := by have := HF.o.size; have := HBB.o; omega
                obtain ⟨og, cg, gl, hlv, hdl, -, hcl, -, -⟩ := HBT.o.mkr.lists.cases
                rw [HBT.o.mkr.len] at hlv hdl hcl
                subst hlv
                obtain ⟨c0, -, hq⟩ := HBT.o.mkr.c
                obtain ⟨kt, hkt⟩ := q1i F0 G R j
                have hgi : (tZ F0 G R j).getD i .nil = G := by rw [hkt, aV hlt, HGE.o]
                have him : i < (tZ F0 G R j).length := by rw [hkt, qj]; omega
                have hix := aZ (P := prog) 67 51 underlying67 (by kernel_rfl) hdl
                have q64 : ∀ W, (Instr.indexAt 67 (.slice og (tZ F0 G R j).length cg) (.int .i64 (i : Int))).run prog W = .ok (.pointer (some ⟨gl, i, none⟩)) W := fun W => by simpa using hix W .i64 i (by omega) (by omega)
                have hbl := hdl.hblk (by omega)
                have htm := HBT.o.mkr.terms i him
                rw [hgi] at htm
                have hci := hcl i him
                obtain ⟨oi, ni, ci, hvi, -⟩ := htm.form
                rw [hvi] at htm hci
                obtain ⟨hf1, hf2⟩ := HFI.o wr HF.o j q6d
                have hfx : ∀ W, (Instr.indexAt 59 (.slice of H.length cf) (.int .i64 (j : Int))).run prog W = .ok (.pointer (some ⟨gF, j, none⟩)) W := fun W => by simpa using HFX.o W .i64 j (by omega) (by omega)
                have q92 : H.getD j 0 < 256 := by rw [HHE.o]; exact J7 (gN _ _ _ hjh)
                have HMS := qa (Y5 (f0 := F0) (g := G) (R := R) hjh)
                have HSS := qa (fun hs => q1g HSD.o hjh hs)
                have HSN := qa (fun hs => q2L (f0 := F0) (g := G) hjh hs)
                rw [← HHE.o] at HMS HSS HSN
                have HML : Hid ((tZ F0 G R j).length ≤ 2000) := qa (by have := q1h F0 G R j; have := HGO.o.len; have := tQ (eA F0); omega)
                generalize H.getD j 0 = c at *
                have HNX := qa (q3J c q92 htm HOG.o.1 HOG.o.2.1 (by rw [HOG.o.2.2, HC0.o]; omega))
                have HXG : Hid (cU (cV c G)) := qa (dZ c G HOG.o.1)
                have HXS : Hid (dP (cV c G) = true → szF (cV c G) ≤ 1000000) := qa (fun h => by have h1 := oB h; rw [lW, HOG.o.2.2, HC0.o] at h1; omega)
                obtain ⟨Q, hQ⟩ : ∃ Q, Q = dP (cV c G) := ⟨_, rfl⟩
                rw [← hQ] at HNX HSS HSN HXS
                generalize cV c G = X at *
                clear hix hdl hcl hkt hgi htm hvi hQ hjh
                go_upto_region 23 with ((with_reducible refine HNX.o.mono ?_); rintro e w7 ⟨u7, rfl, ht7, hb7⟩; have HT7 := qa ht7; have HB7 := qa hb7; clear ht7 hb7)
                have hF7 := HF.o.trans (HB7.o.mono hBw)
                have HF7 := qa hF7
                cases Q with
                | false =>
                  have hln := HGO.o.small hlt (by rw [← HGE.o]; exact HSN.o rfl)
                  have HE : Hid (wA ll = 3 ∧ uA ll = z7) := qa ⟨by rw [HDE.o.1]; unfold q1B; rw [hln], by rw [HDE.o.2]; unfold q1A; rw [hln]⟩
                  have HR9 := qa (HR1.o _ HF7.o)
                  have hbd := qah.out
                  clear hln HBT HRW HNB HNX
                  go_wp2_with (refine iU rfl _ _ rfl w.heap.size rfl Z rfl HZL.o qO rfl rfl HR9.o ?_; intro w12 q6G q6B; have q6N := qa q6G; have q6y := qa q6B; clear q6G q6B)
                  refine vV rfl rfl rfl rfl q6N.o (vW _) (rules := []) (Sl.nil _) fun v hv => ⟨v, by rw [HE.o.1]; rfl, by rw [HE.o.2]; exact hv, ?_⟩
                  have h1 := HFR.o _ HF7.o
                  exact h1.grown q6y.o h1.size (fun k hk => by injection hk with hk; omega)
                | true =>
                  have hT7 := (HT7.o rfl)
                  obtain ⟨o7, m7, k7, hu7, -⟩ := hT7.form
                  subst hu7
                  have q7h := qa (G6 (HBT.o.mkr.wide HB7.o) hT7.lt HXG.o (HXS.o rfl) (by have := HML.o; omega))
                  have HSJ := qa (HSS.o rfl)
                  obtain ⟨orw, nrw, crw, hrv⟩ : ∃ o n c, u16 = .slice o n c := by obtain ⟨o, c, _, e, -⟩ := HRW.o.cases; exact ⟨o, _, c, e⟩
                  subst hrv
                  have HRL : Hid ((ints (sS F0 G R j)).length ≤ 256) := qa (by rw [bE]; unfold sS; rw [qA, qW]; have := tQ (eA F0); rw [← HHE.o] at this; omega)
                  clear hT7 HSS HSN HNX HT7 hci q64 c0 hq hbl hf1 hf2 hfx
                  obtain ⟨R2, hR2⟩ : ∃ R2, R2 = bG (tZ F0 G R j) X := ⟨_, rfl⟩
                  rw [← hR2] at q7h HMS
                  obtain ⟨kx, hkx⟩ : ∃ kx, kx = idx R2 X := ⟨_, rfl⟩
                  rw [← hkx] at q7h
                  have HKX := qa hkx
                  clear hkx hR2
                  go_wp2_with (first
                    | ((with_reducible refine q7h.o.mono ?_); rintro e w8' ⟨rfl, lv2, vs2, hm8, hg8⟩
                       obtain ⟨hb8, hk8⟩ := HBT.o.num HB7.o hm8 hg8
                       have qct := qa hb8
                       have HK8 := qa hk8
                       have qa0 := fun k hk => (HBT.o.mkr.up HB7.o).lt k hk
                       have qc1 := qa (hg8.own (HRW.o.up HB7.o) (fun k hk hS => (HNB.o k hk).2 (.inl hS)))
                       have HF8 := qa (HF7.o.trans (hg8.below (by have := HB7.o.size; omega) (fun k hk => (qa0 k hk).1)))
                       have hl9 := aB w8' (.cells #[.int .i64 (kx : Nat)] 3)
                       have HSX : Hid (Sl (w8'.alloc (.cells #[.int .i64 (kx : Nat)] 3)) (.slice (some ⟨w8'.heap.size, 0, none⟩) 1 1) (ints [(kx : Int)])) := qa (by simpa [ints] using fZ w8' #[.int .i64 (kx : Nat)] 3 (by simp))
                       have q9y := qa (qct.o.up hl9)
                       have qaC := qa (qc1.o.up hl9)
                       have HF9 := qa (HF8.o.trans (hl9.mono (by have := HF8.o.size; have := HBB.o; omega)))
                       have HL9 := qa hl9
                       have HT4 : Hid (B ≤ (w8'.alloc (.cells #[.int .i64 (kx : Nat)] 3)).heap.size) := qa (by have := HF9.o.size; have := HBB.o; omega)
                       have HT3 : Hid ((ints (sS F0 G R j)).length + (ints [(kx : Int)]).length ≤ 4294967296) := qa (by have := HRL.o; simp only [bE, qD] at *; omega)
                       have HRB : Hid (∀ k, (Value.slice orw nrw crw).ownBlock = some k → k < wr.heap.size) := qa (fun k hk => (HRW.o.lt k hk).2)
                       clear hb8 hk8 hm8 hg8 hl9 qa0)
                    | (at_builtin; refine bU rfl (.tmp 91) (.tmp 95) 27 rfl B 3 (.int .i64 0) 8 underlying27 (by kernel_rfl) rfl (by decide) (.slice orw nrw crw) (ints (sS F0 G R j)) rfl qaC.o (.slice (some ⟨w8'.heap.size, 0, none⟩) 1 1) (ints [(kx : Int)]) rfl HSX.o (vT _) HT3.o HT4.o ?_; intro v' w9' hown1 hg1 hk1; have HO9 := qa hown1; have HG9 := qa hg1; have HK9 := qa hk1; clear hown1 hg1 hk1))
                  go_roundg (H.length - (j + 1))
                  case measure => omega
                  case rel =>
                    have hn : ∀ k, (Value.slice orw nrw crw).ownBlock = some k → ¬ MkA (fun b => upA A wr.heap.size b ∧ b < w7.heap.size) (B + 1) B lv2 k ∧ ¬ DbF g nv nvs rv k := fun k hk => ⟨HK8.o k (HRB.o k hk) (HNB.o k hk).2, (HNB.o k hk).1⟩
                    refine ⟨fun b => upA A wr.heap.size b ∧ b < w7.heap.size, j + 1, lv2, vs2, by go_num, by omega, ?_, ?_, fun k hk => ?_, HSJ.o, HF9.o.grown HG9.o (HT4.o) (fun k hk => (qaC.o.lt k hk).1), rfl⟩
                    · rw [HMS.o.1]
                      exact q9y.o.keep HG9.o hn
                    · rw [HMS.o.2, HMS.o.1, ← HKX.o, pY]
                      exact HO9.o
                    · rcases HK9.o k hk with h1 | h1
                      · exact ⟨(hn k h1).2, (hn k h1).1⟩
                      · exact ⟨fun hd => by have := (q9y.o.db.ltF k hd).2; omega, fun hd => by have := q9y.o.mkr.ltA k hd; omega⟩
              · have hje : j = H.length := by omega
                subst hje
                have hma := q1e F0 G R
                rw [← HHE.o] at hma
                rw [hma.1] at HBT
                rw [hma.2] at HRW
                have qc9 : Hid (q0b F0 G = true) := qa (q2K (by rw [← HHE.o]; exact HSD.o))
                clear hma HSD
                obtain ⟨R2, hR2⟩ : ∃ R2, R2 = iQ F0 G R := ⟨_, rfl⟩
                have HR2 := qa hR2
                have qcu : Hid (1000 < R2.length → gD F0 = none) := qa (fun hb => HGO.o.big hlt (by rw [← HGE.o, ← hR2]; exact hb))
                have qcd : Hid (R2.length ≤ 1000 → oA F0 (i + 1) R2 ∧ gK F0 R2 (i + 1) = gK F0 R i ++ [z8 F0 R2 G] ∧ d6 R2 (i + 1) = d6 R i ++ [pC 0 G]) := qa (fun hb => by rw [hR2, HGE.o]; exact HGO.o.next hlt (by rw [← HGE.o]; exact qc9.o) (by rw [← HGE.o, ← hR2]; exact hb))
                rw [← hR2] at HBT HRW
                clear hR2
                obtain ⟨og, cg, gl, hlv, hdl, -, hcl, -, -⟩ := HBT.o.mkr.lists.cases
                rw [HBT.o.mkr.len] at hlv hdl hcl
                subst hlv
                obtain ⟨c0, -, hq⟩ := HBT.o.mkr.c
                by_cases q82 : 1000 < R2.length
                · have hln := qcu.o q82
                  have HE : Hid (wA ll = 3 ∧ uA ll = z7) := qa ⟨by rw [HDE.o.1]; unfold q1B; rw [hln], by rw [HDE.o.2]; unfold q1A; rw [hln]⟩
                  have d1 : decide ((1000 : Int) < R2.length) = true := by simp; omega
                  have hbd := qah.out
                  have HR9 := qa (HR1.o _ HF.o)
                  clear hln hdl hcl
                  go_wp2_with (refine iU rfl _ _ rfl w.heap.size rfl Z rfl HZL.o qO rfl rfl HR9.o ?_; intro w12 q6G q6B; have q6N := qa q6G; have q6y := qa q6B; clear q6G q6B)
                  refine vV rfl rfl rfl rfl q6N.o (vW _) (rules := []) (Sl.nil _) fun v hv => ⟨v, by rw [HE.o.1]; rfl, by rw [HE.o.2]; exact hv, ?_⟩
                  have h1 := HFR.o _ HF.o
                  exact h1.grown q6y.o h1.size (fun k hk => by injection hk with hk; omega)
                · have d1 : decide ((1000 : Int) < R2.length) = false := by simp; omega
                  obtain ⟨hg2, hr2, hu2⟩ := qcd.o (by omega)
                  have HGN := qa hg2
                  have HRN := qa hr2
                  have HUN := qa hu2
                  have hBw : B ≤ wr.heap.size := by have := HF.o.size; have := HBB.o; omega
                  obtain ⟨on, cn, gn, hnv, -⟩ := HBT.o.db.rows.outer.cases
                  obtain ⟨nn, hnn⟩ : ∃ nn, nn = nvs.length := ⟨_, rfl⟩
                  rw [← hnn] at hnv
                  subst hnv
                  obtain ⟨orw, nrw, crw, hrv⟩ : ∃ o n c, u16 = .slice o n c := by obtain ⟨o, c, _, e, -⟩ := HRW.o.cases; exact ⟨o, _, c, e⟩
                  subst hrv
                  clear hnn hdl hcl
                  have e256 := HBT.o.db.box.cellN
                  have hgl := HBT.o.db.box.lt
                  have hng : (Value.slice on nn cn).ownBlock ≠ some g := fun e => HBT.o.db.fg.1 g e rfl
                  have hlr : Below wr.heap.size wr (wr.alloc (.cells #[.slice orw nrw crw] 27)) := aB _ _
                  have HLR := qa hlr
                  have HSX : Hid (Sl (wr.alloc (.cells #[.slice orw nrw crw] 27)) (.slice (some ⟨wr.heap.size, 0, none⟩) 1 1) [.slice orw nrw crw]) := qa (by simpa using fZ wr #[.slice orw nrw crw] 27 (by simp))
                  have HT1 := qa (HBT.o.db.rows.outer.up hlr)
                  have HT3 : Hid (nvs.length + [Value.slice orw nrw crw].length ≤ 4294967296) := qa (by have h1 := HBT.o.db.rows.len; have h2 := HGO.o.len; have h3 := HGO.o.le; simp [gK] at h1; simp; omega)
                  have HT4 : Hid (B ≤ (wr.alloc (.cells #[.slice orw nrw crw] 27)).heap.size) := qa (by have := hlr.size; omega)
                  have q8I := qa (HBT.o.db.box.up hlr)
                  have HNG := qa hng
                  clear hg2 hr2 hu2 hlr hng
                  go_upto_region 30 with (at_builtin; refine bU rfl (.tmp 106) (.tmp 108) 26 rfl B 27 (.slice none 0 0) 24 underlying26 (by kernel_rfl) rfl (by decide) (.slice on nn cn) nvs rfl HT1.o (.slice (some ⟨wr.heap.size, 0, none⟩) 1 1) [.slice orw nrw crw] rfl HSX.o (by simp [Value.oneCell']) HT3.o HT4.o ?_; intro v' w5 hown1 hg1 hk1; (obtain ⟨o5, c5, q5', hv5, -⟩ := hown1.cases); (obtain ⟨n5, hn5⟩ : ∃ n5, n5 = (nvs ++ [Value.slice orw nrw crw]).length := ⟨_, rfl⟩); rw [← hn5] at hv5; subst hv5; clear hn5; have HO5 := qa hown1; have HG5 := qa hg1; have HK5 := qa hk1; clear hown1 hg1 hk1; have q6W := qa (q8I.o.keep HG5.o HNG.o); have g5 := q6W.o.free 256; have h5 := q6W.o.cellN; have hq5 := q6W.o.lt)
                  have HPR := qa (HBT.o.pushRow HRW.o HNB.o HLR.o HO5.o HG5.o HK5.o)
                  clear q6W g5 h5 hq5 q8I HT1 HT3 HT4 HSX HO5 HG5 HK5 e256 hgl c0 hq HLR
                  rw [← HRN.o] at HPR
                  generalize hw6 : w5.setCell ⟨g, 256, none⟩ (.slice o5 n5 c5) = w6 at *
                  have q6J := qa HPR.o.1
                  have HF6 := qa (HF.o.trans (HPR.o.2.mono (by have := HBB.o; omega)))
                  clear hw6 HPR HBT HF
                  obtain ⟨kt, hkt⟩ := bK (nxD F0 G) R
                  have q97 : R2 = R ++ kt := HR2.o.trans hkt
                  have hgi : R2.getD i .nil = G := by rw [q97, aV hlt, HGE.o]
                  have him : i < R2.length := by rw [q97, qj]; omega
                  obtain ⟨og', cg', gl', hle, hd, -, hcl, -, -⟩ := q6J.o.mkr.lists.cases
                  rw [q6J.o.mkr.len] at hle hd hcl
                  injection hle with hle1 hle2 hle3
                  subst hle1 hle3
                  clear hle2
                  have htm := q6J.o.mkr.terms i him
                  rw [hgi] at htm
                  have hcell := hcl i him
                  obtain ⟨oi, ni, ci, hvi, -⟩ := htm.form
                  rw [hvi] at htm hcell
                  have hix := aZ (P := prog) 67 51 underlying67 (by kernel_rfl) hd
                  have q64 : ∀ W, (Instr.indexAt 67 (.slice og R2.length cg) (.int .i64 (i : Int))).run prog W = .ok (.pointer (some ⟨gl', i, none⟩)) W := fun W => by simpa using hix W .i64 i (by omega) (by omega)
                  have hbb := hd.hblk (by omega)
                  obtain ⟨c0, -, hq⟩ := q6J.o.mkr.c
                  have hB6 : B ≤ w6.heap.size := by have := HF6.o.size; have := HBB.o; omega
                  have hd6 : Below w6.heap.size w6 w6.drew := by rw [World.drew_is_drewN]; exact aW w6 1
                  have HD6 := qa hd6
                  have qaD := qa (q3I (htm.up hd6) (by have h1 := oB HOG.o.2.1; rw [HOG.o.2.2, HC0.o] at h1; omega))
                  obtain ⟨orv, crv, grv, hrv, -⟩ := q6J.o.db.rls.cases
                  obtain ⟨nrv, q9W⟩ : ∃ nrv, nrv = (ints (d6 R i)).length := ⟨_, rfl⟩
                  rw [← q9W] at hrv
                  subst hrv
                  clear q9W hkt q97 hgi hix hd hcl htm hvi
                  have e257 := q6J.o.db.box.cellR
                  have hgl := q6J.o.db.box.lt
                  generalize pC 0 G = lx at *
                  have HRL : Hid ((d6 R i).length ≤ 1000) := qa (by have h2 := HGO.o.len; have h3 := HGO.o.le; simp [d6]; omega)
                  go_wp2
                  refine aH [0,1,2,3,4,5,6,7,8] [9,10] [11,12,13] (by kernel_rfl) (by kernel_rfl) ?_
                  simp only [pk]
                  repeat (go_big_quiet_step (fail))
                  refine wpQuiet_nil ?_
                  generalize w6.drew = wd at *
                  unfold aD
                  go_wp2_with ((with_reducible refine qaD.o.mono ?_); rintro en w7 ⟨rfl, x7, rfl⟩)
                  have HB7 := qa (dW HD6.o x7)
                  refine ⟨aF HB7.o, ?_⟩
                  generalize ext wd x7 = w7 at *
                  have hs7 := HB7.o.size
                  have hl8 : Below w6.heap.size w6 (w7.alloc (.cells #[.int .i64 lx] 3)) := HB7.o.trans ((aB w7 (.cells #[.int .i64 lx] 3)).mono hs7)
                  have HL8 := qa hl8
                  have HSX : Hid (Sl (w7.alloc (.cells #[.int .i64 lx] 3)) (.slice (some ⟨w7.heap.size, 0, none⟩) 1 1) (ints [lx])) := qa (by simpa [ints] using fZ w7 #[.int .i64 lx] 3 (by simp))
                  have HT1 := qa (q6J.o.db.rls.up hl8)
                  have HT3 : Hid ((ints (d6 R i)).length + (ints [lx]).length ≤ 4294967296) := qa (by have := HRL.o; simp only [bE, qD]; omega)
                  have HT4 : Hid (B ≤ (w7.alloc (.cells #[.int .i64 lx] 3)).heap.size) := qa (by have := hl8.size; omega)
                  have q8I := qa (q6J.o.db.box.up hl8)
                  have HRG := qa q6J.o.db.rg
                  clear hl8 e257 hgl hs7 hcell q64 hbb c0 hq qaD
                  (unfold aD; go_wp2; refine ⟨aF HL8.o, ?_⟩)
                  unfold aD
                  unfold aD
                  go_wp2_with (at_builtin; refine bU rfl (.tmp 112) (.tmp 121) 27 rfl B 3 (.int .i64 0) 8 underlying27 (by kernel_rfl) rfl (by decide) (.slice orv nrv crv) (ints (d6 R i)) rfl HT1.o (.slice (some ⟨w7.heap.size, 0, none⟩) 1 1) (ints [lx]) rfl HSX.o (vT _) HT3.o HT4.o ?_; intro v' w9 hown1 hg1 hk1; (obtain ⟨o9, c9, q9', hv9, -⟩ := hown1.cases); (obtain ⟨n9, hn9⟩ : ∃ n9, n9 = (ints (d6 R i) ++ ints [lx]).length := ⟨_, rfl⟩); rw [← hn9] at hv9; subst hv9; clear hn9; have HO9 := qa hown1; have HG9 := qa hg1; have HK9 := qa hk1; clear hown1 hg1 hk1)
                  have q7t := qa (q8I.o.keep HG9.o HRG.o)
                  have g9 := q7t.o.free 257
                  have h9 := q7t.o.cellR
                  have hq9 := q7t.o.lt
                  refine ⟨trivial, ?_⟩
                  (unfold aD; go_wp2; refine ⟨trivial, ?_⟩)
                  (unfold aD; go_wp2; refine ⟨trivial, ?_⟩)
                  unfold aD
                  have HPU := qa (q6J.o.pushRule HL8.o (x := lx) (by rw [pY]; exact HO9.o) HG9.o HK9.o)
                  rw [← HUN.o] at HPU
                  go_wp2
                  go_roundg (1001 - (i + 1))
                  case measure => have := HGO.o.len; omega
                  case rel => exact ⟨_, i + 1, R2, _, _, _, _, _, by go_num, HGN.o, HPU.o.1, HF6.o.trans (HPU.o.2.mono (by have := HBB.o; omega)), rfl⟩
          · have d0 : decide ((i : Int) < R.length) = false := by simp; omega
            obtain ⟨hl1, hl2, hl3⟩ := HGO.o.done hlt
            have HE : Hid (wA ll = 0 ∧ uA ll = m9 F0 R) := qa ⟨by rw [HDE.o.1]; unfold q1B; rw [hl1], by rw [HDE.o.2]; unfold q1A; rw [hl1]⟩
            have HRW : Hid (gK F0 R i = (m9 F0 R).next) := qa hl2
            have HRU : Hid (d6 R i = (m9 F0 R).rules) := qa hl3
            obtain ⟨A9, hA9, hs9, hl9⟩ := HBT.o.db.box.open
            have HA9 := qa hA9
            have HS9 := qa hs9
            have HL9 := qa hl9
            have qbj : nv.oneCell' = true := kE HBT.o.db.rows.outer
            have qbb : rv.oneCell' = true := kE HBT.o.db.rls
            have qc3 := qa (HR1.o _ HF.o)
            clear hA9 hs9 hl9 hl1 hl2 hl3
            go_wp2_with (first | (refine nY rfl _ rfl g rfl A9 HS9.o HA9.o ?_) | (refine iU rfl _ _ rfl w.heap.size rfl A9 rfl HL9.o HBT.o.db.box.len qbj qbb qc3.o ?_; intro w12 q6G q6B; have q6N := qa q6G; have q6y := qa q6B; clear q6G q6B))
            have qbg := ((HBT.o.db.rows.keep' q6y.o (HBT.o.db.rows.free_below (by omega))).rowsG.ints)
            have qb8 : fN w12 rv (d6 R i) := (HBT.o.db.rls.keep q6y.o (by
              cases hro : rv.ownBlock with
              | none => exact .inl rfl
              | some k => exact .inr (fun e => by injection e with e; have := (HBT.o.db.rls.lt k hro).1; omega))).sl
            refine vV rfl rfl rfl rfl q6N.o qbg qb8 fun v hv => ⟨v, by rw [HE.o.1]; rfl, ?_, ?_⟩
            · rw [HE.o.2]
              rw [HRW.o, HRU.o, HCO.o] at hv
              exact hv
            · have h1 := HFR.o _ HF.o
              exact h1.grown q6y.o h1.size (fun j hj => by injection hj with hj; omega)
  · have HE : Hid (wA ll = M ∧ uA ll = z7) := qa ⟨by unfold wA; rw [qu (by rw [← HMM.o]; exact h0), HMM.o], by unfold uA; rw [qu (by rw [← HMM.o]; exact h0)]⟩
    have hm0 : (M == 0) = false := beq_eq_false_iff_ne.2 h0
    have hm1 : decide (M = 0) = false := qw h0
    have H0 := qa h0
    clear h0 hc hd HMM
    go_enter func6, ntmps6
    go_wp2_with (first
      | ((with_reducible refine HNM.o.mono ?_); rintro en w2 ⟨A2, rfl, -, h1, hb⟩; obtain rfl := h1 H0.o; have ha2 := aB w2 (.cells #[.slice none 0 0, .int .i64 0, .slice none 0 0] 48); have hb2 := hb.trans (ha2.mono hb.size); have HB2 := qa (HA.o.trans (hb2.mono HA.o.size)); have HR2 := qa (HB1.o.up hb2); clear h1 hb ha2 hb2)
      | (refine iU rfl _ _ rfl w.heap.size rfl Z rfl HZL.o qO rfl rfl HR2.o ?_; intro w12 q6G q6B; have q6N := qa q6G; have q6y := qa q6B; clear q6G q6B))
    refine vV rfl rfl rfl rfl q6N.o (vW _) (rules := []) (Sl.nil _) fun v hv => ⟨v, by rw [HE.o.1]; rfl, by rw [HE.o.2]; exact hv, ?_⟩
    have h1 := HB2.o
    exact h1.grown q6y.o h1.size (fun k hk => by injection hk with hk; omega)
end Go.Cm
namespace Go.Cm
open Go.RowKit Go.Proofs
def nA:List Nd:=[⟨4,2,0,0,0,0,0,0⟩,⟨1,0,0,8589934592,0,0,0,0⟩,⟨1,0,0,17179869184,0,0,0,0⟩]
def nB:List Nd:=[⟨3,2,0,0,0,0,0,0⟩,⟨5,1,0,0,0,0,0,0⟩,⟨1,0,0,8589934592,0,0,0,0⟩,⟨1,0,0,17179869184,0,0,0,0⟩]
def kA:Fo:=.cons ⟨1,0,0,8589934592,0,0,0,0⟩ .nil (.cons ⟨1,0,0,17179869184,0,0,0,0⟩ .nil .nil)
def kBt:Fo:=.cons ⟨5,1,0,0,0,0,0,0⟩ (.cons ⟨1,0,0,8589934592,0,0,0,0⟩ .nil .nil) (.cons ⟨1,0,0,17179869184,0,0,0,0⟩ .nil .nil)
theorem prA:q0O [97,124,98]=(nA,0,0):=by kernel_rfl
theorem prB:q0O [97,42,98]=(nB,0,0):=by kernel_rfl
theorem ofA:gL nA=.cons ⟨4,2,0,0,0,0,0,0⟩ kA .nil:=dR ⟨4,2,0,0,0,0,0,0⟩ kA (by decide) ⟨by decide,trivial,by decide,trivial,trivial⟩
theorem ofB:gL nB=.cons ⟨3,2,0,0,0,0,0,0⟩ kBt .nil:=dR ⟨3,2,0,0,0,0,0,0⟩ kBt (by decide) ⟨by decide,⟨by decide,trivial,trivial⟩,by decide,trivial,trivial⟩
theorem sX:Chk nA:=by decide+kernel
theorem I4:Chk nB:=by decide+kernel
theorem qAB:mD [nA,nB]:=fun l hl=>by
 have hq:∀y∈nA++nB,NdQ y:=fun y hy=>by
  simp only[nA,nB,jl,List.nil_append,jK,List.not_mem_nil,or_false]at hy;rcases hy with rfl|rfl|rfl|rfl|rfl|rfl|rfl<;>exact⟨⟨by decide,by decide⟩,⟨by decide,by decide⟩,⟨by decide,by decide⟩,⟨by decide,by decide⟩⟩
 rcases List.mem_cons.1 hl with rfl|hl
 ·exact fun x hx=>hq x (j4 _ hx)
 rw[List.mem_singleton.1 hl];exact fun x hx=>hq x (List.mem_append_right _ hx)
theorem q07:oC [nA,nB]=0:=by
 have h1:eR nA=6:=by unfold eR;rw[qv sX,ofA];decide
 have h2:eR nB=6:=by unfold eR;rw[qv I4,ofB];decide
 unfold oC;rw[qu (by decide),qu (by decide),qu,qu]
 ·simp[h1,h2]
 intro h;refine h fun l hl=>?_;simp at hl;rcases hl with rfl|rfl
 ·exact sX
 exact I4
theorem gvA:gvT nA=(⟨4,2,0,0,0,0,0,0⟩,kA):=by unfold gvT;rw[qv sX,ofA];rfl
theorem gvB:gvT nB=(⟨3,2,0,0,0,0,0,0⟩,kBt):=by unfold gvT;rw[qv I4,ofB];rfl
theorem q5M:mtN nA [98]=true:=by unfold mtN;rw[qv sX,gvA];decide+kernel
theorem q5N:mtN nA [97,98]=false:=by unfold mtN;rw[qv sX,gvA];decide+kernel
theorem q5O:mtN nB [97,97,98]=true:=by unfold mtN;rw[qv I4,gvB];decide+kernel
theorem q5P:q2n 99 nA=[]:=by unfold q2n;rw[qv sX,gvA];decide+kernel
theorem q5Q:(q2n 97 nA).length=1:=by unfold q2n;rw[qv sX,gvA];decide+kernel
def fAB:Fo:=.cons ⟨4,2,0,0,0,0,0,0⟩ kA (.cons ⟨3,2,0,0,0,0,0,0⟩ kBt .nil)
theorem q51:kL [nA,nB]=fAB:=by rw[kL,kL,kL,ofA,ofB];rfl
theorem q52:(gD fAB).isSome=true:=by decide+kernel
theorem q53:wA [nA,nB]=0/\∀bs:List UInt8,kU (uA [nA,nB]) bs=pC 0 (J5 fAB (bs.map UInt8.toNat)):=by
 obtain⟨R,hR⟩:=Option.isSome_iff_exists.1 q52;unfold wA uA;rw[qv q07,qv q07,q51];refine⟨by unfold q1B;rw[hR],fun bs=>?_⟩;unfold q1A;rw[hR];exact tS hR (by decide) bs
theorem q4k:wA []=17:=by
 unfold wA;have:oC []=17:=by unfold oC;exact qv rfl
 rw[this];decide
theorem q54:pC 0 (J5 fAB [98])=0:=by decide+kernel
theorem q55:pC 0 (J5 fAB [97,98])=1:=by decide+kernel
theorem q57:pC 0 (J5 fAB [])= -1:=by decide+kernel
end Go.Cm
