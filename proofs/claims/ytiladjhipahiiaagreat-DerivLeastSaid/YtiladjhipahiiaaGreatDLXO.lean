/- Walks of functions and plain facts, joined and squeezed by a program. Conditions: as each says. -/
import Derived.Test.YtiladjhipahiiaaGreatDLXN
import Derived.Test.YtiladjhipahiiaaGreatDLXM
set_option maxHeartbeats 8000000
set_option maxRecDepth 100000
set_option linter.unusedSimpArgs false
open Go.Proofs.Tryz
namespace Go.Cm
open Go.RowKit Go.Proofs
theorem ZmO0{P:Prop}(h:P:=by
 go_wp2_with((with_reducible refine(HKN.o _).mono ?_);rintro en w8 ⟨rfl,x8,rfl⟩)
 go_ret;exact⟨rfl,aJ (gK HB7.o x8)⟩):P:=h
def mtR:Tm->List UInt8->Bool
 |t,[]=>L1 t.1 (tJ t.2)
 |t,c::s=>if kG (nQ c.toNat t.1 t.2 (eM c.toNat t.2)).1=true\/400<szT (nQ c.toNat t.1 t.2 (eM c.toNat t.2))then false else mtR (nQ c.toNat t.1 t.2 (eM c.toNat t.2)) s
noncomputable def mtN(l:List Nd)(s:List UInt8):Bool:=if Chk l then mtR (gvT l) s else false
theorem q5C{α:Type}(l:List α)(i:Nat)(d:α)(h:i<l.length):l.drop i=l.getD i d::l.drop (i+1):=by
 rw[jE h];simp[List.getD,h]
structure MtS(w W:World)(g:Nat)(t:Tm)(u:Value):Prop where
 bel:Below w.heap.size w W
 box:kH W g (tmC t.1 u)
 tm:bA (fun b=>b≠g) W u t.2
theorem MtS.up{w W W':World}{g:Nat}{t:Tm}{u:Value}(h:MtS w W g t u)(hb:Below W.heap.size W W'):MtS w W' g t u:=
 ⟨h.bel.trans (hb.mono h.bel.size),h.box.up hb,h.tm.up hb⟩
theorem MtS.put{w W W' W'':World}{g:Nat}{t d:Tm}{u u':Value}(h:MtS w W g t u)(hwg:w.heap.size<=g)(hT:bA (upA (fun b=>b≠g) W.heap.size) W' u' d.2)(hb:Below W.heap.size W W')(hg:W'.grownBy W'' (some g))(hx:kH W'' g (tmC d.1 u')):MtS w W'' g d u':=by
 have hlt:=(h.box.lt _ rfl).2;have hne:bA (fun b=>b≠g) W' u' d.2:=hT.mono fun b hb=>hb.elim id (fun h e=>by subst e;simp only at hlt;omega);exact⟨(h.bel.trans (hb.mono h.bel.size)).grown hg (h.bel.trans (hb.mono h.bel.size)).size (by rintro q ⟨⟩;exact hwg),hx,hne.keep hg.size (fun b hb hlt=>hg.block b hlt (fun e=>hb (qr e)))⟩
theorem E6 {w : World} {v : Value} {l : List Nd} (s : ByteArray) (hsz : s.size ≤ 1000000) (h : bE w v l) (hq : ∀ x ∈ l, NdQ x) : Calls prog 14 #[v, .string s] w fun e w' => e = .returned (.bool (mtN l (bys s))) ∧ ∃ x, w' = ext w x := by
  have HN := qa h
  have HGV := qa (fun W (hW : bE W v l) => q1n hW)
  have HIX := qa (fun (i : Nat) (h : i < s.size) (W : World) => iU (P := prog) 9 underlying9 h W)
  obtain ⟨R, hR⟩ : ∃ R, R = mtN l (bys s) := ⟨_, rfl⟩
  rw [← hR]
  unfold mtN at hR
  by_cases hc : Chk l
  · obtain ⟨x, k, h1, h2, h3⟩ := vB hc hq
    have hkl : szF k < 400 := by
      obtain ⟨x', k', h1', -, -, -, -, h6⟩ := oV hc
      rw [sC]
      have := j0 List.length h1
      have h7 := j0 List.length h1'
      simp only [qA] at this h7
      omega
    have hg : gvT l = (x, k) := by unfold gvT; rw [qw hc, h2]; rfl
    rw [hg, show decide (Chk l) = true by simp [hc]] at HGV
    rw [qw hc, hg] at hR
    have HR : Hid (mtR (x, k) ((bys s).drop 0) = R) := qa hR.symm
    have HGD := qa h3
    have HSM : Hid (szT (x, k) ≤ 400) := qa (by show 1 + szF k ≤ 400; omega)
    obtain ⟨kd, nn, a, b', c', d, lo, hi⟩ := x
    clear h hc h1 h2 h3 hkl hg hR hq
    go_enter func14, ntmps14
    go_wp2_with (first
      | ((with_reducible refine (HGV.o _ HN.o).mono ?_); rintro e w6 ⟨u6, rfl, hT6, hb⟩; obtain ⟨p6, n6, k6, hu6, -⟩ := hT6.form; subst hu6
         have ha := aD w6 (.cells (tmA ⟨kd, nn, a, b', c', d, lo, hi⟩ (.slice p6 n6 k6)) 55)
         have HM6 : Hid (MtS w (w6.alloc (.cells (tmA ⟨kd, nn, a, b', c', d, lo, hi⟩ (.slice p6 n6 k6)) 55)) w6.heap.size (⟨kd, nn, a, b', c', d, lo, hi⟩, k) (.slice p6 n6 k6)) :=
           qa ⟨hb.trans (ha.mono hb.size), dX w6 ⟨kd, nn, a, b', c', d, lo, hi⟩ (.slice p6 n6 k6), (hT6.lt.up ha).mono (fun b hb e => by have := hb.2; omega)⟩
         have HG6 : Hid (w.heap.size ≤ w6.heap.size) := qa hb.size
         clear hT6 hb ha))
    generalize w6.alloc (.cells (tmA ⟨kd, nn, a, b', c', d, lo, hi⟩ (.slice p6 n6 k6)) 55) = w7 at *
    generalize w6.heap.size = g at *
    go_loopg [17] s.size (fun gk iv wr => ∃ (i : Nat) (t : Tm) (u : Value), iv = .int .i64 i ∧ i ≤ s.size ∧ MtS w wr g t u ∧ mW t ∧ szT t ≤ 400 ∧ Hid (mtR t ((bys s).drop i) = R) ∧ gk = s.size - i)
    case atStart => exact ⟨0, _, _, rfl, qd _, HM6.o, HGD.o, HSM.o, HR, rfl⟩
    case round =>
      obtain ⟨i, t, u, rfl, hi, hM, qey, qeT, HV, hgk⟩ := hrel
      have HM := qa hM
      have HGK := qa hgk
      obtain ⟨p, n, q, hu, -⟩ := hM.tm.form
      subst hu
      clear hM hgk HM6 HR HGV HGD HSM
      by_cases hlt : i < s.size
      · have qcB := HIX.o i hlt
        have qfh : (bys s).drop i = (bys s).getD i 0 :: (bys s).drop (i + 1) := q5C (bys s) i 0 (by rw [cH]; exact hlt)
        have HV2 := HV.o
        rw [qfh, mtR] at HV2
        have hcb : ((bys s).getD i 0).toNat < 256 := UInt8.toNat_lt _
        have HBY := qa (fun (A' : Nat → Prop) (W : World) (hT : bA A' W (.slice p n q) t.2) => qbm ((bys s).getD i 0).toNat hcb 400 (qb _) A' W t.1 (.slice p n q) t.2 qeT qey hT)
        have hgd := uR (c := ((bys s).getD i 0).toNat) qey.1 qey.2.2 (fV ((bys s).getD i 0).toNat t.2 qey.2.2)
        have hsd := B9 ((bys s).getD i 0).toNat t.1 t.2 qeT
        generalize ((bys s).getD i 0).toNat = c at *
        generalize nQ c t.1 t.2 (eM c t.2) = d at *
        have qlg := qa hgd
        have hva : (kG d.1 = true ∨ 400 < 1 + szF d.2) → R = false := fun h => by rw [qw h] at HV2; exact HV2.symm
        have hvb : ¬ (kG d.1 = true ∨ 400 < 1 + szF d.2) → mtR d ((bys s).drop (i + 1)) = R := fun h => by rw [qv h] at HV2; exact HV2
        have hzz : ∀ N, 1 + szF d.2 ≤ N → szT d ≤ N := fun _ h => h
        clear HV2
        obtain ⟨⟨kd, nn, a, b', c', dd', lo, hi'⟩, k⟩ := t
        obtain ⟨⟨dk, dn, da, db, dc, dd, dl, dh⟩, df⟩ := d
        have HSZ := qa (fun (A' : Nat → Prop) (W : World) (u : Value) (hT : bA A' W u df) => q5b (A := A') 400000 (w := W) (x := ⟨dk, dn, da, db, dc, dd, dl, dh⟩) (u := u) (by change 1 + szF df ≤ _ at hsd; omega) (by decide) hT)
        have HDD := qa (fun (W : World) (u : Value) => M4 (w := W) ⟨dk, dn, da, db, dc, dd, dl, dh⟩ u)
        simp only at hva hvb hzz
        generalize kG ⟨dk, dn, da, db, dc, dd, dl, dh⟩ = q5 at *
        generalize 1 + szF df = S at *
        have HVA := qa hva
        have HVB := qa hvb
        have HZZ := qa hzz
        clear hva hvb hzz
        clear qfh hcb hgd hsd qey qeT HIX HV
        go_upto_region 7 with (fail)
        have hdr := gQ (qn wr.heap.size wr)
        have HM7 := qa (HM.o.up hdr)
        refine cL (C := fun w' => ∃ x, w' = ext wr.drew x) [0, 1, 2, 3] [4] [5] (by kernel_rfl) (by kernel_rfl) (aJ (qn _ _)) ?_
        clear hdr HM
        generalize wr.drew = w8 at *
        have HLT : Hid (g < w8.heap.size) := qa (HM7.o.box.lt _ rfl).2
        simp only [pk]
        repeat (first
          | (go_big_quiet_want; refine cB 55 8 _ rfl g 0 rfl (tmA ⟨kd, nn, a, b', c', dd', lo, hi'⟩ (.slice p n q)) rfl (fun w' hw' j hj => by obtain ⟨y, rfl⟩ := hw'; rw [qI, (aE w8 y).cell (p := ⟨g, j, none⟩) HLT.o, HM7.o.box.cell (show j < 8 from hj), q7t]) _ underlying55 rfl (by kernel_rfl) ?_; go_simp; go_big_quiet_on)
          | go_big_quiet_step (fail))
        refine wpQuiet_nil ?_
        unfold aF
        go_wp2_with (first | ((with_reducible refine (HBY.o _ _ HM7.o.tm).mono ?_); rintro e w9 ⟨u8, rfl, hT, hb⟩; obtain ⟨p8, n8, k8, hu8, -⟩ := hT.form; subst hu8; have HT9 := qa hT; have HB9 := qa hb; have qdg := qa (HM7.o.box.up hb); clear hT hb))
        refine ⟨aJ HB9.o, ?_⟩
        unfold aF
        unfold aF
        go_wp2_with (first | (refine bT rfl (.tmp 5) (.tmp 24) rfl g rfl ⟨dk, dn, da, db, dc, dd, dl, dh⟩ (.slice p8 n8 k8) rfl rfl _ qdg.o (show (8 : Nat) = 8 from rfl) ?_; intro w11 hbx hg; have HM9 := qa (HM7.o.put (d := (⟨dk, dn, da, db, dc, dd, dl, dh⟩, df)) HG6.o HT9.o HB9.o hg hbx); clear hbx hg))
        refine ⟨trivial, ?_⟩
        unfold aF
        clear HM7 HT9 HB9 qdg HLT
        by_cases hs4 : 400 < S
        all_goals
          have HS4 := qa hs4
          cases q5
          all_goals
            go_wp2_with (first
              | (refine dC rfl (.tmp 5) rfl g rfl dk dn da db dc dd dl dh (.slice p8 n8 k8) HM9.o.box ?_)
              | ((with_reducible refine (HDD.o _ _).mono ?_); rintro e w10 ⟨rfl, hx⟩; have qcJ := qa (HM9.o.up (aI hx)); have c0 : w10.cell? ⟨g, 0, none⟩ = some (.int .i64 dk) := qcJ.o.box.cell (i := 0) (show (0 : Nat) < 8 by decide); have c1 : w10.cell? ⟨g, 1, none⟩ = some (.int .u64 da) := qcJ.o.box.cell (i := 1) (show (1 : Nat) < 8 by decide); have c2 : w10.cell? ⟨g, 2, none⟩ = some (.int .u64 db) := qcJ.o.box.cell (i := 2) (show (2 : Nat) < 8 by decide); have c3 : w10.cell? ⟨g, 3, none⟩ = some (.int .u64 dc) := qcJ.o.box.cell (i := 3) (show (3 : Nat) < 8 by decide); have c4 : w10.cell? ⟨g, 4, none⟩ = some (.int .u64 dd) := qcJ.o.box.cell (i := 4) (show (4 : Nat) < 8 by decide); have c5 : w10.cell? ⟨g, 5, none⟩ = some (.int .i64 dl) := qcJ.o.box.cell (i := 5) (show (5 : Nat) < 8 by decide); have c6 : w10.cell? ⟨g, 6, none⟩ = some (.int .i64 dh) := qcJ.o.box.cell (i := 6) (show (6 : Nat) < 8 by decide); have c7 : w10.cell? ⟨g, 7, none⟩ = some (.slice p8 n8 k8) := qcJ.o.box.cell (i := 7) (show (7 : Nat) < 8 by decide); clear hx)
              | ((with_reducible refine (HSZ.o _ _ _ qcJ.o.tm).mono ?_); rintro e w12 ⟨rfl, hx⟩; have qcJ := qa (qcJ.o.up (aI hx)); clear hx))
            first
              | (go_ret; rw [HVA.o (.inr HS4.o)]; exact ⟨rfl, aJ qcJ.o.bel⟩)
              | (go_ret; rw [HVA.o (.inl rfl)]; exact ⟨rfl, aJ qcJ.o.bel⟩)
              | (go_ret; rw [HVA.o (.inl True.intro)]; exact ⟨rfl, aJ qcJ.o.bel⟩)
              | (go_ret; have hrf := HVA.o (by simp); rw [hrf]; exact ⟨rfl, aJ qcJ.o.bel⟩)
              | (go_roundg (s.size - (i + 1))
                 case measure => (have := HGK.o; omega)
                 case rel => exact ⟨i + 1, _, _, by go_num, by omega, qcJ.o, qlg.o, HZZ.o 400 (Nat.le_of_not_lt HS4.o), qa (HVB.o (fun h => h.elim (fun e => by cases e) HS4.o)), rfl⟩)
      · have qfh : (bys s).drop i = [] := List.drop_eq_nil_of_le (by rw [cH]; omega)
        have hv := HV.o
        rw [qfh, mtR] at hv
        have HNU := qa (fun (A' : Nat → Prop) (W : World) (hT : bA A' W (.slice p n q) t.2) => q9h (A := A') 401 (w := W) (x := t.1) (k := t.2) (by change 1 + szF t.2 ≤ 400 at qeT; omega) hT)
        rw [hv] at HNU
        clear qfh hv HV qey qeT HIX
        obtain ⟨⟨kd, nn, a, b', c', dd', lo, hi'⟩, k⟩ := t
        go_wp2_with (first
          | (refine dC rfl (.tmp 5) rfl g rfl kd nn a b' c' dd' lo hi' (.slice p n q) HM.o.box ?_)
          | ((with_reducible refine (HNU.o _ _ HM.o.tm).mono ?_); rintro e w10 ⟨rfl, hx⟩; have qcJ := qa (HM.o.up (aI hx)); clear hx))
        go_ret
        exact ⟨rfl, aJ qcJ.o.bel⟩
  · rw [show decide (Chk l) = false by simp [hc], show gvT l = (noT, .nil) by unfold gvT; rw [qv hc]; rfl] at HGV
    rw [qv hc] at hR
    have HR := qa hR
    clear h hc hR hq
    go_enter func14, ntmps14
    go_wp2_with (first
      | ((with_reducible refine (HGV.o _ HN.o).mono ?_); rintro e w6 ⟨u6, rfl, hT6, hb⟩; obtain ⟨p6, n6, k6, hu6, -⟩ := hT6.form; subst hu6
         have ha := aD w6 (.cells (tmA noT (.slice p6 n6 k6)) 55)
         have HB6 := qa (hb.trans (ha.mono hb.size)); clear hT6 hb ha))
    go_ret
    rw [HR.o]
    exact ⟨rfl, aJ HB6.o⟩
theorem qaF{A:Nat->Prop}{w:World}{v:Value}{f:Fo}(h:bA A w v f)(hs:szF f<=1000000):Calls prog 22 #[v] w fun e w'=>e=.returned (.int .i64 (xX 0 f))/\∃x,w'=ext w x:=by
 obtain⟨rs,oa,cap,b,off,rfl,hd,hw⟩:=h.walk;have HIX:=qa (fE hd);have HW:=qa hw;have hm:=hd.len;have hcz:=L6 f;obtain⟨R,hR⟩:∃R,R=xX 0 f:=⟨_,rfl⟩;rw[<-hR];have HR0:Hid (cA A w (rs.drop 0) f):=qa hw.rows;have HV0:Hid (xX 0 f=R):=qa hR.symm;have HSZ:=qa hs;generalize cnt f=m at*;clear hd hw h hR hs;go_enter func22,ntmps22;go_wp2
 go_loopg [7] m (fun gk iv wr=>∃(i:Nat) (r:Fo),iv=.int .i64 i/\i<=m/\Hid (xX i r=R)/\szF r<=1000000/\cA A w (rs.drop i) r/\Below w.heap.size w wr/\gk=m-i)
 case atStart=>exact⟨0,f,rfl,qd _,HV0,HSZ.o,HR0.o,qn _ _,rfl⟩
 case round=>
  obtain⟨i,r,rfl,hi,HV,hsr,hrr,hB,hgk⟩:=hrel;have HB:=qa hB;have HGK:=qa hgk;have HRR:=qa hrr;clear hB hgk hrr HR0 HV0 HSZ;by_cases hlt:i<m
  ·have qcB:=fun W=>HIX.o W i hlt
   obtain⟨y,oj,nj,cj,j,r',hre,ht,hrr,hcc⟩:=HW.o.next HRR.o hlt HB.o;subst hre;have hv:=HV.o;rw[xX]at hv;rw[szF]at hsr;have HSR:Hid (szF r'<=1000000):=qa (by omega);have HCW:=qa hcc;have qcF:=qa hrr;have HBX:=qa (dX wr y (.slice oj nj cj));have hbn:=aD wr (.cells (tmA y (.slice oj nj cj)) 55);have HBA:=qa (HB.o.trans (hbn.mono HB.o.size));have HNU:=qa (q9h (A:=A) 1000001 (x:=y) (by omega) (ht.up HBA.o));clear hrr hcc HIX HRR HB hbn ht hsr HV;obtain⟨ykd,yn,ya,yb,yc,yd,ylo,yhi⟩:=y;rcases hq:L1 ⟨ykd,yn,ya,yb,yc,yd,ylo,yhi⟩ (tJ j)with _|_
   ·rw[hq,qv (by decide)]at hv
    rw[hq]at HNU;have HV2:=qa hv;clear hv hq
    go_wp2_with(first
     |(refine eA rfl (.tmp 10) rfl b (off+i*8) rfl ykd yn ya yb yc yd ylo yhi (.slice oj nj cj) HCW.o ?_)
     |(refine dC rfl (.tmp 4) rfl wr.heap.size rfl ykd yn ya yb yc yd ylo yhi (.slice oj nj cj) HBX.o ?_)
     |((with_reducible refine HNU.o.mono ?_);rintro e w5 ⟨rfl,hx⟩;have HB5:=qa (HBA.o.trans ((aI hx).mono HBA.o.size));clear hx))
    all_goals
     go_roundg (m-(i+1))
     case measure=>have:=HGK.o;omega
     case rel=>exact⟨i+1,r',by go_num,by omega,HV2,HSR.o,qcF.o,HB5.o,rfl⟩
   rw[hq,qw rfl]at hv;rw[hq]at HNU;have HV2:=qa hv;clear hv hq
   go_wp2_with(first
    |(refine eA rfl (.tmp 10) rfl b (off+i*8) rfl ykd yn ya yb yc yd ylo yhi (.slice oj nj cj) HCW.o ?_)
    |(refine dC rfl (.tmp 4) rfl wr.heap.size rfl ykd yn ya yb yc yd ylo yhi (.slice oj nj cj) HBX.o ?_)
    |((with_reducible refine HNU.o.mono ?_);rintro e w5 ⟨rfl,hx⟩;have HB5:=qa (HBA.o.trans ((aI hx).mono HBA.o.size));clear hx))
   all_goals
    go_ret;rw[<-HV2.o];exact⟨rfl,aJ HB5.o⟩
  have hr0:=HRR.o.done (by rw[HW.o.len];omega);subst hr0;have hv:=HV.o;rw[xX]at hv;have HV2:=qa hv;clear HV hv;go_wp2;go_ret;rw[<-HV2.o];exact⟨rfl,aJ HB.o⟩
def q9q(A:Nat->Prop)(q:Bool)(f:Fo)(w:World)(e:Ending)(w':World):Prop:=∃u,e=.returned (.tuple #[u,.bool q])/\(q=true->bA (upA A w.heap.size) w' u f)/\Below w.heap.size w w'
theorem qaG {A : Nat → Prop} {w : World} {v : Value} {f : Fo} (c : Nat) (hcb : c < 256) (h : bA A w v f) (hg : eI f) (hs : fH f = true) (qjV : cnt f ≤ 1000) : Calls prog 21 #[v, .int .u8 (c : Int)] w (q9q A (fH (eM c f)) (eM c f) w) := by
  obtain ⟨rs, oa, cap, b, off, rfl, hd, hw⟩ := h.lt.walk
  have HIX := qa (fE hd)
  have HW := qa hw
  have hm := hd.len
  obtain ⟨A0, hA0⟩ : ∃ A0, A0 = fun b => A b ∧ b < w.heap.size := ⟨_, rfl⟩
  rw [← hA0] at HW
  have HR0 : Hid (cA A0 w (rs.drop 0) f) := qa HW.o.rows
  have HA1 : Hid (∀ b, A0 b → A b ∧ b < w.heap.size) := qa (fun b hb => by rw [hA0] at hb; exact hb)
  obtain ⟨D, hD⟩ : ∃ D, D = eM c f := ⟨_, rfl⟩
  rw [← hD]
  have HV0 : Hid (iE .nil (eM c f) = D) := qa hD.symm
  have HC0 : Hid (cnt D ≤ 1000) := qa (by rw [hD, sA]; exact qjV)
  have HQ0 : Hid (fH D = fH (eM c f)) := qa (by rw [hD])
  generalize fH D = Q at *
  have HGF := qa hg
  have HSF := qa hs
  generalize cnt f = m at *
  clear hd hw h hA0 hD hg hs
  go_enter func21, ntmps21
  go_wp2
  go_loopg [6, 12] m (fun gk ov iv wr => ∃ (i : Nat) (acc r : Fo), iv = .int .i64 i ∧ i ≤ m ∧ pF A0 wr w.heap.size 55 ov acc ∧ Hid (iE acc (eM c r) = D) ∧ Hid (Q = fH (eM c r)) ∧ eI r ∧ fH r = true ∧ cA A0 w (rs.drop i) r ∧ Below w.heap.size w wr ∧ gk = m - i)
  case atStart => exact ⟨0, .nil, f, rfl, qd _, pF.nil _ _ _ _, HV0, HQ0, HGF.o, HSF.o, HR0.o, qn _ _, rfl⟩
  case round =>
    obtain ⟨i, acc, r, rfl, hi, hO, HV, HQ, hgr, hsr, hrr, hB, hgk⟩ := hrel
    have HB := qa hB
    have HO := qa hO
    have HGK := qa hgk
    have HRR := qa hrr
    have HGR := qa hgr
    have HSR := qa hsr
    clear hB hgk hrr hO hgr hsr HR0 HGF HSF HV0 HQ0
    by_cases hlt : i < m
    · have qcB := fun W => HIX.o W i hlt
      obtain ⟨y, oj, nj, cj, j, r', hre, ht, hrr, hcc⟩ := HW.o.next HRR.o hlt HB.o
      subst hre
      have hgt := cC HGR.o
      have qhh := qa hgt.2
      have hsy := HSR.o
      rw [fH, qK, jn] at hsy
      have qgZ := qa hsy.2
      have HCW := qa hcc
      have qcF := qa hrr
      have HBX := qa (dX wr y (.slice oj nj cj))
      have hbn := aD wr (.cells (tmA y (.slice oj nj cj)) 55)
      have HBA := qa (HB.o.trans (hbn.mono HB.o.size))
      have HT := qa (ht.up HBA.o)
      have HO2 := qa (HO.o.up hbn)
      have HBY := qa (qbm c hcb 400 (qb _) A0 _ y (.slice oj nj cj) j hsy.1 hgt.1 HT.o)
      have hsd := B9 c y j hsy.1
      have hq := HQ.o
      have HV2 : Hid (iE (iE acc (one (nQ c y j (eM c j)) .nil)) (eM c r') = D) := qa (by rw [i8, ← HV.o, eM]; rfl)
      rw [eM, one, fH] at hq
      generalize nQ c y j (eM c j) = d1 at *
      obtain ⟨⟨dk, dn, da, db, dc, dd, dl, dh⟩, df⟩ := d1
      have qdq : Hid (cnt acc + cnt (.cons ⟨dk, dn, da, db, dc, dd, dl, dh⟩ df .nil) ≤ 1000000000) := qa (by have h := HC0.o; rw [← HV2.o, gX, gX] at h; simp only [cnt, one] at *; omega)
      have HSZ := qa (fun (A' : Nat → Prop) (W : World) (u : Value) (hT : bA A' W u df) => q5b (A := A') 400000 (w := W) (x := ⟨dk, dn, da, db, dc, dd, dl, dh⟩) (u := u) (by change 1 + szF df ≤ _ at hsd; omega) (by decide) hT)
      simp only at hq
      clear hrr hcc HIX HRR HB HO hbn ht hgt hsy HGR HSR HV HQ HT hsd
      obtain ⟨ykd, yn, ya, yb, yc, yd, ylo, yhi⟩ := y
      generalize 1 + szF df = S at *
      by_cases hs4 : 400 < S
      · have hqf : Q = false := by rw [hq]; simp; omega
        subst hqf
        clear hq
        go_wp2_with (first
          | (refine eA rfl (.tmp 14) rfl b (off + i * 8) rfl ykd yn ya yb yc yd ylo yhi (.slice oj nj cj) HCW.o ?_)
          | (refine dC rfl (.tmp 8) rfl wr.heap.size rfl ykd yn ya yb yc yd ylo yhi (.slice oj nj cj) HBX.o ?_)
          | ((with_reducible refine HBY.o.mono ?_); rintro e w6 ⟨u6, rfl, hT6, hb⟩; obtain ⟨p6, n6, k6, hu6, -⟩ := hT6.form; subst hu6; have hAF := HO2.o.after (fun b hb => (HA1.o b hb).2) HBA.o.size hT6
             have ha := aD w6 (.cells (tmA ⟨dk, dn, da, db, dc, dd, dl, dh⟩ (.slice p6 n6 k6)) 55)
             have HAF := qa (hAF.up ha); have HX6 := qa (dX w6 ⟨dk, dn, da, db, dc, dd, dl, dh⟩ (.slice p6 n6 k6)); have HO6 := qa ((HO2.o.up hb).up ha); have hb6 := HBA.o.trans (hb.mono HBA.o.size); have HB6 := qa (hb6.trans (ha.mono hb6.size)); clear hb hT6 hAF ha hb6)
          | ((with_reducible refine (HSZ.o _ _ _ HAF.o).mono ?_); rintro e w7 ⟨rfl, hx⟩
             have hb7 := aI hx
             have HX7 := qa (HX6.o.up hb7)
             have HB7 := qa (HB6.o.trans (hb7.mono HB6.o.size))
             have hb2 := aD w7 (.cells (tmA ⟨dk, dn, da, db, dc, dd, dl, dh⟩ (.slice p6 n6 k6)) 55)
             have HX := qa (xY w7 ⟨dk, dn, da, db, dc, dd, dl, dh⟩ (.slice p6 n6 k6))
             have HN := qa (cA.single (x := ⟨dk, dn, da, db, dc, dd, dl, dh⟩) ((HAF.o.up hb7).up hb2))
             have HO7 := qa ((HO6.o.up hb7).up hb2)
             have HBB := qa (HB7.o.trans (hb2.mono HB7.o.size))
             clear hx hb7 hb2)
          | (refine dC rfl (.tmp 9) rfl w6.heap.size rfl dk dn da db dc dd dl dh (.slice p6 n6 k6) HX7.o ?_)
          | (at_builtin; refine fQ rfl (.tmp 22) (.tmp 24) rfl A0 w.heap.size _ acc rfl HO7.o _ rfl _ _ HX.o HN.o qdq.o HBB.o.size ?_; intro v5 w5 hO hg hq hk5; have HO5 := qa hO; have HB5 := qa (HBB.o.grown hg HBB.o.size hq); clear hO hg hq hk5))
        all_goals
          go_ret2
          refine ⟨_, rfl, ?_, HB7.o⟩
          intro h
          exact absurd h (by decide)
      · have HQ2 : Hid (Q = fH (eM c r')) := qa (by rw [hq]; simp; omega)
        clear hq
        go_wp2_with (first
          | (refine eA rfl (.tmp 14) rfl b (off + i * 8) rfl ykd yn ya yb yc yd ylo yhi (.slice oj nj cj) HCW.o ?_)
          | (refine dC rfl (.tmp 8) rfl wr.heap.size rfl ykd yn ya yb yc yd ylo yhi (.slice oj nj cj) HBX.o ?_)
          | ((with_reducible refine HBY.o.mono ?_); rintro e w6 ⟨u6, rfl, hT6, hb⟩; obtain ⟨p6, n6, k6, hu6, -⟩ := hT6.form; subst hu6; have hAF := HO2.o.after (fun b hb => (HA1.o b hb).2) HBA.o.size hT6
             have ha := aD w6 (.cells (tmA ⟨dk, dn, da, db, dc, dd, dl, dh⟩ (.slice p6 n6 k6)) 55)
             have HAF := qa (hAF.up ha); have HX6 := qa (dX w6 ⟨dk, dn, da, db, dc, dd, dl, dh⟩ (.slice p6 n6 k6)); have HO6 := qa ((HO2.o.up hb).up ha); have hb6 := HBA.o.trans (hb.mono HBA.o.size); have HB6 := qa (hb6.trans (ha.mono hb6.size)); clear hb hT6 hAF ha hb6)
          | ((with_reducible refine (HSZ.o _ _ _ HAF.o).mono ?_); rintro e w7 ⟨rfl, hx⟩
             have hb7 := aI hx
             have HX7 := qa (HX6.o.up hb7)
             have HB7 := qa (HB6.o.trans (hb7.mono HB6.o.size))
             have hb2 := aD w7 (.cells (tmA ⟨dk, dn, da, db, dc, dd, dl, dh⟩ (.slice p6 n6 k6)) 55)
             have HX := qa (xY w7 ⟨dk, dn, da, db, dc, dd, dl, dh⟩ (.slice p6 n6 k6))
             have HN := qa (cA.single (x := ⟨dk, dn, da, db, dc, dd, dl, dh⟩) ((HAF.o.up hb7).up hb2))
             have HO7 := qa ((HO6.o.up hb7).up hb2)
             have HBB := qa (HB7.o.trans (hb2.mono HB7.o.size))
             clear hx hb7 hb2)
          | (refine dC rfl (.tmp 9) rfl w6.heap.size rfl dk dn da db dc dd dl dh (.slice p6 n6 k6) HX7.o ?_)
          | (at_builtin; refine fQ rfl (.tmp 22) (.tmp 24) rfl A0 w.heap.size _ acc rfl HO7.o _ rfl _ _ HX.o HN.o qdq.o HBB.o.size ?_; intro v5 w5 hO hg hq hk5; have HO5 := qa hO; have HB5 := qa (HBB.o.grown hg HBB.o.size hq); clear hO hg hq hk5))
        go_roundg (m - (i + 1))
        case measure => have := HGK.o; omega
        case rel => exact ⟨i + 1, _, r', by go_num, by omega, HO5.o, HV2, HQ2, qhh.o, qgZ.o, qcF.o, HB5.o, rfl⟩
    · have hr0 := HRR.o.done (by rw [HW.o.len]; omega)
      subst hr0
      have he : acc = D := by rw [← HV.o, eM, nI]
      have hq : Q = true := HQ.o
      subst hq
      have HTA := qa HO.o.tms
      rw [he] at HTA
      clear HV HQ he
      go_wp2
      all_goals
        go_ret2
        exact ⟨_, rfl, fun _ => HTA.o.mono (fun b hb => hb.imp (fun h => (HA1.o b h).1) id), HB.o⟩
end Go.Cm
namespace Go.Cm
open Go.RowKit Go.Proofs Go.Maps
def q5S(mb:Nat)(pre:List Ed)(f:Fo)(N:Nat)(w:World)(e:Ending)(w':World):Prop:=
 ∃u news,e=.returned u/\aU fZ (pre++gA f)=aU fZ pre++news/\news.length<=szF f/\eL 4 w' w.heap.size 53 u (news.map pI)/\vK prog 53 w' mb ((aU fZ (pre++gA f)).map kv) (N+szF f)/\w.grownBy w' (some mb)
theorem vK.le{P:Program}{K:TypeId}{w:World}{b n n':Nat}{ks:List Value}(h:vK P K w b ks n)(hn:n<=n'):vK P K w b ks n':=by
 obtain⟨d,rfl⟩:=Nat.le.dest hn;clear hn
 induction d with
 |zero=>exact h
 |succ d ih=>exact ih.more
theorem sL{m:Nat}{w W:World}(h:w.grownBy W (some m)):q3r m w W:=⟨h.size,fun b hb hne=>h.block b hb (fun e=>hne (qr e))⟩
theorem fJ{m:Nat}{w W W':World}{row:Option Nat}(h:w.grownBy W (some m))(hg:W.grownBy W' row)(hr:∀k,row=some k->k=m\/w.heap.size<=k):w.grownBy W' (some m):=by
 obtain⟨a1,a2,a3,a4,a5⟩:=h;obtain⟨b1,b2,b3,b4,b5⟩:=hg
 exact⟨b1.trans a1,b2.trans a2,b3.trans a3,qc a4 b4,fun i hi hne=>(b5 i (qe hi a4) (fun e=>by
  rcases hr i e.symm with h1|h1
  ·exact hne (by rw[h1])
  omega)).trans (a5 i hi hne)⟩
theorem eL.keepm{k B E m:Nat}{w w':World}{v:Value}{l:List (List Value)}(h:eL k w B E v l)(hg:w.grownBy w' (some m))(hm:m<B):eL k w' B E v l:=h.keep hg (by
 rcases hv:v.ownBlock with _|q
 ·exact .inl rfl
 exact .inr (by intro hh;injection hh with hh;have:=(h.lt q hv).1;omega))
theorem zG(l:List Ed):∀u∈(l.map pI).flatten,u.oneCell'=true:=by
 intro u hu;obtain⟨c,hc,hu⟩:=List.mem_flatten.1 hu;obtain⟨e,-,rfl⟩:=List.mem_map.1 hc;simp only[pI,jM,List.not_mem_nil,or_false]at hu;rcases hu with rfl|rfl|rfl|rfl<;>rfl
theorem qaJ {A : Nat → Prop} (mb : Nat) (hA : ¬ A mb) : ∀ (n : Nat) {w : World} {v : Value} {f : Fo} {pre : List Ed} {N : Nat}, szF f < n → N + szF f ≤ 1000000 → bA A w v f → AS EdW f → vK prog 53 w mb ((aU fZ pre).map kv) N →
    Calls prog 19 #[v, .map (some mb)] w (q5S mb pre f N w) := by
  intro n
  induction n with
  | zero => intro w v f pre N h; omega
  | succ n ih =>
    intro w v f pre N hn hM h hE hmp
    obtain ⟨rs, oa, cap, b, off, rfl, hd, hw⟩ := h.walk
    have HIX := qa (fE hd)
    have HW := qa hw
    have hm := hd.len
    have hbm : 0 < cnt f → b ≠ mb := fun h0 e => hA (e ▸ h.ina hd h0)
    have HBM := qa hbm
    have HR0 : Hid (cA A w (rs.drop 0) f) := qa hw.rows
    have HMP := qa hmp
    have HMB := qa hmp.lt
    have HE := qa hE
    have HSZ := qa hM
    have HN := qa hn
    have HIH : Hid (∀ (W : World) (v' : Value) (g : Fo) (p : List Ed) (M : Nat), szF g < n → M + szF g ≤ 1000000 → bA A W v' g → AS EdW g → vK prog 53 W mb ((aU fZ p).map kv) M → Calls prog 19 #[v', .map (some mb)] W (q5S mb p g M W)) := qa (fun W v' g p M h1 h2 h3 h4 h5 => ih h1 h2 h3 h4 h5)
    obtain ⟨sz, hsz⟩ : ∃ sz, sz = szF f := ⟨_, rfl⟩
    have HSF : Hid (szF f = sz) := qa hsz.symm
    generalize cnt f = m at *
    clear hd hw h ih hE hmp hM hn hbm hsz
    go_enter func19, ntmps19
    go_wp2
    go_loopg [5, 10] m (fun gk ov iv wr => ∃ (i N' : Nat) (don acc : List Ed) (r : Fo), iv = .int .i64 i ∧ i ≤ m ∧ eL 4 wr w.heap.size 53 ov (acc.map pI) ∧ Hid (aU fZ (pre ++ don) = aU fZ pre ++ acc) ∧ Hid (don ++ gA r = gA f) ∧ acc.length + szF r ≤ sz ∧ AS EdW r ∧ vK prog 53 wr mb ((aU fZ (pre ++ don)).map kv) N' ∧ N' + szF r ≤ N + sz ∧ cA A w (rs.drop i) r ∧ w.grownBy wr (some mb) ∧ gk = m - i)
    case atStart => exact ⟨0, N, [], [], f, rfl, qd _, eL.nil _ _ _ _, qa (by simp), qa rfl, by have := HSF.o; simp only [qO]; omega, HE.o, by rw [j7]; exact HMP.o, by have := HSF.o; omega, HR0.o, dL _ _, rfl⟩
    case round =>
      obtain ⟨i, N', don, acc, r, rfl, hi, hO, HP, HV, hal, hE, hmp, hNs, hrr, hB, hgk⟩ := hrel
      have HB := qa hB
      have HO := qa hO
      have HGK := qa hgk
      have HRR := qa hrr
      have HEE := qa hE
      have HMM := qa hmp
      have HAL := qa hal
      have HNS := qa hNs
      clear hB hgk hrr HR0 hE hmp hal hNs hO HMP HE
      by_cases hlt : i < m
      · have qcB := fun W => HIX.o W i hlt
        obtain ⟨y, oj, nj, cj, j, r', hre, ht, hrr, hcc⟩ := HW.o.nextS HRR.o hlt (sL HB.o) (HBM.o (by omega))
        subst hre
        have hee := gI.1 HEE.o
        have HE1 := qa hee.1
        have HE2 := qa hee.2.1
        have HE3 := qa hee.2.2
        have HCW := qa hcc
        have qcF := qa hrr
        have HBX := qa (dX wr y (.slice oj nj cj))
        have hbn := aD wr (.cells (tmA y (.slice oj nj cj)) 55)
        have HOB := qa (fun q e => (HO.o.lt q e).2)
        have HWR : Hid (w.heap.size ≤ wr.heap.size) := qa HB.o.size
        have HBA := qa (fJ HB.o (aK hbn none) (fun k e => by cases e))
        have HT := qa ht
        have HO2 := qa (HO.o.up hbn)
        have HM2 := qa (HMM.o.up hbn)
        clear hrr hcc HIX HRR HB HO hbn ht hee HEE HMM
        by_cases h1 : y.kd = 1
        · obtain ⟨ykd, yn, ya, yb, yc, yd, ylo, yhi⟩ := y
          simp only at h1
          subst h1
          go_upto_region 6 with (first | (refine eA rfl (.tmp 12) rfl b (off + i * 8) rfl 1 yn ya yb yc yd ylo yhi (.slice oj nj cj) HCW.o ?_))
          generalize wr.alloc (.cells (tmA ⟨1, yn, ya, yb, yc, yd, ylo, yhi⟩ (.slice oj nj cj)) 55) = wy at *
          have HM7 : Hid (vK prog 53 wy.drew mb ((aU fZ (pre ++ don)).map kv) N') := qa (HM2.o.up (gQ (qn _ _)))
          have qfL : Hid (∃ c : Int, ∃ ks', qb7 prog 53 63 wy.drew mb ((aU fZ (pre ++ don)).map kv) N' (.agg #[.int .u64 ya, .int .u64 yb, .int .u64 yc, .int .u64 yd]) c ks' ∧ 0 ≤ c ∧ c ≤ N' ∧ ((c = 0 ∧ ks' = (aU fZ (pre ++ (don ++ [dM ⟨1, yn, ya, yb, yc, yd, ylo, yhi⟩ 0]))).map kv ∧ aU fZ (pre ++ (don ++ [dM ⟨1, yn, ya, yb, yc, yd, ylo, yhi⟩ 0])) = aU fZ (pre ++ don) ++ [dM ⟨1, yn, ya, yb, yc, yd, ylo, yhi⟩ 0]) ∨ (1 ≤ c ∧ ks' = (aU fZ (pre ++ (don ++ [dM ⟨1, yn, ya, yb, yc, yd, ylo, yhi⟩ 0]))).map kv ∧ aU fZ (pre ++ (don ++ [dM ⟨1, yn, ya, yb, yc, yd, ylo, yhi⟩ 0])) = aU fZ (pre ++ don)))) := qa (by
            obtain ⟨lk, hk⟩ := q5P (x := dM ⟨1, yn, ya, yb, yc, yd, ylo, yhi⟩ 0) (HE1.o rfl)
            rw [← qk, dN]
            by_cases hm : fZ (dM ⟨1, yn, ya, yb, yc, yd, ylo, yhi⟩ 0) ∈ (aU fZ (pre ++ don)).map fZ
            · rw [qw hm]
              obtain ⟨c, h1, h2, h3⟩ := q8G vN underlying63 (fun w => pH w) hk HM7.o (q2G.2 hm)
              exact ⟨c, _, h3, by omega, h2, .inr ⟨h1, rfl, rfl⟩⟩
            · rw [qv hm]
              have h3 := q8F vN underlying63 (fun w => pH w) hk HM7.o (fun h => hm (q2G.1 h))
              exact ⟨0, _, h3, by omega, by omega, .inl ⟨rfl, by rw [qH]; rfl, rfl⟩⟩)
          obtain ⟨c, ks', qfg, hc0, hcN, qdA⟩ := qfL.o
          obtain ⟨st, w1', w2', i1, i2, i3, i4, i5, g1, g2, hm2⟩ := qfg.step
          have HG1 := qa g1
          have HG2 := qa g2
          have HMM := qa hm2
          have HCS := qa qdA
          have HCB : Hid (c ≤ 1000000) := qa (by have := HSZ.o; have := HNS.o; have := HSF.o; omega)
          have hcb := HCB.o
          have qhv : Hid (kH wy.drew wr.heap.size (tmC ⟨1, yn, ya, yb, yc, yd, ylo, yhi⟩ (.slice oj nj cj))) := qa (HBX.o.up (gQ (qn _ _)))
          have HPM : Hid (some mb ≠ some wr.heap.size) := qa (by intro hh; injection hh with hh; have := HMB.o; have := HWR.o; omega)
          have HQD : Hid (∀ w', wy.drew.grownBy w' (some mb) → ∀ c, c < 4 → w'.cell? ⟨wr.heap.size, 1 + c, none⟩ = some ((#[.int .u64 ya, .int .u64 yb, .int .u64 yc, .int .u64 yd] : Array Value).getD c undef)) := qa (by
            intro w' hg c hc
            have hb := qhv.o.keep hg (.inr (fun e => HPM.o e.symm))
            have hk := fun q (hq : q < 8) => hb.cell (i := q) hq
            rcases (show c = 0 ∨ c = 1 ∨ c = 2 ∨ c = 3 by omega) with rfl | rfl | rfl | rfl
            · exact hk 1 (by decide)
            · exact hk 2 (by decide)
            · exact hk 3 (by decide)
            · exact hk 4 (by decide))
          clear qfL qfg hm2 qdA g1 g2 HM7 HM2
          refine cL (fun w' => w' = wy.drew ∨ w' = w1') [0,1,2,3,4] [5,6] [7] (by kernel_rfl) (by kernel_rfl) (.inl rfl) ?_
          simp only [pk]
          repeat (first
            | (go_big_quiet_want; refine cB 53 4 _ rfl wr.heap.size 1 rfl #[.int .u64 ya, .int .u64 yb, .int .u64 yc, .int .u64 yd] rfl (fun w' hw' => HQD.o w' (by rcases hw' with rfl | rfl; exact dL _ _; exact HG1.o)) _ underlying53 rfl (by kernel_rfl) ?_; go_simp; go_big_quiet_on)
            | (go_big_quiet_want; refine N4 63 _ _ rfl (.map (some mb)) (.agg #[.int .u64 ya, .int .u64 yb, .int .u64 yc, .int .u64 yd]) (.int .i64 c) rfl rfl (fun w' hw' => by rcases hw' with rfl | rfl; exact i2; exact i3) ?_; go_simp; go_big_quiet_on)
            | go_big_quiet_step (fail))
          refine wpQuiet_nil ?_
          (unfold aF; go_wp2; refine ⟨.inr rfl, ?_⟩)
          (unfold aF; go_wp2; refine ⟨.inr rfl, ?_⟩)
          unfold aF
          have hdr : wy.grownBy wy.drew none := aK (gQ (qn _ _)) none
          have HB7 := qa (fJ (fJ HBA.o hdr (fun k e => by cases e)) HG2.o (fun k e => .inl (qr e).symm))
          have HO7 := qa ((HO2.o.up (gQ (qn _ _))).keepm HG2.o HMB.o)
          have HX7 := qa (qhv.o.keep HG2.o (.inr (fun e => HPM.o e.symm)))
          have QC2 := qa (HQD.o w2' HG2.o)
          have c7 : w2'.cell? ⟨wr.heap.size, 7, none⟩ = some (.slice oj nj cj) := HX7.o.cell (i := 7) (show (7 : Nat) < 8 by decide)
          have n7 : wr.heap.size < w2'.heap.size := (HX7.o.lt _ rfl).2
          have HT7 := qa (HT.o.stay (sL HB7.o) hA)
          clear HQD HG1 qhv hdr HBA HO2 HBX
          rcases HCS.o with ⟨rfl, h2, h3⟩ | ⟨h1, h2, h3⟩
          · subst h2
            have HP3 : Hid (aU fZ (pre ++ (don ++ [dM ⟨1, yn, ya, yb, yc, yd, ylo, yhi⟩ 0])) = aU fZ pre ++ (acc ++ [dM ⟨1, yn, ya, yb, yc, yd, ylo, yhi⟩ 0])) := qa (by rw [h3, HP.o, qk])
            rw [show (0 : Int) + 1 = 1 from rfl] at i4 i5
            (unfold aF; go_wp2; refine ⟨trivial, ?_⟩)
            unfold aF
            have HV2 : Hid ((don ++ [dM ⟨1, yn, ya, yb, yc, yd, ylo, yhi⟩ 0] ++ gA j) ++ gA r' = gA f) := qa (by rw [← HV.o, gA, qw rfl]; simp)
            have hb1 := HN.o
            have hb2 := HSF.o
            have hb3 := HAL.o
            have hb4 := HNS.o
            have hb5 := HSZ.o
            rw [szF] at hb3 hb4
            have HCL := qa (fun W hT hM => HIH.o W (.slice oj nj cj) j (pre ++ (don ++ [dM ⟨1, yn, ya, yb, yc, yd, ylo, yhi⟩ 0])) (N' + 1) (by omega) (by omega) hT HE2.o hM)
            have HN3 : Hid (N' + 1 + szF j + szF r' ≤ N + sz) := qa (by omega)
            have HL3 : Hid (acc.length + 1 + szF j + szF r' ≤ sz ∧ sz ≤ 1000000) := qa (by omega)
            have hl7 := aD w2' (.cells #[.int .u64 ya, .int .u64 yb, .int .u64 yc, .int .u64 yd] 53)
            have HX1 : Hid (SlK 4 (w2'.alloc (.cells #[.int .u64 ya, .int .u64 yb, .int .u64 yc, .int .u64 yd] 53)) (.slice (some ⟨w2'.heap.size, 0, none⟩) 1 1) ([dM ⟨1, yn, ya, yb, yc, yd, ylo, yhi⟩ 0].map pI)) := qa (tD 4 w2' #[.int .u64 ya, .int .u64 yb, .int .u64 yc, .int .u64 yd] 53 ([dM ⟨1, yn, ya, yb, yc, yd, ylo, yhi⟩ 0].map pI) rfl (pJ _) (show (1 : Nat) ≤ 4294967296 by decide))
            have HO7 := qa (HO7.o.up hl7)
            have HB7 := qa (fJ HB7.o (aK hl7 none) (fun k e => by cases e))
            have HX7 := qa (HX7.o.up hl7)
            have HM7 := qa (HMM.o.up hl7)
            clear hb1 hb2 hb3 hb4 hb5 HP HAL HNS HE1 HE2 HIH HMM HV h3 hl7 HT7
            go_wp2_with (first
              | (refine aH rfl 53 _ rfl wr.heap.size 1 4 rfl _ _ QC2.o rfl underlying53 rfl (by kernel_rfl) ?_)
              | (at_builtin; refine eP 4 rfl (.tmp 29) (.tmp 32) 61 rfl w.heap.size 53 (.agg #[.int .u64 0, .int .u64 0, .int .u64 0, .int .u64 0]) 32 underlying61 (by kernel_rfl) rfl (by decide) (by decide) _ (acc.map pI) rfl HO7.o _ ([dM ⟨1, yn, ya, yb, yc, yd, ylo, yhi⟩ 0].map pI) rfl HX1.o (pJ _) (zG _) (by rw [qB, qB]; have := HL3.o; simp only [qE]; omega) HB7.o.size ?_; intro v4 w4 hO hg hk5; have HO8 : Hid (eL 4 w4 w.heap.size 53 v4 ((acc ++ [dM ⟨1, yn, ya, yb, yc, yd, ylo, yhi⟩ 0]).map pI)) := qa (by rw [qH]; exact hO)
                 have HB8 := qa (fJ HB7.o hg (fun k e => .inr (HO7.o.lt k e).1))
                 have HM8 := qa (HM7.o.keep hg (fun e => by have := (HO7.o.lt _ e.symm).1; have := HMB.o; omega))
                 have HT8 := qa (HT.o.stay (sL HB8.o) hA)
                 have hx8 := HX7.o.keep hg (.inr (fun e => by have := HOB.o _ e.symm; simp only at this; omega))
                 have c78 : w4.cell? ⟨wr.heap.size, 7, none⟩ = some (.slice oj nj cj) := hx8.cell (i := 7) (show (7 : Nat) < 8 by decide)
                 have n78 : wr.heap.size < w4.heap.size := (hx8.lt _ rfl).2
                 clear hO hg hk5 hx8)
              | ((with_reducible refine (HCL.o _ HT8.o HM8.o).mono ?_); rintro e w6 ⟨u6, nw, rfl, hp, hln, hO6, hM6, hg6⟩
                 have HO9 := qa (HO8.o.keepm hg6 HMB.o)
                 have HX6 := qa hO6.sl
                 have HM6 := qa hM6
                 have HG6 := qa (fJ HB8.o hg6 (fun k e => .inl (qr e).symm))
                 have HPN : Hid (aU fZ (pre ++ (don ++ [dM ⟨1, yn, ya, yb, yc, yd, ylo, yhi⟩ 0] ++ gA j)) = aU fZ pre ++ (acc ++ [dM ⟨1, yn, ya, yb, yc, yd, ylo, yhi⟩ 0] ++ nw)) := qa (by rw [← qk, hp, HP3.o, qk])
                 have HLN := qa hln
                 clear hp hln hO6 hM6 hg6)
              | (at_builtin; refine eP 4 rfl (.tmp 34) (.tmp 38) 61 rfl w.heap.size 53 (.agg #[.int .u64 0, .int .u64 0, .int .u64 0, .int .u64 0]) 32 underlying61 (by kernel_rfl) rfl (by decide) (by decide) _ ((acc ++ [dM ⟨1, yn, ya, yb, yc, yd, ylo, yhi⟩ 0]).map pI) rfl HO9.o u6 (nw.map pI) rfl HX6.o (pJ _) (zG _) (by rw [qB, qB, qj]; have := HLN.o; have := HL3.o; simp only [qE]; omega) HG6.o.size ?_; intro v5 w5 hO hg hk5; have HO5 : Hid (eL 4 w5 w.heap.size 53 v5 ((acc ++ [dM ⟨1, yn, ya, yb, yc, yd, ylo, yhi⟩ 0] ++ nw).map pI)) := qa (by rw [qH]; exact hO)
                 have HB5 := qa (fJ HG6.o hg (fun k e => .inr (HO9.o.lt k e).1))
                 have HM5 := qa (HM6.o.keep hg (fun e => by have := (HO9.o.lt _ e.symm).1; have := HMB.o; omega))
                 clear hO hg hk5))
            go_roundg (m - (i + 1))
            case measure => have := HGK.o; omega
            case rel => exact ⟨i + 1, N' + 1 + szF j, don ++ [dM ⟨1, yn, ya, yb, yc, yd, ylo, yhi⟩ 0] ++ gA j, acc ++ [dM ⟨1, yn, ya, yb, yc, yd, ylo, yhi⟩ 0] ++ nw, r', by go_num, by omega, HO5.o, HPN, HV2, by have := HLN.o; have := HL3.o; rw [qj, qj, qE]; omega, HE3.o, by rw [← qk]; exact HM5.o, HN3.o, qcF.o, HB5.o, rfl⟩
          · have d1 : decide (c + 1 = 1) = false := by simp; omega
            subst h2
            have HP3 : Hid (aU fZ (pre ++ (don ++ [dM ⟨1, yn, ya, yb, yc, yd, ylo, yhi⟩ 0])) = aU fZ pre ++ acc) := qa (h3.trans HP.o)
            (unfold aF; go_wp2; refine ⟨trivial, ?_⟩)
            unfold aF
            have HV2 : Hid ((don ++ [dM ⟨1, yn, ya, yb, yc, yd, ylo, yhi⟩ 0] ++ gA j) ++ gA r' = gA f) := qa (by rw [← HV.o, gA, qw rfl]; simp)
            have hb1 := HN.o
            have hb2 := HSF.o
            have hb3 := HAL.o
            have hb4 := HNS.o
            have hb5 := HSZ.o
            rw [szF] at hb3 hb4
            have HCL := qa (HIH.o _ (.slice oj nj cj) j (pre ++ (don ++ [dM ⟨1, yn, ya, yb, yc, yd, ylo, yhi⟩ 0])) (N' + 1) (by omega) (by omega) HT7.o HE2.o HMM.o)
            have HN3 : Hid (N' + 1 + szF j + szF r' ≤ N + sz) := qa (by omega)
            have HL3 : Hid (acc.length + szF j + szF r' ≤ sz ∧ sz ≤ 1000000) := qa (by omega)
            clear hb1 hb2 hb3 hb4 hb5 HP HAL HNS HE1 HE2 HIH HT HMM HV h3
            go_wp2_with (first
              | (refine aH rfl 53 _ rfl wr.heap.size 1 4 rfl _ _ QC2.o rfl underlying53 rfl (by kernel_rfl) ?_)
              | ((with_reducible refine HCL.o.mono ?_); rintro e w6 ⟨u6, nw, rfl, hp, hln, hO6, hM6, hg6⟩
                 have HO8 := qa (HO7.o.keepm hg6 HMB.o)
                 have HX6 := qa hO6.sl
                 have HM6 := qa hM6
                 have HG6 := qa (fJ HB7.o hg6 (fun k e => .inl (qr e).symm))
                 have HPN : Hid (aU fZ (pre ++ (don ++ [dM ⟨1, yn, ya, yb, yc, yd, ylo, yhi⟩ 0] ++ gA j)) = aU fZ pre ++ (acc ++ nw)) := qa (by rw [← qk, hp, HP3.o, qk])
                 have HLN := qa hln
                 clear hp hln hO6 hM6 hg6)
              | (at_builtin; refine eP 4 rfl (.tmp 34) (.tmp 38) 61 rfl w.heap.size 53 (.agg #[.int .u64 0, .int .u64 0, .int .u64 0, .int .u64 0]) 32 underlying61 (by kernel_rfl) rfl (by decide) (by decide) _ (acc.map pI) rfl HO8.o u6 (nw.map pI) rfl HX6.o (pJ _) (zG _) (by rw [qB, qB]; have := HLN.o; have := HL3.o; omega) HG6.o.size ?_; intro v5 w5 hO hg hk5; have HO5 : Hid (eL 4 w5 w.heap.size 53 v5 ((acc ++ nw).map pI)) := qa (by rw [qH]; exact hO)
                 have HB5 := qa (fJ HG6.o hg (fun k e => .inr (HO8.o.lt k e).1))
                 have HM5 := qa (HM6.o.keep hg (fun e => by have := (HO8.o.lt _ e.symm).1; have := HMB.o; omega))
                 clear hO hg hk5))
            go_roundg (m - (i + 1))
            case measure => have := HGK.o; omega
            case rel => exact ⟨i + 1, N' + 1 + szF j, don ++ [dM ⟨1, yn, ya, yb, yc, yd, ylo, yhi⟩ 0] ++ gA j, acc ++ nw, r', by go_num, by omega, HO5.o, HPN, HV2, by have := HLN.o; have := HL3.o; rw [qj]; omega, HE3.o, by rw [← qk]; exact HM5.o, HN3.o, qcF.o, HB5.o, rfl⟩
        · have HV2 : Hid ((don ++ gA j) ++ gA r' = gA f) := qa (by rw [← HV.o, gA, qv h1, qk]; rfl)
          have hb1 := HN.o
          have hb2 := HSF.o
          have hb3 := HAL.o
          have hb4 := HNS.o
          have hb5 := HSZ.o
          rw [szF] at hb3 hb4
          have HCL := qa (HIH.o _ (.slice oj nj cj) j (pre ++ don) N' (by omega) (by omega) (HT.o.stay (sL HBA.o) hA) HE2.o HM2.o)
          have HN3 : Hid (N' + szF j + szF r' ≤ N + sz) := qa (by omega)
          have HL3 : Hid (acc.length + szF j + szF r' ≤ sz ∧ sz ≤ 1000000) := qa (by omega)
          have HP2 := qa HP.o
          clear hb1 hb2 hb3 hb4 hb5 HP HAL HNS HE1 HE2 HIH HT HM2 HV
          obtain ⟨ykd, yn, ya, yb, yc, yd, ylo, yhi⟩ := y
          simp only at h1
          have q1 : (ykd == 1) = false := beq_eq_false_iff_ne.2 h1
          clear h1
          go_wp2_with (first
            | (refine eA rfl (.tmp 12) rfl b (off + i * 8) rfl ykd yn ya yb yc yd ylo yhi (.slice oj nj cj) HCW.o ?_)
            | ((with_reducible refine HCL.o.mono ?_); rintro e w6 ⟨u6, nw, rfl, hp, hln, hO6, hM6, hg6⟩
               have HO7 := qa (HO2.o.keepm hg6 HMB.o)
               have HX6 := qa hO6.sl
               have HM6 := qa hM6
               have HG6 := qa (fJ HBA.o hg6 (fun k e => .inl (qr e).symm))
               have HPN : Hid (aU fZ (pre ++ (don ++ gA j)) = aU fZ pre ++ (acc ++ nw)) := qa (by rw [← qk, hp, HP2.o, qk])
               have HLN := qa hln
               clear hp hln hO6 hM6 hg6)
            | (at_builtin; refine eP 4 rfl (.tmp 34) (.tmp 38) 61 rfl w.heap.size 53 (.agg #[.int .u64 0, .int .u64 0, .int .u64 0, .int .u64 0]) 32 underlying61 (by kernel_rfl) rfl (by decide) (by decide) _ (acc.map pI) rfl HO7.o u6 (nw.map pI) rfl HX6.o (pJ _) (zG _) (by rw [qB, qB]; have := HLN.o; have := HL3.o; omega) HG6.o.size ?_; intro v5 w5 hO hg hk5; have HO5 : Hid (eL 4 w5 w.heap.size 53 v5 ((acc ++ nw).map pI)) := qa (by rw [qH]; exact hO)
               have HB5 := qa (fJ HG6.o hg (fun k e => .inr (HO7.o.lt k e).1))
               have HM5 := qa (HM6.o.keep hg (fun e => by have := (HO7.o.lt _ e.symm).1; have := HMB.o; omega))
               clear hO hg hk5))
          go_roundg (m - (i + 1))
          case measure => have := HGK.o; omega
          case rel => exact ⟨i + 1, N' + szF j, don ++ gA j, acc ++ nw, r', by go_num, by omega, HO5.o, HPN, HV2, by have := HLN.o; have := HL3.o; rw [qj]; omega, HE3.o, by rw [← qk]; exact HM5.o, HN3.o, qcF.o, HB5.o, rfl⟩
      · have hr0 := HRR.o.done (by rw [HW.o.len]; omega)
        subst hr0
        have hv : don = gA f := by rw [← HV.o, gA, j7]
        subst hv
        go_wp2
        go_ret
        exact ⟨_, acc, rfl, HP.o, by have := HAL.o; have := HSF.o; omega, HO.o, HMM.o.le (by have := HNS.o; have := HSF.o; omega), HB.o⟩
def kB(l:List Ed)(c:Nat):List Nat:=l.map fun x=>if pB x c then 1 else 0
def kSd(l:List Ed)(c:Nat):Value:=.string (pX (kB l c))
theorem qbu(l:List Ed)(c:Nat):By8 (kB l c):=by
 intro n hn;obtain⟨x,-,rfl⟩:=List.mem_map.1 hn;split<;>decide
theorem q8J{l:List Ed}{a b:Nat}:kB l a=kB l b↔iJ l a=iJ l b:=by
 unfold kB iJ
 induction l with
 |nil=>simp
 |cons x l ih=>
  simp only[qJ,List.cons.injEq,ih]
  constructor
  ·rintro⟨h1,h2⟩
   exact⟨by revert h1;cases pB x a<;>cases pB x b<;>simp,h2⟩
  rintro⟨h1,h2⟩;exact⟨by rw[h1],h2⟩
theorem q5X{l:List Ed}{a b:Nat}:kSd l a=kSd l b↔iJ l a=iJ l b:=by
 unfold kSd
 constructor
 ·intro h
  injection h with h;exact q8J.1 (U6 (qbu l a) (qbu l b) h)
 intro h;rw[q8J.2 h]
theorem qaL{l:List Ed}{F:List Nat}{c:Nat}:kSd l c∈F.map (kSd l)↔iJ l c∈F.map (iJ l):=by
 simp only[jB];exact⟨fun⟨a,ha,h⟩=>⟨a,ha,q5X.1 h⟩,fun⟨a,ha,h⟩=>⟨a,ha,q5X.2 h⟩⟩
theorem q5Y{l:List Ed}{c:Nat}(hc:c<256){F:List Nat}(hF:aU (iJ l) (iI.take c)=F):
  (∃i,(F.map (kSd l))[i]? =some (kSd l c)/\aU (iJ l) (iI.take (c+1))=F/\gH l c=i)\/(kSd l c∉F.map (kSd l)/\aU (iJ l) (iI.take (c+1))=F++[c]/\gH l c=F.length):=by
 have hcl:c<iI.length:=by rw[nG];exact hc
 unfold gH;by_cases hm:iJ l c∈F.map (iJ l)
 ·left
  have h1:=eJ hm;have h2:=f8 hm;rw[qB]at h1;rw[jx]at h2;have hq:F.getD (idx (F.map (iJ l)) (iJ l c)) 0=F[idx (F.map (iJ l)) (iJ l c)]:=by simp[List.getD,h1]
  have h3:=D1 (f:=iJ l) (l:=iI) (z:=0) hcl (uY hc) hF h1 (fun a ha e=>by
   have hal:a<F.length:=by omega
   have:=U2 (F.map (iJ l)) a (iJ l c) (by rw[qU,qy hal,jP,<-e];simp[List.getD,hal]);unfold idx at ha;omega) (by rw[hq];exact h2)
  refine⟨_,?_,h3.1,h3.2⟩;rw[qU,qy h1,jP,q5X.2 h2]
 right
 have h3:=q06 (f:=iJ l) (l:=iI) (z:=0) hcl (uY hc) hF (fun a ha e=>hm (by rw[<-e];exact je (cE _ _ _ ha)));exact⟨fun h=>hm (qaL.1 h),h3.1,h3.2⟩
def q40(l:List Ed):List Int:=nl (iI.map (gH l))
theorem zH(l:List Ed):(q40 l).length=256:=by simp[q40,iI]
def qaM(l:List Ed)(w:World)(en:Ending)(w':World):Prop:=
 ∃vf,en=.returned (.tuple #[.agg (ints (q40 l)).toArray,vf])/\Own w' w.heap.size 5 vf (bvN (d8 l))/\Below w.heap.size w w'
def q2H(l:List Ed)(c:Nat)(cl:List Int):Prop:=cl.length=256/\∀q,q<c->cl.getD q 0=(gH l q:Nat)
theorem N7{l:List Ed}{c k:Nat}{cl:List Int}(h:q2H l c cl)(hc:c<256)(hk:gH l c=k):q2H l (c+1) (cl.set c (k:Int)):=by
 refine⟨by rw[jb];exact h.1,fun q hq=>?_⟩;by_cases hqc:q=c
 ·subst hqc
  rw[cU (by rw[h.1];exact hc),hk]
 rw[d6 (fun e=>hqc e.symm),h.2 q (by omega)]
theorem q3D{l:List Ed}{cl:List Int}(h:q2H l 256 cl):cl=q40 l:=by
 refine jV (by rw[h.1,zH]) fun i h1 h2=>?_;have h3:=h.2 i (by rw[zH]at h2;exact h2);rw[qu,qy h1,qN]at h3;rw[h3];simp[q40,nl,iI]
theorem q9y(l:List Ed)(x:Ed)(c:Nat):kB (l++[x]) c=kB l c++[(X6 x c).toNat]:=by
 unfold kB;rw[qH,qJ,ju,V6];rcases V7 x c with h|h<;>rw[h]<;>rfl
theorem q8K(l:List Ed)(c:Nat):(kB l c).length=l.length:=by simp[kB]
theorem q5Z {w : World} {v : Value} {l : List Ed} (h : SlK 4 w v (l.map pI)) (hl : l.length ≤ 1000000) : Calls prog 18 #[v] w (qaM l w) := by
  obtain ⟨ou, cu, bu, fu, rfl, hdu, hcu⟩ := h
  rw [qB] at hdu hcu ⊢
  have hz := zF
  obtain ⟨Z, hZ⟩ : ∃ Z, Z = q8H := ⟨_, rfl⟩
  rw [← hZ] at hz
  obtain ⟨O, hO⟩ : ∃ O : List Int, O = List.replicate 256 0 := ⟨_, rfl⟩
  have HOL : Hid (O.length = 256) := qa (by rw [hO]; exact qP)
  have hb1 := qa5 w Z hZ
  have hb2 := qa5 (w.alloc (.cells Z 25)) Z hZ
  rw [show (w.alloc (.cells Z 25)).heap.size = w.heap.size + 1 by simp] at hb2
  rw [← hO] at hb1 hb2
  have HB2 := qa (hb2.up (aD _ (.map #[] 0)))
  have HB1 := qa ((hb1.up (aD _ (.cells Z 25))).up (aD _ (.map #[] 0)))
  have HM0 : Hid (wH prog 9 (((w.alloc (.cells Z 25)).alloc (.cells Z 25)).alloc (.map #[] 0)) (w.heap.size + 2) []) := qa (by
    have := wH.made prog 9 ((w.alloc (.cells Z 25)).alloc (.cells Z 25))
    simpa using this)
  have HA : Hid (Below w.heap.size w (((w.alloc (.cells Z 25)).alloc (.cells Z 25)).alloc (.map #[] 0))) := qa aO
  have HS : Hid (w.heap.size + 3 ≤ (((w.alloc (.cells Z 25)).alloc (.cells Z 25)).alloc (.map #[] 0)).heap.size) := qa (by simp)
  have qfe := mJ (P := prog) 4 61 53 underlying61 (by kernel_rfl) hdu
  have HCU : Hid (∀ i, i < l.length → ∀ c, c < 4 → w.cell? ⟨bu, fu + i * 4 + c, none⟩ = some ((#[.int .u64 (l.getD i cY).a, .int .u64 (l.getD i cY).b, .int .u64 (l.getD i cY).c, .int .u64 (l.getD i cY).d] : Array Value).getD c undef)) := qa (fun i hi c hc => by
    rw [hcu i hi c hc]
    have e1 : (l.map pI).getD i [] = pI (l.getD i cY) := by simp [List.getD, hi]
    rw [e1]
    unfold pI
    simp [List.getD, qS])
  have HBU : Hid (0 < l.length → bu < w.heap.size) := qa (fun h0 => hdu.hblk h0)
  have hmm := @run_makeMap prog
  have hmu := hdu.len
  obtain ⟨N, hN⟩ : ∃ N, N = l.length := ⟨_, rfl⟩
  have HN := qa hN
  rw [← hN] at qfe HCU HBU hmu hl ⊢
  clear hdu hcu hb1 hb2 hZ hO hN
  go_enter func18, ntmps18
  go_wp2
  generalize ((w.alloc (.cells Z 25)).alloc (.cells Z 25)).alloc (.map #[] 0) = w3 at *
  clear hmm hz
  go_loopg [5, 14] 256 (fun gk fv cv wr => ∃ (c : Nat) (cl : List Int) (F : List Nat), cv = .int .i64 c ∧ c ≤ 256 ∧ Own wr (w.heap.size + 3) 5 fv (bvN F) ∧ Hid (aU (iJ l) (iI.take c) = F) ∧ sU wr 25 256 (w.heap.size + 1) cl ∧ q2H l c cl ∧ wH prog 9 wr (w.heap.size + 2) (F.map (kSd l)) ∧ sU wr 25 256 w.heap.size O ∧ Below w.heap.size w wr ∧ w.heap.size + 3 ≤ wr.heap.size ∧ gk = 256 - c)
  case atStart => exact ⟨0, O, [], rfl, qd _, Own.nil _ _ _, qa rfl, HB2.o, ⟨HOL.o, fun q hq => by omega⟩, HM0.o, HB1.o, HA.o, HS.o, rfl⟩
  case round =>
    obtain ⟨c, cl, F, rfl, hc, hO, HF, hbx, hcl, hmp, hbo, hbl, hsz, rfl⟩ := hrel
    have HO := qa hO
    have HBX := qa hbx
    have HCL := qa hcl
    have HMP := qa hmp
    have HBO := qa hbo
    have HBL := qa hbl
    have HSZ := qa hsz
    clear hO hbx hcl hmp hbo hbl hsz HB1 HB2 HM0 HA HS
    by_cases qcM : c < 256
    · have d0 : decide ((c : Int) < 256) = true := qz (by omega)
      have qk0 : c % 64 < 64 := jW _ (by decide)
      have qkg : c / 64 < 4 := by omega
      have h1 := R9
      go_wp2
      generalize wr = wo at *
      go_loopg [8, 19] N (fun gk bv iv wr => ∃ i : Nat, iv = .int .i64 i ∧ i ≤ N ∧ Own wr wo.heap.size 5 bv (bvN (kB (l.take i) c)) ∧ Below wo.heap.size wo wr ∧ gk = N - i)
      case atStart => exact ⟨0, rfl, qd _, Own.nil _ _ _, qn _ _, rfl⟩
      case round =>
        obtain ⟨i, rfl, hi, hOb, hbl, rfl⟩ := hrel
        have HOB := qa hOb
        have HBW := qa hbl
        clear hOb hbl
        by_cases hlt : i < N
        · have hbb := HBU.o (by omega)
          have qcB : ∀ W, (Instr.indexAt 61 (.slice ou N cu) (.int .i64 i)).run prog W = .ok (.pointer (some ⟨bu, fu + i * 4, none⟩)) W := fun W => by simpa using qfe W .i64 i (by omega) (by omega)
          have HCD : Hid (∀ q, q < 4 → wr.cell? ⟨bu, fu + i * 4 + q, none⟩ = some ((#[.int .u64 (l.getD i cY).a, .int .u64 (l.getD i cY).b, .int .u64 (l.getD i cY).c, .int .u64 (l.getD i cY).d] : Array Value).getD q undef)) := qa (fun q hq => by
            rw [HBW.o.cell (p := ⟨bu, fu + i * 4 + q, none⟩) (by have := HBL.o.size; simp only; omega), HBL.o.cell (p := ⟨bu, fu + i * 4 + q, none⟩) hbb]
            exact HCU.o i hlt q hq)
          obtain ⟨x, hx⟩ : ∃ x, x = l.getD i cY := ⟨_, rfl⟩
          have HTK : Hid (l.take (i + 1) = l.take i ++ [x]) := qa (by rw [hx]; exact aV l i cY (by have := HN.o; omega))
          rw [← hx] at HCD
          have hqq : (wr.alloc (.cells #[.int .u64 x.a, .int .u64 x.b, .int .u64 x.c, .int .u64 x.d] 53)).cell? ⟨wr.heap.size, c / 64, none⟩ = some (.int .u64 (mG x (c / 64))) := by
            rw [World.cell?_alloc_new]
            unfold mG
            rcases (show c / 64 = 0 ∨ c / 64 = 1 ∨ c / 64 = 2 ∨ c / 64 = 3 by omega) with e | e | e | e <;> rw [e] <;> rfl
          have HBN : Hid (mG x (c / 64) / 2 ^ (c % 64) % 2 = X6 x c) := qa rfl
          generalize mG x (c / 64) = v at *
          clear hx
          have hz0 : 0 ≤ v / 2 ^ (c % 64) % 2 ∧ v / 2 ^ (c % 64) % 2 < 256 := by have h1 := Int.emod_nonneg (v / 2 ^ (c % 64)) (show (2 : Int) ≠ 0 by decide); have h2 := Int.emod_lt_of_pos (v / 2 ^ (c % 64)) (show (0 : Int) < 2 by decide); omega
          have hs1 : (wr.alloc (.cells #[.int .u64 x.a, .int .u64 x.b, .int .u64 x.c, .int .u64 x.d] 53)).heap.size = wr.heap.size + 1 := by simp
          have HL0 := rG (wr.alloc (.cells #[.int .u64 x.a, .int .u64 x.b, .int .u64 x.c, .int .u64 x.d] 53)) (v / 2 ^ (c % 64) % 2) hz0
          rw [hs1, HBN.o] at HL0
          rw [HBN.o] at hz0
          have HKS : Hid (kB (l.take (i + 1)) c = kB (l.take i) c ++ [(X6 x c).toNat]) := qa (by rw [HTK.o]; exact q9y _ _ _)
          have HLE : Hid ((bvN (kB (l.take i) c)).length + (bvN [(X6 x c).toNat]).length ≤ 4294967296) := qa (by rw [kO, kO, q8K, qX]; simp only [qE]; omega)
          have hlb : Below wr.heap.size wr ((wr.alloc (.cells #[.int .u64 x.a, .int .u64 x.b, .int .u64 x.c, .int .u64 x.d] 53)).alloc (.cells #[.int .u8 (X6 x c)] 5)) := aO
          have HO4 := qa (HOB.o.up hlb)
          have HB4 := qa (HBW.o.trans (hlb.mono HBW.o.size))
          have HS4 : Hid (wo.heap.size ≤ ((wr.alloc (.cells #[.int .u64 x.a, .int .u64 x.b, .int .u64 x.c, .int .u64 x.d] 53)).alloc (.cells #[.int .u8 (X6 x c)] 5)).heap.size) := qa HB4.o.size
          have HL := qa HL0
          have hpw : wr.heap.size < (wr.alloc (.cells #[.int .u64 x.a, .int .u64 x.b, .int .u64 x.c, .int .u64 x.d] 53)).heap.size := by omega
          clear hlb HL0 HTK hs1 hz0 HOB HBW
          generalize (X6 x c) = bt at *
          go_wp2_with (first
            | (refine aH rfl 53 _ rfl bu (fu + i * 4) 4 rfl _ _ HCD.o rfl underlying53 rfl (by kernel_rfl) ?_)
            | (at_builtin; rw [HBN.o]; refine bF rfl (.tmp 23) (.tmp 34) 58 rfl wo.heap.size 5 (.int .u8 0) 1 underlying58 (by kernel_rfl) rfl (by decide) _ _ rfl HO4.o _ _ rfl HL.o.sl (by intro u hu; simp only [bvN, qJ, ju, jg] at hu; subst hu; rfl) HLE.o HS4.o ?_; intro v5 w5 hown1 hg1 hk1; have HO5 := qa hown1; have HB5 := qa (HB4.o.grown hg1 HS4.o (fun q e => (HO4.o.lt q e).1)); clear hown1 hg1 hk1))
          go_roundg (N - (i + 1))
          case measure => omega
          case rel => exact ⟨i + 1, by go_num, by omega, by rw [HKS.o, xD]; exact HO5.o, HB5.o, rfl⟩
        · have hie : i = N := by omega
          subst hie
          have htk : l.take i = l := qG (by have := HN.o; omega)
          rw [htk] at HOB
          have HCV : Hid (∀ W v, Sl W v (bvN (kB l c)) → (convert 58 9 v).run prog W = .ok (.string (pX (kB l c))) W) := qa (fun W v hv => fW (P := prog) W 58 9 5 underlying58 underlying5 underlying9 v _ (by rw [xE (qbu l c)]; exact hv))
          have hcv := HCV.o wr _ HOB.o.sl
          have HLK : Hid (keyOf prog 9 (.string (pX (kB l c))) = some (.string (pX (kB l c)).data.toList)) := qa (U9 (kB l c) (by rw [q8K]; have := HN.o; omega))
          have HSP := qa (q5Y (l := l) qcM (F := F) HF.o)
          have HKV : Hid (kSd l c = .string (pX (kB l c))) := qa rfl
          have HBR := qa (HBL.o.trans (HBW.o.mono HBL.o.size))
          have HM7 := qa (HMP.o.up HBW.o)
          have HB7 := qa (HBX.o.up HBW.o)
          have HZ7 := qa (HBO.o.up HBW.o)
          have HO7 := qa (HO.o.up HBW.o)
          have HS7 := qa (qc HSZ.o HBW.o.size)
          have HBV := HOB
          have HWB := HBW
          have HWZ := HSZ
          clear htk HBL HMP HBX HBO HO HSZ HOB HBW
          have hcell : wr.cell? ⟨w.heap.size + 1, c, none⟩ = some (.int .i64 (cl.getD c 0)) := HB7.o.cell qcM
          have hfr : wr.frozen? ⟨w.heap.size + 1, c, none⟩ = false := HB7.o.free c
          have hpw : w.heap.size + 1 < wr.heap.size := HB7.o.lt
          generalize hky : pX (kB l c) = ky at *
          rw [HKV.o] at HSP
          rcases HSP.o with ⟨ix, hx1, hx2, hx3⟩ | ⟨hx1, hx2, hx3⟩
          · obtain ⟨e1, e2⟩ := HM7.o.lookOld eX underlying65 HLK.o hx1
            have HX2 := qa hx2
            have HX3 := qa hx3
            have HST := qa (HB7.o.set c ix)
            generalize cl.getD c 0 = y0 at *
            clear hx1 hx2 hx3
            go_wp2
            go_roundg (256 - (c + 1))
            case measure => omega
            case rel =>
              have hgs := HST.o.2
              exact ⟨c + 1, cl.set c ix, F, by go_num, by omega, HO7.o.keep hgs (.inr (fun e => by have := (HO7.o.lt _ e).1; omega)), qa HX2.o, HST.o.1, N7 HCL.o qcM HX3.o, HM7.o.keep hgs (by intro hh; injection hh with hh; omega), HZ7.o.keep hgs (by intro hh; injection hh with hh; omega), HBR.o.grown hgs HBR.o.size (fun k hk => by injection hk with hk; omega), qc HS7.o hgs.size, rfl⟩
          · have e1 := HM7.o.lookNew eX underlying65 (oL wr) HLK.o hx1
            obtain ⟨w8, e2, hm8, hg8⟩ := HM7.o.put eX underlying65 HLK.o hx1
            have hmap : F.map (kSd l) ++ [Value.string ky] = (F ++ [c]).map (kSd l) := by rw [qH, qJ, HKV.o]; rfl
            rw [qB] at e2
            rw [hmap] at hm8
            have HX2 := qa hx2
            have HX3 := qa hx3
            have HM8 := qa hm8
            have ql5 := qa (HBV.o.keep hg8 (.inr (fun e => by have h1 := (HBV.o.lt _ e).1; have h2 := HWZ.o; omega)))
            have qmi := HCV.o w8 _ ql5.o.sl
            have HB8 := qa (HB7.o.keep hg8 (by intro hh; injection hh with hh; omega))
            have HZ8 := qa (HZ7.o.keep hg8 (by intro hh; injection hh with hh; omega))
            have HO8 := qa (HO7.o.keep hg8 (.inr (fun e => by have := (HO7.o.lt _ e).1; omega)))
            have HR8 := qa (HBR.o.grown hg8 HBR.o.size (fun k hk => by injection hk with hk; omega))
            have HS8 := qa (qc HS7.o hg8.size)
            have HFL : Hid (F.length ≤ 256) := qa (by
              have := sE (iJ l) (iI.take c)
              rw [qX, nG, HF.o] at this
              omega)
            obtain ⟨oF, cF, gF, hfv, -⟩ := HO7.o.cases
            rw [kO] at hfv
            have hfl := HFL.o
            have hcm : (c : Int) % 256 = c := by omega
            have HLI := rG w8 (c : Int) (by omega)
            rw [qD] at HLI
            have HL := qa HLI
            have hb9 := aD w8 (.cells #[.int .u8 (c : Int)] 5)
            have HO9 := qa (HO8.o.up hb9)
            have HB9 := qa (HB8.o.up hb9)
            have HZ9 := qa (HZ8.o.up hb9)
            have HM9 := qa (HM8.o.up hb9)
            have HR9 := qa (HR8.o.trans (hb9.mono HR8.o.size))
            have HS9 := qa (qc HS8.o hb9.size)
            have HLE : Hid ((bvN F).length + (bvN [c]).length ≤ 4294967296) := qa (by rw [kO, kO]; simp only [qE]; omega)
            generalize cl.getD c 0 = y0 at *
            subst hfv
            clear hx1 hx2 hx3 hm8 hg8 hmap hb9 HLI hcell hfr hpw hcv
            have hcv := HCV.o wr _ HBV.o.sl
            go_wp2_with (first
              | (at_builtin; refine bF rfl (.tmp 52) (.tmp 55) 58 rfl (w.heap.size + 3) 5 (.int .u8 0) 1 underlying58 (by kernel_rfl) rfl (by decide) _ _ rfl HO9.o _ (bvN [c]) rfl HL.o.sl (by intro u hu; simp only [bvN, qJ, ju, jg] at hu; subst hu; rfl) HLE.o HS9.o ?_; intro v5 w5 hown1 hg1 hk1; have HO5 := qa hown1
                 have HB5 := qa (HB9.o.keep hg1 (fun e => by have := (HO9.o.lt _ e).1; omega))
                 have HZ5 := qa (HZ9.o.keep hg1 (fun e => by have := (HO9.o.lt _ e).1; omega))
                 have HM5 := qa (HM9.o.keep hg1 (fun e => by have := (HO9.o.lt _ e.symm).1; omega))
                 have HR5 := qa (HR9.o.grown hg1 HR9.o.size (fun q e => by have := (HO9.o.lt q e).1; omega))
                 have HS5 := qa (qc HS9.o hg1.size)
                 have hcell : w5.cell? ⟨w.heap.size + 1, c, none⟩ = _ := HB5.o.cell qcM
                 have hfr : w5.frozen? ⟨w.heap.size + 1, c, none⟩ = false := HB5.o.free c
                 have hpw : w.heap.size + 1 < w5.heap.size := HB5.o.lt
                 clear hown1 hg1 hk1))
            have HST := qa (HB5.o.set c F.length)
            go_roundg (256 - (c + 1))
            case measure => omega
            case rel =>
              have hgs := HST.o.2
              refine ⟨c + 1, cl.set c F.length, F ++ [c], by go_num, by omega, (by rw [xD]; exact HO5.o.keep hgs (.inr (fun e => by have := (HO5.o.lt _ e).1; omega))), qa HX2.o, HST.o.1, N7 HCL.o qcM HX3.o, HM5.o.keep hgs (by intro hh; injection hh with hh; omega), HZ5.o.keep hgs (by intro hh; injection hh with hh; omega), HR5.o.grown hgs HR5.o.size (fun k hk => by injection hk with hk; omega), qc HS5.o hgs.size, rfl⟩
    · have hce : c = 256 := by omega
      subst hce
      have htk : iI.take 256 = iI := qG (by rw [nG]; exact qb _)
      have HF2 : Hid (F = d8 l) := qa (by rw [← HF.o, htk]; rfl)
      have HCA := qa (q3D HCL.o)
      obtain ⟨B, hgB, hsB, hB⟩ := HBX.o.open
      have HBA : Hid (B = (ints (q40 l)).toArray) := qa (by rw [← HCA.o]; exact j0 List.toArray hB)
      clear hB htk
      go_wp2_with (first
        | (refine mZ rfl 25 256 _ rfl (w.heap.size + 1) rfl B hsB hgB _ underlying25 rfl (by kernel_rfl) ?_)
        | (refine iB rfl 25 256 _ _ rfl w.heap.size rfl O (q40 l) (j0 Value.agg HBA.o) (zH l) (by kernel_rfl) HBO.o ?_; intro w3 hb2 hg2; have HB4 := qa hb2; have HG2 := qa hg2; clear hb2 hg2))
      refine bS (s := 2) (b := 3) (ad := ⟨w.heap.size, 0, none⟩) (x := .agg (ints (q40 l)).toArray) rfl rfl rfl rfl (HB4.o.load _ underlying25 rfl (by kernel_rfl)) ?_
      refine ⟨_, rfl, ?_, HBL.o.grown HG2.o HBL.o.size (fun k hk => by injection hk with hk; omega)⟩
      rw [← HF2.o]
      exact (HO.o.keep HG2.o (.inr (fun e => by have := (HO.o.lt _ e).1; omega))).mono (by omega)
def kT(f:Fo):Value:=.string (pX (txF f))
theorem qaN{f g:Fo}(hf:eI f)(hg:eI g)(h:kT f=kT g):f=g:=by
 unfold kT at h;injection h with h;exact(T0 f g hf.okT hg.okT hf.2 hg.2 [] [] (by rw[U6 (E1 f hf.okT) (E1 g hg.okT) h])).1
structure MkD(A:Nat->Prop)(w:World)(B q m:Nat)(lv:Value)(vs:List Value)(R:List Fo):Prop where
 box:Own w B 68 (.slice (some ⟨q,0,none⟩) 2 2) [lv,.map (some m)]
 lists:Own w B 50 lv vs
 len:vs.length=R.length
 terms:∀i,i<R.length->bA A w (vs.getD i undef) (R.getD i .nil)
 map:wH prog 9 w m (R.map kT)
 ok:∀f∈R,eI f
 mB:B<=m
 qm:q≠m
 offQ:lv.ownBlock≠some q
 offM:lv.ownBlock≠some m
 low:∀b,A b->b<w.heap.size
 ap:∀b,A b->¬wG q m lv b
section
variable {A A' : Nat → Prop} {w w' : World} {B q m : Nat} {lv : Value} {vs : List Value} {R : List Fo}
theorem MkD.up(h:MkD A w B q m lv vs R)(hb:Below w.heap.size w w'):MkD A w' B q m lv vs R:=
 ⟨h.box.up hb,h.lists.up hb,h.len,fun i hi=>(h.terms i hi).up hb,h.map.up hb,h.ok,h.mB,h.qm,h.offQ,h.offM,fun b hA=>qe (h.low b hA) hb.size,h.ap⟩
theorem MkD.lt(h:MkD A w B q m lv vs R):∀k,wG q m lv k->B<=k/\k<w.heap.size:=fun k hk=>by
 rcases hk with rfl|rfl|hk
 ·exact h.box.lt _ rfl
 ·exact⟨h.mB,h.map.lt⟩
 exact h.lists.lt k hk
theorem MkD.gw{S S':Nat->Prop}(h:MkD A w B q m lv vs R)(hg:Gw S w S' w')(h1:∀k,S k->¬wG q m lv k)(h2:∀k,S k->¬A k):MkD A w' B q m lv vs R:=
 ⟨hg.own h.box (fun k hk hS=>h1 k hS (.inl (by injection hk with hk;exact hk.symm))),hg.own h.lists (fun k hk hS=>h1 k hS (.inr (.inr hk))),h.len,
  fun i hi=>(h.terms i hi).keep hg.size (fun b hA hlt=>hg.blk hlt (fun hS=>h2 b hS hA)),by
   have hlt:=h.map.lt;obtain⟨es,clock,hb,r⟩:=h.map;exact⟨es,clock,(hg.blk hlt (fun hS=>h1 m hS (.inr (.inl rfl)))).trans hb,r⟩,h.ok,h.mB,h.qm,h.offQ,h.offM,fun b hA=>qe (h.low b hA) hg.size,h.ap⟩
theorem MkD.wide(h:MkD A w B q m lv vs R)(hb:Below w.heap.size w w'):MkD (fun b=>upA A w.heap.size b/\b<w'.heap.size) w' B q m lv vs R:=by
 have h':=h.up hb;refine{h' with terms:=fun i hi=>(h'.terms i hi).mono fun b hA=>⟨.inl hA,h'.low b hA⟩,low:=fun b hA=>hA.2,ap:=fun b hA hk=>?_};rcases hA.1 with h1|h1
 ·exact h.ap b h1 hk
 have:=(h.lt b hk).2;omega
theorem MkD.c(h:MkD A w B q m lv vs R):w.cell? ⟨q,0,none⟩=some lv/\w.cell? ⟨q,1,none⟩=some (.map (some m))/\q<w.heap.size:=
 ⟨h.box.cell (i:=0) (by simp),h.box.cell (i:=1) (by simp),h.box.blk.2⟩
theorem qaO{f:Fo}(h:∀g∈R,eI g)(hf:eI f):kT f∈R.map kT↔f∈R:=by
 rw[jB];exact⟨fun⟨a,ha,e⟩=>qaN (h a ha) hf e▸ha,fun hL=>⟨f,hL,rfl⟩⟩
theorem qbv{f:Fo}(hm:f∈R):(R.map kT)[idx R f]? =some (kT f):=by
 have h1:=eJ hm;rw[qU,qy h1,f8 hm];rfl
end
theorem q2I{A:Nat->Prop}{w:World}{B q m:Nat}{lv:Value}{vs:List Value}{R:List Fo}(h:MkD A w B q m lv vs R){x:Value}{f:Fo}(hx:bA A w x f)(hf:eI f)(hs:szF f<=1000000)(hR:R.length<=1000000):
  Calls prog 20 #[.pointer (some ⟨q,0,none⟩),x] w fun e w'=>e=.returned (.int .i64 (idx (aQ R f) f:Nat))/\∃lv' vs',MkD A w' B q m lv' vs' (aQ R f)/\Gw (wG q m lv) w (wG q m lv') w':=by
 obtain⟨rs,oa,cap,b,off,rfl,hd,hw⟩:=hx.walk;have HIX:=qa (fE hd);have HW:=qa hw;have hn:=hd.len;have HXT:=qa hx;have HGF:=qa hf;have HM:=qa h;have HR0:Hid (cA A w (rs.drop 0) f):=qa hw.rows;have HOK:=qa hf.okT;have H8:Hid (By8 (txF f)):=qa (E1 f hf.okT);have HTL:Hid ((txF f).length<=37000000):=qa (by have:=q0c f;omega);have hRl:=hR;obtain⟨T,hT⟩:∃T,T=txF f:=⟨_,rfl⟩;have HT0:Hid ([]++txF f=T):=qa hT.symm;have HKV:Hid (kT f=.string (pX T)):=qa (by rw[hT];rfl);rw[<-hT]at H8 HTL;have HKEY:Hid (keyOf prog 9 (.string (pX T))=some (.string (pX T).data.toList)):=qa (U9 T (by have:=HTL.o;omega));have HSZ:=qa hs;have HCN:Hid (cnt f=cnt f):=qa rfl;obtain⟨N,hN⟩:∃N,N=cnt f:=⟨_,rfl⟩;rw[<-hN]at hn HIX HW⊢;rw[<-hN]at HXT;clear hd hw hx h hT hN HCN hf hs;go_enter func20,ntmps20;go_wp2
 go_loopg [5,12] N (fun gk sv iv wr=>∃(i:Nat) (acc:List Nat) (r:Fo),iv=.int .i64 i/\i<=N/\sv=.string (pX acc)/\Hid (acc++txF r=T)/\szF r<=1000000/\mM OkT r/\cA A w (rs.drop i) r/\Below w.heap.size w wr/\gk=N-i)
 case atStart=>exact⟨0,[],f,rfl,qd _,rfl,HT0,HSZ.o,HOK.o,HR0.o,qn _ _,rfl⟩
 case round=>
  obtain⟨i,acc,r,rfl,hi,rfl,HV,hsz,hok,hrr,hB,hgk⟩:=hrel;have HB:=qa hB;have HGK:=qa hgk;have HRR:=qa hrr;have HSR:=qa hsz;have HOR:=qa hok;clear hB hgk hrr hsz hok HR0 HSZ HOK HT0;by_cases hlt:i<N
  ·have qcB:=fun W=>HIX.o W i hlt
   obtain⟨y,oj,nj,cj,j,r',hre,ht,hrr,hcc⟩:=HW.o.next HRR.o hlt HB.o;subst hre;have HCW:=qa hcc;have qcF:=qa hrr;have HBX:=qa (dX wr y (.slice oj nj cj));have hbn:=aD wr (.cells (tmA y (.slice oj nj cj)) 55);have HBA:=qa (HB.o.trans (hbn.mono HB.o.size));obtain⟨o1,o2,o3⟩:=HOR.o;have qem:=qa o3;have hz1:=HSR.o;rw[szF]at hz1;have qcQ:Hid (szF r'<=1000000):=qa (by omega);have HTT:=qa (q8y (A:=A) 10000000 (w:=wr.alloc (.cells (tmA y (.slice oj nj cj)) 55)) (x:=y) (u:=.slice oj nj cj) (k:=j) (by omega) (by decide) o1 o2 (ht.up HBA.o));have HV2:Hid ((acc++txT y j)++txF r'=T):=qa (by rw[<-HV.o,q5c y j r'];simp only[qk]);have HL2:Hid (acc.length+(txT y j).length<=1000000000):=qa (by have h1:=HTL.o;have h2:=j0 List.length HV2.o;rw[qj,qj]at h2;omega);obtain⟨tx,htx⟩:∃tx,tx=txT y j:=⟨_,rfl⟩;rw[<-htx]at HTT HV2 HL2
   have qfl:∀W,(Op.stringOp .add (pX acc) (pX tx)).run prog W=.ok (.string (pX (acc++tx))) W:=fun W=>by
    have:=q60 (P:=prog) (acc.map UInt8.ofNat) (tx.map UInt8.ofNat) (by simp only[qB];have:=HL2.o;omega) W;rw[<-qH]at this;exact this
   clear hrr hcc HIX HRR HB hbn ht o1 o2 o3 hz1 HSR HV htx HOR;obtain⟨ykd,yn,ya,yb,yc,yd,ylo,yhi⟩:=y
   go_wp2_with(first
    |(refine eA rfl (.tmp 14) rfl b (off+i*8) rfl ykd yn ya yb yc yd ylo yhi (.slice oj nj cj) HCW.o ?_)
    |(refine dC rfl (.tmp 7) rfl wr.heap.size rfl ykd yn ya yb yc yd ylo yhi (.slice oj nj cj) HBX.o ?_)
    |((with_reducible refine HTT.o.mono ?_);rintro e w6 ⟨rfl,hb⟩;have HB6:=qa (HBA.o.trans (hb.mono HBA.o.size));clear hb))
   go_roundg (N-(i+1))
   case measure=>have:=HGK.o;omega
   case rel=>exact⟨i+1,_,r',by go_num,by omega,rfl,HV2,qcQ.o,qem.o,qcF.o,HB6.o,rfl⟩
  have hr0:=HRR.o.done (by rw[HW.o.len];omega);subst hr0;have HA:Hid (acc=T):=qa (by rw[<-HV.o,txF,j7]);rw[HA.o];have hHM:=HM.o.up HB.o;have HM7:=qa hHM;obtain⟨c0,c1,hq⟩:=hHM.c;have HX7:=qa (HXT.o.up HB.o);obtain⟨og,cg,gg,hlv,-⟩:=hHM.lists.cases;rw[hHM.len]at hlv;subst hlv;clear HRR HV HA HIX HW HM HXT hHM HOR HSR;have hRb:(R.length:Int)<9223372036854775807:=by omega
  by_cases qcx:f∈R
  ·have HNR:Hid (aQ R f=R):=qa (by unfold aQ;rw[qw qcx])
   have hat:=qbv qcx;rw[HKV.o]at hat;obtain⟨e1,e2⟩:=HM7.o.map.lookOld eX underlying65 HKEY.o hat;have hib:=eJ qcx;obtain⟨ix,hix⟩:∃ix,ix=idx R f:=⟨_,rfl⟩;rw[<-hix]at e1 e2 hib;have qld:=qa hix;clear hat qcx hix e2;go_wp2;go_ret;rw[HNR.o,<-qld.o];exact⟨rfl,_,_,HM7.o,d7 _ HB.o⟩
  have HNR:Hid (aQ R f=R++[f]):=qa (by unfold aQ;rw[qv qcx]);have HID:Hid (idx (aQ R f) f=R.length):=qa (by rw[HNR.o,cV qcx]);have hnk:Value.string (pX T)∉R.map kT:=by rw[<-HKV.o];exact fun h=>qcx ((qaO HM7.o.ok HGF.o).1 h)
  have e1:=HM7.o.map.lookNew eX underlying65 (oL wr) HKEY.o hnk;obtain⟨w8,e2,hm8,hg8⟩:=HM7.o.map.put eX underlying65 HKEY.o hnk;have hmap:R.map kT++[Value.string (pX T)]=(R++[f]).map kT:=by rw[qH,qJ,HKV.o];rfl
  rw[qB]at e2;rw[hmap]at hm8;have hM7:=HM7.o;have HM8:=qa hm8;have HG8:=qa hg8;have qfS:=qa (hM7.box.keep hg8 (.inr (fun e=>by injection e with e;exact hM7.qm e)));have qlb:=qa (hM7.lists.keep hg8 (.inr hM7.offM));have f0:=qfS.o.cell (i:=0) (by simp);have f1:=qfS.o.cell (i:=1) (by simp);simp only[ja,List.getD_cons_succ]at f0 f1;have hq8:=qfS.o.blk.2;have hlW:=qa (aD w8 (.cells #[.slice oa N cap] 50));have HSX:Hid (Sl (w8.alloc (.cells #[.slice oa N cap] 50)) (.slice (some ⟨w8.heap.size,0,none⟩) 1 1) [.slice oa N cap]):=qa (by simpa using eK w8 #[.slice oa N cap] 50 (by simp));have HT1:=qa (qlb.o.up hlW.out);have HVL:Hid ((vs++[Value.slice oa N cap]).length=R.length+1):=qa (by rw[qj,hM7.len];rfl);have HT3:Hid (vs.length+[Value.slice oa N cap].length<=4294967296):=qa (by rw[hM7.len];simp only[qE];omega);have HT4:Hid (B<=(w8.alloc (.cells #[.slice oa N cap] 50)).heap.size):=qa (by have:=qfS.o.blk;have:=hlW.out.size;omega);have f0a:=((hlW.out.cell (p:=⟨q,0,none⟩) hq8).trans f0);clear hnk hm8 hg8 hmap hM7 qcx
  go_wp2_with(at_builtin;refine bF rfl (.tmp 47) (.tmp 49) 66 rfl B 50 (.slice none 0 0) 24 underlying66 (by kernel_rfl) rfl (by decide) (.slice og R.length cg) vs rfl HT1.o (.slice (some ⟨w8.heap.size,0,none⟩) 1 1) [.slice oa N cap] rfl HSX.o (by simp[Value.oneCell']) HT3.o HT4.o ?_;intro v' w5 hown1 hg1 hk1;obtain⟨o5,c5,g5',rfl,-⟩:=hown1.cases;rw[HVL.o]at hown1 hk1⊢;have HO5:=qa hown1;have HG5:=qa hg1;have HK5:=qa hk1;clear hown1 hg1 hk1;have qcO:=qa ((qfS.o.up hlW.out).keep HG5.o (.inr (fun e=>HM7.o.offQ e.symm)));have g5:=qcO.o.free 0;have h5:=qcO.o.cell (i:=0) (by simp);have hq5:=qcO.o.blk.2)
  go_ret;have hst:=qcO.o.store 0 (.slice o5 (R.length+1) c5);have hM:=HM7.o;have qjZ:=HM8.o.lt;have hs8:=HG8.o.size;have hsl:=hlW.out.size
  have hoq:(Value.slice o5 (R.length+1) c5).ownBlock≠some q:=fun e=>by
   rcases HK5.o q e with h1|h1
   ·exact hM.offQ h1
   omega
  have hom:(Value.slice o5 (R.length+1) c5).ownBlock≠some m:=fun e=>by
   rcases HK5.o m e with h1|h1
   ·exact hM.offM h1
   omega
  have g1:Gw (wG q m (.slice og R.length cg)) wr (wG q m (.slice og R.length cg)) w8:=(dQ HG8.o (fun k hk=>.inr (.inl (by injection hk with hk;exact hk.symm))) (fun k hk=>.inl hk));have g2:=g1.up hlW.out
  have g3:Gw (wG q m (.slice og R.length cg)) (w8.alloc (.cells #[.slice oa N cap] 50)) (wG q m (.slice o5 (R.length+1) c5)) w5:=dQ HG5.o (fun k hk=>.inr (.inr hk)) (fun k hk=>by
   rcases hk with h|h|h
   ·exact .inl (.inl h)
   ·exact .inl (.inr (.inl h))
   exact(HK5.o k h).imp (fun e=>.inr (.inr e)) id)
  have g4:=(g2.trans g3).trans (dQ hst.2 (fun k hk=>.inl (by injection hk with hk;exact hk.symm)) (fun k hk=>.inl hk));rw[HID.o,HNR.o];have hkA:∀{v:Value} {f:Fo},bA A wr v f->bA A (w5.setCell ⟨q,0,none⟩ (.slice o5 (R.length+1) c5)) v f:=fun h=>h.keep g4.size (fun b hA hlt=>g4.blk hlt (fun hS=>hM.ap b hA hS));refine⟨rfl,_,vs++[.slice oa N cap],⟨hst.1,HO5.o.keep hst.2 (.inr hoq),by rw[HVL.o];simp,fun i hi=>?_,?_,fun g hg=>?_,hM.mB,hM.qm,hoq,hom,fun b hA=>qe (hM.low b hA) g4.size,fun b hA hk=>?_⟩,(d7 _ HB.o).trans g4⟩
  ·rw[qj,qE]at hi
   rcases Nat.lt_succ_iff_lt_or_eq.1 hi with h1|rfl
   ·rw[bC h1,bC (by rw[hM.len];exact h1)]
    exact hkA (hM.terms i h1)
   rw[cJ];have e:=cJ (l:=vs) (x:=Value.slice oa N cap) (d:=undef);rw[hM.len]at e;rw[e];exact hkA HX7.o
  ·exact((HM8.o.up hlW.out).keep HG5.o (fun e=>HM7.o.offM e.symm)).keep hst.2 (fun e=>hM.qm (by injection e with e;exact e.symm))
  ·rcases List.mem_append.1 hg with h1|h1
   ·exact hM.ok g h1
   rw[List.mem_singleton.1 h1];exact HGF.o
  rcases hk with h1|h1|h1
  ·exact hM.ap b hA (.inl h1)
  ·exact hM.ap b hA (.inr (.inl h1))
  rcases HK5.o b h1 with h2|h2
  ·exact hM.ap b hA (.inr (.inr h2))
  have:=hM.low b hA;omega
end Go.Cm
namespace Go.Cm
open Go.RowKit Go.Proofs Go.Maps
theorem q2N(L:List Ed):d8 (aU fZ L)=d8 L/\q40 (aU fZ L)=q40 L:=by
 have h:=rB (f:=iJ (aU fZ L)) (g:=iJ L) (l:=iI) (fun a _ b _=>by
  rw[rD,rD]
  constructor
  ·intro h x hx
   have:fZ x∈(aU fZ L).map fZ:=by rw[lF,dF];exact je hx
   obtain⟨y,hy,hk⟩:=List.mem_map.1 this;rw[<-zB hk,<-zB hk];exact h y hy
  exact fun h x hx=>h x (lG hx))
 refine⟨h.1,?_⟩;unfold q40;exact j0 nl (List.map_congr_left fun c hc=>h.2 c hc)
theorem V8:∀{f:Fo},mM OkT f->AS EdW f
 |.nil,_=>uZ
 |.cons _x _k _r,h=>gI.2 ⟨fun _=>h.1.2.2.1,V8 h.2.1,V8 h.2.2⟩
def MkA(A:Nat->Prop)(q m:Nat)(lv:Value)(k:Nat):Prop:=wG q m lv k\/A k
structure nV(A:Nat->Prop)(w:World)(B q m:Nat)(lv:Value)(vs:List Value)(R:List Fo)(g:Nat)(nv:Value)(nvs:List Value)(rv:Value)(cl:List Int)(rows:List (List Int))(rules:List Int):Prop where
 mkr:MkD A w B q m lv vs R
 db:DbN w B g nv nvs rv cl rows rules
 ap:∀k,MkA A q m lv k->¬DbF g nv nvs rv k
section
variable {A A' : Nat → Prop} {w w1 w2 w7 w8 : World} {B q m g : Nat} {lv lv' nv rv v' : Value} {vs vs' nvs : List Value} {R R' : List Fo} {cl : List Int} {rows : List (List Int)} {rules : List Int}
theorem MkD.ltA(h:MkD A w B q m lv vs R):∀k,MkA A q m lv k->k<w.heap.size:=fun k hk=>hk.elim (fun h1=>(h.lt k h1).2) (h.low k)
theorem nV.up(h:nV A w B q m lv vs R g nv nvs rv cl rows rules)(hb:Below w.heap.size w w1):nV A w1 B q m lv vs R g nv nvs rv cl rows rules:=⟨h.mkr.up hb,h.db.up hb,h.ap⟩
theorem nV.gw{S S':Nat->Prop}(h:nV A w B q m lv vs R g nv nvs rv cl rows rules)(hg:Gw S w S' w1)(h1:∀k,S k->¬MkA A q m lv k)(h2:∀k,S k->¬DbF g nv nvs rv k):nV A w1 B q m lv vs R g nv nvs rv cl rows rules:=
 ⟨h.mkr.gw hg (fun k hk hh=>h1 k hk (.inl hh)) (fun k hk hh=>h1 k hk (.inr hh)),h.db.gw hg h2,h.ap⟩
theorem nV.num(h:nV A w B q m lv vs R g nv nvs rv cl rows rules)(hb:Below w.heap.size w w7)(hm:MkD (fun b=>upA A w.heap.size b/\b<w7.heap.size) w8 B q m lv' vs' R')(hg:Gw (wG q m lv) w7 (wG q m lv') w8):
  nV (fun b=>upA A w.heap.size b/\b<w7.heap.size) w8 B q m lv' vs' R' g nv nvs rv cl rows rules/\∀k,k<w.heap.size->¬MkA A q m lv k->¬MkA (fun b=>upA A w.heap.size b/\b<w7.heap.size) q m lv' k:=by
 have hs:=hb.size
 have hk:∀k,k<w.heap.size->¬MkA A q m lv k->¬MkA (fun b=>upA A w.heap.size b/\b<w7.heap.size) q m lv' k:=fun k hk hn h1=>by
  rcases h1 with h1|h1
  ·rcases hg.sub k h1 with h2|h2
   ·exact hn (.inl h2)
   omega
  rcases h1.1 with h2|h2
  ·exact hn (.inr h2)
  omega
 exact⟨⟨hm,(h.db.up hb).gw hg (fun k hk=>h.ap k (.inl hk)),fun k h1 h2=>hk k (h.db.ltF k h2).2 (fun h3=>h.ap k h3 h2) h1⟩,hk⟩
theorem nV.pushRow(h:nV A w B q m lv vs R g nv nvs rv cl rows rules){row:Value}{x:List Int}(hr:Own w B 3 row (ints x))(hf:∀k,row.ownBlock=some k->¬DbF g nv nvs rv k/\¬MkA A q m lv k)(hb:Below w.heap.size w w1)(ho:Own w2 B 27 v' (nvs++[row]))(hg:w1.grownBy w2 nv.ownBlock)(hk:∀k,v'.ownBlock=some k->nv.ownBlock=some k\/w1.heap.size<=k):
  nV A (w2.setCell ⟨g,256,none⟩ v') B q m lv vs R g v' (nvs++[row]) rv cl (rows++[x]) rules/\Below B w (w2.setCell ⟨g,256,none⟩ v'):=by
 obtain⟨h1,h2⟩:=h.db.pushRow hr (fun k hk=>(hf k hk).1) hb ho hg hk;have hB:∀k,(DbF g nv nvs rv k\/row.ownBlock=some k)->B<=k/\k<w.heap.size:=fun k hk=>hk.elim (h.db.ltF k) (hr.lt k);refine⟨⟨h.mkr.gw h2 (fun k hk hm=>hk.elim (h.ap k (.inl hm)) (fun e=>(hf k e).2 (.inl hm))) (fun k hk hm=>hk.elim (h.ap k (.inr hm)) (fun e=>(hf k e).2 (.inr hm))),h1,fun k hm hd=>?_⟩,h2.below (by have:=(h.db.ltF g (.inl rfl));omega) fun k hk=>(hB k hk).1⟩;rcases h2.sub k hd with h3|h3
 ·rcases h3 with h3|h3
  ·exact h.ap k hm h3
  exact(hf k h3).2 hm
 have:=h.mkr.ltA k hm;omega
theorem nV.pushRule(h:nV A w B q m lv vs R g nv nvs rv cl rows rules){x:Int}(hb:Below w.heap.size w w1)(ho:Own w2 B 3 v' (ints (rules++[x])))(hg:w1.grownBy w2 rv.ownBlock)(hk:∀k,v'.ownBlock=some k->rv.ownBlock=some k\/w1.heap.size<=k):
  nV A (w2.setCell ⟨g,257,none⟩ v') B q m lv vs R g nv nvs v' cl rows (rules++[x])/\Below B w (w2.setCell ⟨g,257,none⟩ v'):=by
 obtain⟨h1,h2⟩:=h.db.pushRule hb ho hg hk;refine⟨⟨h.mkr.gw h2 (fun k hk hm=>h.ap k (.inl hm) hk) (fun k hk hm=>h.ap k (.inr hm) hk),h1,fun k hm hd=>?_⟩,h2.below (by have:=(h.db.ltF g (.inl rfl));omega) fun k hk=>(h.db.ltF k hk).1⟩;rcases h2.sub k hd with h3|h3
 ·exact h.ap k hm h3
 have:=h.mkr.ltA k hm;omega
theorem nV.keep{row:Option Nat}(h:nV A w B q m lv vs R g nv nvs rv cl rows rules)(hg:w.grownBy w1 row)(hr:∀k,row=some k->¬MkA A q m lv k/\¬DbF g nv nvs rv k):nV A w1 B q m lv vs R g nv nvs rv cl rows rules:=
 h.gw (dQ (S:=fun k=>row=some k) (S':=fun k=>row=some k) hg (fun _ hk=>hk) (fun _ hk=>.inl hk)) (fun k hk=>(hr k hk).1) (fun k hk=>(hr k hk).2)
end
end Go.Cm
namespace Go.Cm
open Go.RowKit Go.Proofs Go.Maps
noncomputable def V9(ll:List (List Nd)):Int:=if uC ll=0 then q8s (oK ll)else uC ll
noncomputable def q0x(ll:List (List Nd)):Dfa:=if uC ll=0 then q9d (oK ll)else J0
def q6e(d:Dfa)(e:Int)(w:World)(en:Ending)(w':World):Prop:=
 ∃v,en=.returned (.tuple #[v,.int .i64 e])/\mX w' v d/\Below w.heap.size w w'
theorem O0:∀{f g:Fo},fH f=true->fH g=true->fH (iE f g)=true
 |.nil,_,_,h=>h
 |.cons x k r,g,h1,h2=>by
  rw[fH,qK]at h1;show(decide (1+szF k<=400)&&fH (iE r g))=true;rw[qK];exact⟨h1.1,O0 h1.2 h2⟩
theorem O1{l:List Nd}(h:Chk l)(hq:∀x∈l,NdQ x):∃x k,kD l=.cons x k .nil/\gvT l=(x,k)/\mW (x,k)/\1+szF k<=400:=by
 obtain⟨x,k,h1,h2,h3⟩:=vB h hq;refine⟨x,k,h2,by unfold gvT;rw[qw h,h2];rfl,h3,?_⟩;have hl:=h.2.1;obtain⟨x',k',h1',-,-,-,-,h6⟩:=oV h;rw[sC];have e1:=j0 List.length h1;have e2:=j0 List.length h1';simp only[qA]at e1 e2;omega
theorem O2:∀{ll:List (List Nd)},(∀l∈ll,Chk l)->rC ll->fH (oK ll)=true
 |[],_,_=>rfl
 |l::r,h,hq=>by
  obtain⟨x,k,h1,-,-,h4⟩:=O1 (h l jh) (hq l jh);rw[oK,h1];refine O0 ?_ (O2 (ll:=r) (fun y hy=>h y (qY _ hy)) (fun y hy=>hq y (qY _ hy)));rw[fH,qK,jn];exact⟨h4,rfl⟩
theorem q6f{ll:List (List Nd)}{i:Nat}(hi:i<ll.length):oK (ll.drop i)=iE (kD (ll.getD i [])) (oK (ll.drop (i+1))):=by
 rw[jE hi,oK];simp[List.getD,hi]
theorem q6g {w : World} {v : Value} {ll : List (List Nd)} (h : gC w v ll) (hq : rC ll) : Calls prog 6 #[v] w (q6e (q0x ll) (V9 ll) w) := by
  have hz := vS
  have hzc := zF
  obtain ⟨ZC, hZC⟩ : ∃ ZC, ZC = q8H := ⟨_, rfl⟩
  rw [← hZC] at hzc
  have HBZ : Hid (∀ w : World, sU (w.alloc (.cells ZC 25)) 25 256 w.heap.size (List.replicate 256 0)) := qa (fun w => qa5 w ZC hZC)
  have hbd := F2
  obtain ⟨Z, hZ⟩ : ∃ Z, Z = X7 := ⟨_, rfl⟩
  rw [← hZ] at hz hbd
  have HBW : Hid (∀ w : World, mY (w.alloc (.cells Z 29)) w.heap.size (.slice none 0 0) (.slice none 0 0) (List.replicate 256 0)) := qa (fun w => by rw [hZ]; exact tR w)
  have HZL : Hid (Z.toList = ints (List.replicate 256 0) ++ [Value.slice none 0 0, Value.slice none 0 0]) := qa (by rw [hZ]; exact mT)
  have HB1 := qa (HBW.o w)
  have hA := aD w (.cells Z 29)
  have HA := qa hA
  have HNM := qa (q22 (h.up hA))
  have hs1 : (w.alloc (.cells Z 29)).heap.size = w.heap.size + 1 := by simp
  obtain ⟨M, hM⟩ : ∃ M, M = uC ll := ⟨_, rfl⟩
  rw [← hM] at HNM
  have HMM := qa hM
  have HTR := qa h
  have HQ := qa hq
  obtain ⟨oa, cap, b, off, rfl, hd, hc⟩ := h.open
  clear hM hZ hZC hA hq h
  by_cases h0 : M = 0
  · subst h0
    obtain ⟨qeb, -, h32, qcL⟩ := q4S HMM.o.symm
    obtain ⟨g1, g2, -⟩ := vC qeb HQ.o
    have hsm := O2 qeb HQ.o
    have hix := fY hd
    have hNl := hd.len
    have qgh : Hid (0 < ll.length → b < w.heap.size) := qa (fun h => hd.hblk h)
    have HTC : Hid (∀ i, i < ll.length → ∃ u, w.cell? ⟨b, off + i, none⟩ = some u ∧ bE w u (ll.getD i [])) := qa hc
    have HDE : Hid (V9 ll = q8s (oK ll) ∧ q0x ll = q9d (oK ll)) := qa ⟨by unfold V9; rw [qw HMM.o.symm], by unfold q0x; rw [qw HMM.o.symm]⟩
    have HTS : Hid (∀ i, i < ll.length → ∃ x k, kD (ll.getD i []) = .cons x k .nil ∧ gvT (ll.getD i []) = (x, k) ∧ mW (x, k) ∧ 1 + szF k ≤ 400 ∧ oK (ll.drop i) = iE (.cons x k .nil) (oK (ll.drop (i + 1)))) := qa (fun i hi => by
      have hm := cE ll i [] hi
      obtain ⟨x, k, q1, q2, q3, q4⟩ := O1 (qeb _ hm) (HQ.o _ hm)
      exact ⟨x, k, q1, q2, q3, q4, by rw [q6f hi, q1]⟩)
    have HDR : Hid (iE .nil (oK (ll.drop 0)) = oK ll) := qa rfl
    have HDN : Hid (oK (ll.drop ll.length) = .nil) := qa (by rw [List.drop_length]; rfl)
    obtain ⟨N, hN⟩ : ∃ N, N = ll.length := ⟨_, rfl⟩
    have HNE := qa hN
    rw [← hN] at g2 HTS HDN HTC qgh hix hNl h32 qcL HNM ⊢
    obtain ⟨F0, hF0⟩ : ∃ F0, F0 = oK ll := ⟨_, rfl⟩
    rw [← hF0] at g1 g2 hsm HDR HDE
    have qh4 : Hid (OkF (cnt F0) F0) := qa ⟨g1, hsm, rfl⟩
    have HC0 : Hid (cnt F0 = N) := qa g2
    have qhM : szF F0 ≤ 12800 := by have := vW hsm; rw [g2] at this; omega
    have qgY := qa qhM
    clear qeb g1 g2 hsm hc hd hN hF0 qhM HMM
    have qio := qa hbd
    clear hbd
    go_enter func6, ntmps6
    go_wp2_with ((with_reducible refine HNM.o.mono ?_); rintro en w2 ⟨A2, rfl, h1, -, hb⟩; obtain ⟨ve, vr, rfl, he, hr⟩ := h1 rfl; obtain ⟨oe, ce, be, fe, rfl, -, -⟩ := he.open; obtain ⟨orr, cr, br, fr, rfl, -, -⟩ := hr.open; generalize (mkS ll N).e.length = n1 at *; generalize (mkS ll N).r.length = n2 at *; have HB2 := qa (HA.o.trans (hb.mono HA.o.size)); have HR2 := qa (HB1.o.up hb); have HG2 := qa hb; clear h1 hb he hr)
    have hb3 := aD w2 (.cells #[.slice oe n1 ce, .int .i64 0, .slice orr n2 cr] 35)
    have HB3 := qa (HB2.o.trans (hb3.mono HB2.o.size))
    have HR3 := qa (HR2.o.up hb3)
    have HS3 : Hid (w.heap.size + 1 ≤ (w2.alloc (.cells #[.slice oe n1 ce, .int .i64 0, .slice orr n2 cr] 35)).heap.size) := qa (by have := HG2.o.size; have := hb3.size; omega)
    clear hb3 HB2 HR2 HG2 HB1 HNM HA hs1
    generalize (w2.alloc (.cells #[.slice oe n1 ce, .int .i64 0, .slice orr n2 cr] 35)) = w3 at *
    go_loopg [6, 32] N (fun gk tv iv wr => ∃ (i : Nat) (acc : Fo), iv = .int .i64 i ∧ i ≤ N ∧ pF (fun _ => False) wr w3.heap.size 55 tv acc ∧ Hid (iE acc (oK (ll.drop i)) = F0) ∧ Below w3.heap.size w3 wr ∧ gk = N - i)
    case atStart => exact ⟨0, .nil, rfl, qd _, pF.nil _ _ _ _, HDR, qn _ _, rfl⟩
    case round =>
      obtain ⟨i, acc, rfl, hi, hO, HV, hB, hgk⟩ := hrel
      have HO := qa hO
      have qe4 := qa hB
      have HGK := qa hgk
      clear hO hB hgk HDR
      by_cases hlt : i < N
      · obtain ⟨x, k, q1, q2, q3, q4, q5⟩ := HTS.o i hlt
        obtain ⟨u, hu, hnu⟩ := HTC.o i hlt
        have hbw : Below w.heap.size w wr := HB3.o.trans (qe4.o.mono HB3.o.size)
        have hcell : wr.cell? ⟨b, off + i, none⟩ = some u := by rw [hbw.cell (p := ⟨b, off + i, none⟩) (qgh.o (by omega))]; exact hu
        have hbb : b < wr.heap.size := by have := qgh.o (by omega); have := hbw.size; omega
        have qcB : ∀ W, (Instr.indexAt 22 (.slice oa N cap) (.int .i64 (i : Int))).run prog W = .ok (.pointer (some ⟨b, off + i, none⟩)) W := fun W => by simpa using hix W .i64 i (by omega) (by omega)
        have HGV := qa (q1n (hnu.up hbw))
        rw [q2] at HGV
        have HV2 : Hid (iE (iE acc (.cons x k .nil)) (oK (ll.drop (i + 1))) = F0) := qa (by rw [i8, ← q5]; exact HV.o)
        have qdq : Hid (cnt acc + cnt (.cons x k .nil) ≤ 1000000000) := qa (by have h := HC0.o; rw [← HV2.o, gX, gX] at h; omega)
        generalize decide (Chk (ll.getD i [])) = qq at *
        clear hbw hu hnu q1 q2 q3 q4 q5 HV
        obtain ⟨dk, dn, da, db, dc, dd, dl, dh⟩ := x
        go_wp2_with (first
          | ((with_reducible refine HGV.o.mono ?_); rintro e w6 ⟨u6, rfl, hT6, hb⟩; obtain ⟨p6, n6, k6, hu6, -⟩ := hT6.form; subst hu6
             have ha := aD w6 (.cells (tmA ⟨dk, dn, da, db, dc, dd, dl, dh⟩ (.slice p6 n6 k6)) 55)
             have hAF := HO.o.after (fun b hb => hb.elim) qe4.o.size hT6
             have HAF := qa (hAF.up ha); have HX6 := qa (dX w6 ⟨dk, dn, da, db, dc, dd, dl, dh⟩ (.slice p6 n6 k6)); have HO6 := qa ((HO.o.up hb).up ha); have hb6 := qe4.o.trans (hb.mono qe4.o.size); have HB6 := qa (hb6.trans (ha.mono hb6.size))
             have hb2 := aD (w6.alloc (.cells (tmA ⟨dk, dn, da, db, dc, dd, dl, dh⟩ (.slice p6 n6 k6)) 55)) (.cells (tmA ⟨dk, dn, da, db, dc, dd, dl, dh⟩ (.slice p6 n6 k6)) 55)
             have HX := qa (xY (w6.alloc (.cells (tmA ⟨dk, dn, da, db, dc, dd, dl, dh⟩ (.slice p6 n6 k6)) 55)) ⟨dk, dn, da, db, dc, dd, dl, dh⟩ (.slice p6 n6 k6))
             rw [show (w6.alloc (.cells (tmA ⟨dk, dn, da, db, dc, dd, dl, dh⟩ (.slice p6 n6 k6)) 55)).heap.size = w6.heap.size + 1 by simp] at HX
             have HN := qa (cA.single (x := ⟨dk, dn, da, db, dc, dd, dl, dh⟩) (HAF.o.up hb2))
             have HO7 := qa (HO6.o.up hb2)
             have HBB := qa (HB6.o.trans (hb2.mono HB6.o.size))
             clear hb hT6 hAF ha hb6 hb2)
          | (refine dC rfl (.tmp 9) rfl w6.heap.size rfl dk dn da db dc dd dl dh (.slice p6 n6 k6) HX6.o ?_)
          | (at_builtin; refine fQ rfl (.tmp 41) (.tmp 43) rfl (fun _ => False) w3.heap.size _ acc rfl HO7.o _ rfl _ _ HX.o HN.o qdq.o HBB.o.size ?_; intro v5 w5 hO hg hq hk5; have HO5 := qa hO; have HB5 := qa (HBB.o.grown hg HBB.o.size hq); clear hO hg hq hk5))
        go_roundg (N - (i + 1))
        case measure => have := HGK.o; omega
        case rel => exact ⟨i + 1, _, by go_num, by omega, HO5.o, HV2, HB5.o, rfl⟩
      · obtain rfl : N = i := by omega
        have HA0 : Hid (acc = F0) := qa (by rw [← HV.o, HDN.o, nI])
        rw [HA0.o] at HO
        clear HA0 HV HTS HTC HDN hix qgh HGK HTR
        obtain ⟨w4, rfl⟩ : ∃ w4 : World, w4 = wr := ⟨_, rfl⟩
        obtain ⟨ot, nt, ct, htv, -⟩ := HO.o.tms.form
        subst htv
        have HT4 := qa HO.o.tms.lt
        obtain ⟨A0, hA0⟩ : ∃ A0 : Nat → Prop, A0 = fun b => upA (fun _ => False) w3.heap.size b ∧ b < w4.heap.size := ⟨_, rfl⟩
        rw [← hA0] at HT4
        have HAL : Hid (∀ b, A0 b → b < w4.heap.size) := qa (fun b hb => by rw [hA0] at hb; exact hb.2)
        have HB4 := qa (HB3.o.trans (qe4.o.mono HB3.o.size))
        have HR4 := qa (HR3.o.up qe4.o)
        have HS4 : Hid (w.heap.size + 1 ≤ w4.heap.size) := qa (qc HS3.o qe4.o.size)
        clear hA0 HO HB3 qe4 HR3 HS3 hi
        have hmm := @run_makeMap prog
        have hl5 := aD w4 (.map #[] 0)
        have HL5 := qa hl5
        have hst := qaJ (A := A0) w4.heap.size (fun h => by have := HAL.o _ h; omega) (szF F0 + 1) (w := w4.alloc (.map #[] 0)) (v := .slice ot nt ct) (f := F0) (pre := []) (N := 0) (by omega) (by have := qgY.o; omega) (HT4.o.up hl5) (V8 qh4.o.1.okT) (vK.made prog 53 w4)
        have HST := qa hst
        obtain ⟨CO, hCO⟩ : ∃ CO, CO = q40 (gA F0) := ⟨_, rfl⟩
        have HCO := qa hCO
        have qe3 : Hid (CO.length = 256) := qa (by rw [hCO]; exact zH _)
        obtain ⟨H, hH⟩ : ∃ H, H = d8 (gA F0) := ⟨_, rfl⟩
        have HHE := qa hH
        have qjh : Hid (∀ (W : World) (u : Value) (nw : List Ed), aU fZ ([] ++ gA F0) = aU fZ [] ++ nw → nw.length ≤ szF F0 → SlK 4 W u (nw.map pI) → Calls prog 18 #[u] W fun en w' => ∃ of cf, en = .returned (.tuple #[.agg (ints CO).toArray, .slice of H.length cf]) ∧ Own w' W.heap.size 5 (.slice of H.length cf) (bvN H) ∧ Below W.heap.size W w') := qa (fun W u nw h1 h2 h3 => by
          have e : nw = aU fZ (gA F0) := h1.symm
          refine (q5Z h3 (by have := qgY.o; omega)).mono ?_
          rintro en w' ⟨vf, rfl, ho, hb⟩
          rw [e, (q2N _).1, ← hH] at ho
          rw [e, (q2N _).2, ← hCO]
          obtain ⟨of, cf, gf, hvf, -⟩ := ho.cases
          rw [kO] at hvf
          subst hvf
          exact ⟨of, cf, rfl, ho, hb⟩)
        clear hst hl5 hCO hH
        go_upto_region 12 with (first
          | ((with_reducible refine HST.o.mono ?_); rintro e w6 ⟨u6, nw, rfl, hp, hln, hO6, -, hg6⟩; have qjj := qa (qjh.o w6 u6 nw hp hln hO6.sl); have HL6 := qa (HL5.o.grown hg6 HL5.o.size (fun k hk => by injection hk with hk; omega)); clear hp hln hO6 hg6)
          | ((with_reducible refine qjj.o.mono ?_); rintro e w7 ⟨of, cf, rfl, hof, hb7⟩
             have ha7 := aD w7 (.cells ZC 25)
             have HE7 := qa (hb7.trans (ha7.mono hb7.size))
             have HOF := qa (hof.up ha7)
             have HOL := qa (fun k hk => (hof.lt k hk).2)
             have hs7 := hb7.size
             clear hof hb7 ha7)
          | (refine iB rfl 25 256 _ _ rfl w7.heap.size rfl _ CO rfl qe3.o (by kernel_rfl) (HBZ.o w7) ?_; intro w8 hb8 hg8; have HB8 := qa hb8; have HG8 := qa hg8; clear hb8 hg8))
        have hE8 := HE7.o.grown HG8.o HE7.o.size (fun k hk => by injection hk with hk; omega)
        have HL8 := qa (HL6.o.trans (hE8.mono HL6.o.size))
        have qga := qa (HOF.o.keep HG8.o (.inr (fun e => by have := HOL.o _ e; omega)))
        have qjT : w7.heap.size < w8.heap.size := HB8.o.lt
        have qlC : w4.heap.size ≤ w8.heap.size := HL8.o.size
        have qmx : Hid (∀ k, (Value.slice of H.length cf).ownBlock = some k → k < w8.heap.size) := qa (fun k hk => (qga.o.lt k hk).2)
        clear hE8 HL5 HST qjh qjj HL6 HE7 HOF HOL HG8 hs7
        obtain ⟨p11, qf2⟩ : ∃ p11, p11 = w7.heap.size := ⟨_, rfl⟩
        obtain ⟨p6, qhW⟩ : ∃ p6, p6 = w6.heap.size := ⟨_, rfl⟩
        rw [← qf2] at HB8 qjT ⊢
        rw [← qhW] at qga
        clear qf2 qhW w6 w7
        have HT8 := qa (HT4.o.up HL8.o)
        have HR8 := qa (HR4.o.up HL8.o)
        have HW8 := qa (HB4.o.trans (HL8.o.mono HB4.o.size))
        clear HT4 HR4 HB4
        have HFR : Hid (∀ x, Below w8.heap.size w8 x → Below w.heap.size w x) := qa (fun x hx => HW8.o.trans (hx.mono HW8.o.size))
        have HR1 : Hid (∀ x, Below w8.heap.size w8 x → mY x w.heap.size (.slice none 0 0) (.slice none 0 0) (List.replicate 256 0)) := qa (fun x hx => HR8.o.up hx)
        have HC4 : Hid (∀ x, Below w8.heap.size w8 x → sU x 25 256 p11 CO) := qa (fun x hx => HB8.o.up hx)
        obtain ⟨oF, cF, gF, hfv, hdF, hbF, hcF, -, -⟩ := qga.o.cases
        rw [kO] at hfv hdF hcF
        injection hfv with hf1 hf2 hf3
        subst hf1 hf3
        clear hf2
        have HFX := qa (aT (P := prog) 58 5 underlying58 (by kernel_rfl) hdF)
        have HFI : Hid (∀ x, Below w8.heap.size w8 x → ∀ k, k < H.length → x.cell? ⟨gF, k, none⟩ = some (.int .u8 (H.getD k 0 : Nat)) ∧ gF < x.heap.size) := qa (fun x hx k hk => by
          have h1 := hdF.hblk (by omega)
          refine ⟨?_, qe h1 hx.size⟩
          rw [hx.cell (p := ⟨gF, k, none⟩) h1, hcF k hk]
          simp [bvN, List.getD, hk])
        have hHl := hdF.len
        have HMK : Hid (MkD A0 ((w8.alloc (.map #[] 0)).alloc (.cells #[.slice none 0 0, .map (some w8.heap.size)] 68)) w8.heap.size (w8.heap.size + 1) w8.heap.size (.slice none 0 0) [] []) := qa (by
          have h1 := cN (w8.alloc (.map #[] 0)) w8.heap.size #[.slice none 0 0, .map (some w8.heap.size)] 68 (by simp) (by simp)
          have h2 : wH prog 9 (w8.alloc (.map #[] 0)) w8.heap.size (([] : List Fo).map kT) := wH.made prog 9 w8
          have hs : (w8.alloc (.map #[] 0)).heap.size = w8.heap.size + 1 := by simp
          rw [hs] at h1
          refine ⟨h1, Own.nil _ _ _, rfl, fun i hi => absurd hi (qC i), h2.up (aD _ _), fun f hf => (by cases hf), qb _, by omega, by simp [Value.ownBlock], by simp [Value.ownBlock], fun b hb => ?_, fun b hb hk => ?_⟩
          · have := HAL.o b hb
            simp; omega
          · have := HAL.o b hb
            rcases hk with h | h | h
            · omega
            · omega
            · simp [Value.ownBlock] at h)
        have HL9 : Hid (Below w8.heap.size w8 ((w8.alloc (.map #[] 0)).alloc (.cells #[.slice none 0 0, .map (some w8.heap.size)] 68))) := qa aO
        have HT9 := qa (HT8.o.up HL9.o)
        clear HT8 HR8 HB8 qga hdF hbF hcF HL8 HW8
        go_upto_region 13 with (fail)
        generalize hB : w8.heap.size = B at *
        generalize ((w8.alloc (.map #[] 0)).alloc (.cells #[.slice none 0 0, .map (some B)] 68)) = w9 at *
        have HBB := qa hB
        have hpB : w.heap.size + 1 ≤ B ∧ p11 < B ∧ w4.heap.size ≤ B := by have := HS4.o; omega
        clear hB
        have qdl := qa (q2I HMK.o HT9.o qh4.o.1 (by have := qgY.o; omega) (by simp))
        have e1 : aQ [] F0 = [F0] := by simp [aQ]
        have e2 : idx [F0] F0 = 0 := by simp [idx]
        rw [e1, e2] at qdl
        have qiY := qa HMK.o.lt
        have qlw := qa HMK.o.low
        clear e1 e2 HT9 HMK
        go_upto_region 14 with ((with_reducible refine qdl.o.mono ?_); rintro e w10 ⟨rfl, lv, vs, hmk, qif⟩; have qcJ := qa hmk; have qgc := qa (HL9.o.trans (qif.below (by have := HL9.o.size; have := HBB.o; omega) (fun k hk => by have h1 := (qiY.o k hk).1; have := HBB.o; omega))); clear hmk qif)
        obtain ⟨A, hgA, qeV, hA⟩ := (HC4.o _ qgc.o).open
        have hAe : A = (ints CO).toArray := j0 List.toArray hA
        obtain ⟨D, hbc, hDl⟩ := q0w CO qe3.o
        rw [← hAe] at hbc
        have HBC := qa hbc
        clear hbc
        have HDL := qa hDl
        have qfy := qa (HBW.o w10)
        have hB8 : B ≤ w10.heap.size := by have := qgc.o.size; have := HBB.o; omega
        clear hA hAe hDl qdl HL9 HC4 qiY qlw
        go_upto_region 15 with (first
          | (refine mZ rfl 25 256 _ rfl p11 rfl A qeV hgA _ underlying25 rfl (by kernel_rfl) ?_)
          | (refine oN rfl 29 _ rfl #[(0, .agg A)] (by first | kernel_rfl | rfl | (simp; rfl)) D HBC.o ?_)
          | (refine fL rfl _ _ rfl w10.heap.size rfl D rfl HDL.o qe3.o rfl rfl qfy.o ?_; intro w11 qiq qez; have qdc := qa qiq; have qeo := qa qez; clear qiq qez))
        have qgA : Below w10.heap.size w10 (w10.alloc (.cells Z 29)) := aD _ _
        have qhd := qa (qgA.grown qeo.o qgA.size (fun k hk => by injection hk with hk; omega))
        have qj9 := qa (qgc.o.trans (qhd.o.mono (by have := HBB.o; omega)))
        obtain ⟨g, hg⟩ : ∃ g, g = w10.heap.size := ⟨_, rfl⟩
        rw [← hg] at qdc ⊢
        have hBg : B ≤ g := by omega
        have HBO : Hid (nV A0 w11 B (B + 1) B lv vs [F0] g (.slice none 0 0) [] (.slice none 0 0) CO [] []) := qa (by
          have hnf : eG.free (.slice none 0 0) [] (some g) := ⟨fun _ hk => by simp [Value.ownBlock] at hk, fun i hi => absurd hi (qC i)⟩
          refine ⟨qcJ.o.up qhd.o, ⟨qdc.o, hBg, eG.nil _ _ _ _, Own.nil _ _ _, hnf, by simp [Value.ownBlock], eG.free_none⟩, fun k hk hd => ?_⟩
          have hk8 := qcJ.o.ltA k hk
          rcases hd with hd | hd | hd
          · omega
          · simp [Value.ownBlock] at hd
          · exact hd ⟨fun _ hk => by simp [Value.ownBlock] at hk, fun i hi => absurd hi (qC i)⟩)
        have HGZ := qa (q3H qh4.o)
        clear hg qhd qgA qeo qdc qcJ qgc hgA qeV HBC HDL qfy hB8 HBZ HBW hmm
        go_wp2
        go_loopg [15] 1001 (fun gk iv wr => ∃ (A : Nat → Prop) (i : Nat) (R : List Fo) (lv : Value) (vs : List Value) (nv : Value) (nvs : List Value) (rv : Value), iv = .int .i64 i ∧ vV F0 i R ∧ nV A wr B (B + 1) B lv vs R g nv nvs rv CO (m8 F0 R i) (eU R i) ∧ Below B w8 wr ∧ gk = 1001 - i)
        case atStart => exact ⟨A0, 0, [F0], lv, vs, _, _, _, rfl, HGZ.o, by simpa [m8, eU] using HBO.o, qj9.o, rfl⟩
        case round =>
          obtain ⟨A, i, R, lv, vs, nv, nvs, rv, rfl, hgo, hbo, hbl, rfl⟩ := hrel
          have HGO := qa hgo
          have HBT := qa hbo
          have HF := qa hbl
          clear hgo hbo hbl HBO qj9 HGZ
          obtain ⟨og, cg, gg, hlv, -⟩ := HBT.o.mkr.lists.cases
          rw [HBT.o.mkr.len] at hlv
          subst hlv
          obtain ⟨c0, -, hq⟩ := HBT.o.mkr.c
          by_cases hlt : i < R.length
          · have d0 : decide ((i : Int) < R.length) = true := by simp; omega
            obtain ⟨G, hG⟩ : ∃ G, G = R.getD i .nil := ⟨_, rfl⟩
            have HGE := qa hG
            have HOG : Hid (OkF (cnt F0) G) := qa (by rw [hG]; exact HGO.o.ok _ (cE _ _ _ hlt))
            have qes := qa HBT.o
            rw [← (q6a F0 G R).1] at qes
            have qcX := qa (Own.nil wr B 3)
            have HS0 := qa (q7S F0 G)
            clear hG HBT
            go_wp2
            go_loopg [16, 72] H.length (fun gk rowv jv wr => ∃ (A : Nat → Prop) (j : Nat) (lv : Value) (vs : List Value), jv = .int .i64 j ∧ j ≤ H.length ∧ nV A wr B (B + 1) B lv vs (N9 F0 G R j) g nv nvs rv CO (m8 F0 R i) (eU R i) ∧ Own wr B 3 rowv (ints (F3 F0 G R j)) ∧ (∀ k, rowv.ownBlock = some k → ¬ DbF g nv nvs rv k ∧ ¬ MkA A (B + 1) B lv k) ∧ SmD F0 G j ∧ Below B w8 wr ∧ gk = H.length - j)
            case atStart => exact ⟨_, 0, _, _, rfl, qd _, qes.o, qcX.o, fun k hk => by simp [Value.ownBlock] at hk, HS0.o, HF.o, rfl⟩
            case round =>
              obtain ⟨A, j, lv, vs, rfl, hj, hbo, hrw, hnb, hsd, hbl, rfl⟩ := hrel
              have HBT := qa hbo
              have HRW := qa hrw
              have HNB := qa hnb
              have HSD := qa hsd
              have HF := qa hbl
              clear hbo hrw hnb hsd hbl qes qcX HS0 c0 hq
              by_cases qcC : j < H.length
              · have hjh : j < (d8 (gA F0)).length := by rw [← HHE.o]; exact qcC
                have hdj : decide ((j : Int) < H.length) = true := by simp; omega
                have hBw : B ≤ wr.heap.size := by have := HF.o.size; have := HBB.o; omega
                obtain ⟨og, cg, gl, hlv, hdl, -, hcl, -, -⟩ := HBT.o.mkr.lists.cases
                rw [HBT.o.mkr.len] at hlv hdl hcl
                subst hlv
                obtain ⟨c0, -, hq⟩ := HBT.o.mkr.c
                obtain ⟨kt, hkt⟩ := q7V F0 G R j
                have hgi : (N9 F0 G R j).getD i .nil = G := by rw [hkt, bC hlt, HGE.o]
                have him : i < (N9 F0 G R j).length := by rw [hkt, qj]; omega
                have hix := aT (P := prog) 66 50 underlying66 (by kernel_rfl) hdl
                have qcB : ∀ W, (Instr.indexAt 66 (.slice og (N9 F0 G R j).length cg) (.int .i64 (i : Int))).run prog W = .ok (.pointer (some ⟨gl, i, none⟩)) W := fun W => by simpa using hix W .i64 i (by omega) (by omega)
                have hbl := hdl.hblk (by omega)
                have htm := HBT.o.mkr.terms i him
                rw [hgi] at htm
                have hci := hcl i him
                obtain ⟨oi, ni, ci, hvi, -⟩ := htm.form
                rw [hvi] at htm hci
                obtain ⟨hf1, hf2⟩ := HFI.o wr HF.o j qcC
                have hfx : ∀ W, (Instr.indexAt 58 (.slice of H.length cf) (.int .i64 (j : Int))).run prog W = .ok (.pointer (some ⟨gF, j, none⟩)) W := fun W => by simpa using HFX.o W .i64 j (by omega) (by omega)
                have qec : H.getD j 0 < 256 := by rw [HHE.o]; exact xA (cE _ _ _ hjh)
                have HMS := qa (q6b (f0 := F0) (g := G) (R := R) hjh)
                have HSS := qa (fun hs => q7T HSD.o hjh hs)
                have HSN := qa (fun hs => q9G (f0 := F0) (g := G) hjh hs)
                rw [← HHE.o] at HMS HSS HSN
                have HML : Hid ((N9 F0 G R j).length ≤ 2000) := qa (by have := q7U F0 G R j; have := HGO.o.len; have := oI (gA F0); omega)
                generalize H.getD j 0 = c at *
                have HNX := qa (qaG c qec htm HOG.o.1 HOG.o.2.1 (by rw [HOG.o.2.2, HC0.o]; omega))
                have HXG : Hid (eI (eM c G)) := qa (fV c G HOG.o.1)
                have HXS : Hid (fH (eM c G) = true → szF (eM c G) ≤ 1000000) := qa (fun h => by have h1 := vW h; rw [sA, HOG.o.2.2, HC0.o] at h1; omega)
                obtain ⟨Q, hQ⟩ : ∃ Q, Q = fH (eM c G) := ⟨_, rfl⟩
                rw [← hQ] at HNX HSS HSN HXS
                generalize eM c G = X at *
                clear hix hdl hcl hkt hgi htm hvi hQ hjh
                go_upto_region 23 with ((with_reducible refine HNX.o.mono ?_); rintro e w7 ⟨u7, rfl, ht7, hb7⟩; have HT7 := qa ht7; have HB7 := qa hb7; clear ht7 hb7)
                have hF7 := HF.o.trans (HB7.o.mono hBw)
                have HF7 := qa hF7
                cases Q with
                | false =>
                  have hln := HGO.o.small hlt (by rw [← HGE.o]; exact HSN.o rfl)
                  have HE : Hid (V9 ll = 3 ∧ q0x ll = J0) := qa ⟨by rw [HDE.o.1]; unfold q8s; rw [hln], by rw [HDE.o.2]; unfold q9d; rw [hln]⟩
                  have HR9 := qa (HR1.o _ HF7.o)
                  have hbd := qio.out
                  clear hln HBT HRW HNB HNX
                  go_wp2_with (refine fL rfl _ _ rfl w.heap.size rfl Z rfl HZL.o qP rfl rfl HR9.o ?_; intro w12 qcU qcT; have qcY := qa qcU; have qcV := qa qcT; clear qcU qcT)
                  refine tS rfl rfl rfl rfl qcY.o (vU _) (rules := []) (Sl.nil _) fun v hv => ⟨v, by rw [HE.o.1]; rfl, by rw [HE.o.2]; exact hv, ?_⟩
                  have h1 := HFR.o _ HF7.o
                  exact h1.grown qcV.o h1.size (fun k hk => by injection hk with hk; omega)
                | true =>
                  have hT7 := (HT7.o rfl)
                  obtain ⟨o7, m7, k7, hu7, -⟩ := hT7.form
                  subst hu7
                  have qdl := qa (q2I (HBT.o.mkr.wide HB7.o) hT7.lt HXG.o (HXS.o rfl) (by have := HML.o; omega))
                  have HSJ := qa (HSS.o rfl)
                  obtain ⟨orw, nrw, crw, hrv⟩ : ∃ o n c, u16 = .slice o n c := by obtain ⟨o, c, _, e, -⟩ := HRW.o.cases; exact ⟨o, _, c, e⟩
                  subst hrv
                  have HRL : Hid ((ints (F3 F0 G R j)).length ≤ 256) := qa (by rw [aS]; unfold F3; rw [qB, qX]; have := oI (gA F0); rw [← HHE.o] at this; omega)
                  clear hT7 HSS HSN HNX HT7 hci qcB c0 hq hbl hf1 hf2 hfx
                  obtain ⟨R2, hR2⟩ : ∃ R2, R2 = aQ (N9 F0 G R j) X := ⟨_, rfl⟩
                  rw [← hR2] at qdl HMS
                  obtain ⟨kx, hkx⟩ : ∃ kx, kx = idx R2 X := ⟨_, rfl⟩
                  rw [← hkx] at qdl
                  have HKX := qa hkx
                  clear hkx hR2
                  go_wp2_with (first
                    | ((with_reducible refine qdl.o.mono ?_); rintro e w8' ⟨rfl, lv2, vs2, hm8, hg8⟩
                       obtain ⟨hb8, hk8⟩ := HBT.o.num HB7.o hm8 hg8
                       have qlu := qa hb8
                       have HK8 := qa hk8
                       have qi7 := fun k hk => (HBT.o.mkr.up HB7.o).lt k hk
                       have qeC := qa (hg8.own (HRW.o.up HB7.o) (fun k hk hS => (HNB.o k hk).2 (.inl hS)))
                       have HF8 := qa (HF7.o.trans (hg8.below (by have := HB7.o.size; omega) (fun k hk => (qi7 k hk).1)))
                       have hl9 := aD w8' (.cells #[.int .i64 (kx : Nat)] 3)
                       have HSX : Hid (Sl (w8'.alloc (.cells #[.int .i64 (kx : Nat)] 3)) (.slice (some ⟨w8'.heap.size, 0, none⟩) 1 1) (ints [(kx : Int)])) := qa (by simpa [ints] using eK w8' #[.int .i64 (kx : Nat)] 3 (by simp))
                       have qhx := qa (qlu.o.up hl9)
                       have qiO := qa (qeC.o.up hl9)
                       have HF9 := qa (HF8.o.trans (hl9.mono (by have := HF8.o.size; have := HBB.o; omega)))
                       have HL9 := qa hl9
                       have HT4 : Hid (B ≤ (w8'.alloc (.cells #[.int .i64 (kx : Nat)] 3)).heap.size) := qa (by have := HF9.o.size; have := HBB.o; omega)
                       have HT3 : Hid ((ints (F3 F0 G R j)).length + (ints [(kx : Int)]).length ≤ 4294967296) := qa (by have := HRL.o; simp only [aS, qE] at *; omega)
                       have HRB : Hid (∀ k, (Value.slice orw nrw crw).ownBlock = some k → k < wr.heap.size) := qa (fun k hk => (HRW.o.lt k hk).2)
                       clear hb8 hk8 hm8 hg8 hl9 qi7)
                    | (at_builtin; refine bF rfl (.tmp 91) (.tmp 95) 27 rfl B 3 (.int .i64 0) 8 underlying27 (by kernel_rfl) rfl (by decide) (.slice orw nrw crw) (ints (F3 F0 G R j)) rfl qiO.o (.slice (some ⟨w8'.heap.size, 0, none⟩) 1 1) (ints [(kx : Int)]) rfl HSX.o (iC _) HT3.o HT4.o ?_; intro v' w9' hown1 hg1 hk1; have HO9 := qa hown1; have HG9 := qa hg1; have HK9 := qa hk1; clear hown1 hg1 hk1))
                  go_roundg (H.length - (j + 1))
                  case measure => omega
                  case rel =>
                    have hn : ∀ k, (Value.slice orw nrw crw).ownBlock = some k → ¬ MkA (fun b => upA A wr.heap.size b ∧ b < w7.heap.size) (B + 1) B lv2 k ∧ ¬ DbF g nv nvs rv k := fun k hk => ⟨HK8.o k (HRB.o k hk) (HNB.o k hk).2, (HNB.o k hk).1⟩
                    refine ⟨fun b => upA A wr.heap.size b ∧ b < w7.heap.size, j + 1, lv2, vs2, by go_num, by omega, ?_, ?_, fun k hk => ?_, HSJ.o, HF9.o.grown HG9.o (HT4.o) (fun k hk => (qiO.o.lt k hk).1), rfl⟩
                    · rw [HMS.o.1]
                      exact qhx.o.keep HG9.o hn
                    · rw [HMS.o.2, HMS.o.1, ← HKX.o, rZ]
                      exact HO9.o
                    · rcases HK9.o k hk with h1 | h1
                      · exact ⟨(hn k h1).2, (hn k h1).1⟩
                      · exact ⟨fun hd => by have := (qhx.o.db.ltF k hd).2; omega, fun hd => by have := qhx.o.mkr.ltA k hd; omega⟩
              · have hje : j = H.length := by omega
                subst hje
                have hma := q7R F0 G R
                rw [← HHE.o] at hma
                rw [hma.1] at HBT
                rw [hma.2] at HRW
                have ql4 : Hid (q6M F0 G = true) := qa (q9F (by rw [← HHE.o]; exact HSD.o))
                clear hma HSD
                obtain ⟨R2, hR2⟩ : ∃ R2, R2 = oJ F0 G R := ⟨_, rfl⟩
                have HR2 := qa hR2
                have qgg : Hid (1000 < R2.length → kM F0 = none) := qa (fun hb => HGO.o.big hlt (by rw [← HGE.o, ← hR2]; exact hb))
                have qh5 : Hid (R2.length ≤ 1000 → vV F0 (i + 1) R2 ∧ m8 F0 R2 (i + 1) = m8 F0 R i ++ [q1j F0 R2 G] ∧ eU R2 (i + 1) = eU R i ++ [xX 0 G]) := qa (fun hb => by rw [hR2, HGE.o]; exact HGO.o.next hlt (by rw [← HGE.o]; exact ql4.o) (by rw [← HGE.o, ← hR2]; exact hb))
                rw [← hR2] at HBT HRW
                clear hR2
                obtain ⟨og, cg, gl, hlv, hdl, -, hcl, -, -⟩ := HBT.o.mkr.lists.cases
                rw [HBT.o.mkr.len] at hlv hdl hcl
                subst hlv
                obtain ⟨c0, -, hq⟩ := HBT.o.mkr.c
                by_cases qe0 : 1000 < R2.length
                · have hln := qgg.o qe0
                  have HE : Hid (V9 ll = 3 ∧ q0x ll = J0) := qa ⟨by rw [HDE.o.1]; unfold q8s; rw [hln], by rw [HDE.o.2]; unfold q9d; rw [hln]⟩
                  have d1 : decide ((1000 : Int) < R2.length) = true := by simp; omega
                  have hbd := qio.out
                  have HR9 := qa (HR1.o _ HF.o)
                  clear hln hdl hcl
                  go_wp2_with (refine fL rfl _ _ rfl w.heap.size rfl Z rfl HZL.o qP rfl rfl HR9.o ?_; intro w12 qcU qcT; have qcY := qa qcU; have qcV := qa qcT; clear qcU qcT)
                  refine tS rfl rfl rfl rfl qcY.o (vU _) (rules := []) (Sl.nil _) fun v hv => ⟨v, by rw [HE.o.1]; rfl, by rw [HE.o.2]; exact hv, ?_⟩
                  have h1 := HFR.o _ HF.o
                  exact h1.grown qcV.o h1.size (fun k hk => by injection hk with hk; omega)
                · have d1 : decide ((1000 : Int) < R2.length) = false := by simp; omega
                  obtain ⟨hg2, hr2, hu2⟩ := qh5.o (by omega)
                  have HGN := qa hg2
                  have HRN := qa hr2
                  have HUN := qa hu2
                  have hBw : B ≤ wr.heap.size := by have := HF.o.size; have := HBB.o; omega
                  obtain ⟨on, cn, gn, hnv, -⟩ := HBT.o.db.rows.outer.cases
                  obtain ⟨nn, hnn⟩ : ∃ nn, nn = nvs.length := ⟨_, rfl⟩
                  rw [← hnn] at hnv
                  subst hnv
                  obtain ⟨orw, nrw, crw, hrv⟩ : ∃ o n c, u16 = .slice o n c := by obtain ⟨o, c, _, e, -⟩ := HRW.o.cases; exact ⟨o, _, c, e⟩
                  subst hrv
                  clear hnn hdl hcl
                  have e256 := HBT.o.db.box.cellN
                  have hgl := HBT.o.db.box.lt
                  have hng : (Value.slice on nn cn).ownBlock ≠ some g := fun e => HBT.o.db.fg.1 g e rfl
                  have hlr : Below wr.heap.size wr (wr.alloc (.cells #[.slice orw nrw crw] 27)) := aD _ _
                  have HLR := qa hlr
                  have HSX : Hid (Sl (wr.alloc (.cells #[.slice orw nrw crw] 27)) (.slice (some ⟨wr.heap.size, 0, none⟩) 1 1) [.slice orw nrw crw]) := qa (by simpa using eK wr #[.slice orw nrw crw] 27 (by simp))
                  have HT1 := qa (HBT.o.db.rows.outer.up hlr)
                  have HT3 : Hid (nvs.length + [Value.slice orw nrw crw].length ≤ 4294967296) := qa (by have h1 := HBT.o.db.rows.len; have h2 := HGO.o.len; have h3 := HGO.o.le; simp [m8] at h1; simp; omega)
                  have HT4 : Hid (B ≤ (wr.alloc (.cells #[.slice orw nrw crw] 27)).heap.size) := qa (by have := hlr.size; omega)
                  have qdR := qa (HBT.o.db.box.up hlr)
                  have HNG := qa hng
                  clear hg2 hr2 hu2 hlr hng
                  go_upto_region 30 with (at_builtin; refine bF rfl (.tmp 106) (.tmp 108) 26 rfl B 27 (.slice none 0 0) 24 underlying26 (by kernel_rfl) rfl (by decide) (.slice on nn cn) nvs rfl HT1.o (.slice (some ⟨wr.heap.size, 0, none⟩) 1 1) [.slice orw nrw crw] rfl HSX.o (by simp [Value.oneCell']) HT3.o HT4.o ?_; intro v' w5 hown1 hg1 hk1; (obtain ⟨o5, c5, q5', hv5, -⟩ := hown1.cases); (obtain ⟨n5, hn5⟩ : ∃ n5, n5 = (nvs ++ [Value.slice orw nrw crw]).length := ⟨_, rfl⟩); rw [← hn5] at hv5; subst hv5; clear hn5; have HO5 := qa hown1; have HG5 := qa hg1; have HK5 := qa hk1; clear hown1 hg1 hk1; have qcO := qa (qdR.o.keep HG5.o HNG.o); have g5 := qcO.o.free 256; have h5 := qcO.o.cellN; have hq5 := qcO.o.lt)
                  have HPR := qa (HBT.o.pushRow HRW.o HNB.o HLR.o HO5.o HG5.o HK5.o)
                  clear qcO g5 h5 hq5 qdR HT1 HT3 HT4 HSX HO5 HG5 HK5 e256 hgl c0 hq HLR
                  rw [← HRN.o] at HPR
                  generalize hw6 : w5.setCell ⟨g, 256, none⟩ (.slice o5 n5 c5) = w6 at *
                  have qcR := qa HPR.o.1
                  have HF6 := qa (HF.o.trans (HPR.o.2.mono (by have := HBB.o; omega)))
                  clear hw6 HPR HBT HF
                  obtain ⟨kt, hkt⟩ := bP (nxD F0 G) R
                  have qeg : R2 = R ++ kt := HR2.o.trans hkt
                  have hgi : R2.getD i .nil = G := by rw [qeg, bC hlt, HGE.o]
                  have him : i < R2.length := by rw [qeg, qj]; omega
                  obtain ⟨og', cg', gl', hle, hd, -, hcl, -, -⟩ := qcR.o.mkr.lists.cases
                  rw [qcR.o.mkr.len] at hle hd hcl
                  injection hle with hle1 hle2 hle3
                  subst hle1 hle3
                  clear hle2
                  have htm := qcR.o.mkr.terms i him
                  rw [hgi] at htm
                  have hcell := hcl i him
                  obtain ⟨oi, ni, ci, hvi, -⟩ := htm.form
                  rw [hvi] at htm hcell
                  have hix := aT (P := prog) 66 50 underlying66 (by kernel_rfl) hd
                  have qcB : ∀ W, (Instr.indexAt 66 (.slice og R2.length cg) (.int .i64 (i : Int))).run prog W = .ok (.pointer (some ⟨gl', i, none⟩)) W := fun W => by simpa using hix W .i64 i (by omega) (by omega)
                  have hbb := hd.hblk (by omega)
                  obtain ⟨c0, -, hq⟩ := qcR.o.mkr.c
                  have hB6 : B ≤ w6.heap.size := by have := HF6.o.size; have := HBB.o; omega
                  have hd6 : Below w6.heap.size w6 w6.drew := by rw [World.drew_is_drewN]; exact aX w6 1
                  have HD6 := qa hd6
                  have qfF := qa (qaF (htm.up hd6) (by have h1 := vW HOG.o.2.1; rw [HOG.o.2.2, HC0.o] at h1; omega))
                  obtain ⟨orv, crv, grv, hrv, -⟩ := qcR.o.db.rls.cases
                  obtain ⟨nrv, qf4⟩ : ∃ nrv, nrv = (ints (eU R i)).length := ⟨_, rfl⟩
                  rw [← qf4] at hrv
                  subst hrv
                  clear qf4 hkt qeg hgi hix hd hcl htm hvi
                  have e257 := qcR.o.db.box.cellR
                  have hgl := qcR.o.db.box.lt
                  generalize xX 0 G = lx at *
                  have HRL : Hid ((eU R i).length ≤ 1000) := qa (by have h2 := HGO.o.len; have h3 := HGO.o.le; simp [eU]; omega)
                  go_wp2
                  refine aR [0,1,2,3,4,5,6,7,8] [9,10] [11,12,13] (by kernel_rfl) (by kernel_rfl) ?_
                  simp only [pk]
                  repeat (go_big_quiet_step (fail))
                  refine wpQuiet_nil ?_
                  generalize w6.drew = wd at *
                  unfold aF
                  go_wp2_with ((with_reducible refine qfF.o.mono ?_); rintro en w7 ⟨rfl, x7, rfl⟩)
                  have HB7 := qa (gK HD6.o x7)
                  refine ⟨aJ HB7.o, ?_⟩
                  generalize ext wd x7 = w7 at *
                  have hs7 := HB7.o.size
                  have hl8 : Below w6.heap.size w6 (w7.alloc (.cells #[.int .i64 lx] 3)) := HB7.o.trans ((aD w7 (.cells #[.int .i64 lx] 3)).mono hs7)
                  have HL8 := qa hl8
                  have HSX : Hid (Sl (w7.alloc (.cells #[.int .i64 lx] 3)) (.slice (some ⟨w7.heap.size, 0, none⟩) 1 1) (ints [lx])) := qa (by simpa [ints] using eK w7 #[.int .i64 lx] 3 (by simp))
                  have HT1 := qa (qcR.o.db.rls.up hl8)
                  have HT3 : Hid ((ints (eU R i)).length + (ints [lx]).length ≤ 4294967296) := qa (by have := HRL.o; simp only [aS, qE]; omega)
                  have HT4 : Hid (B ≤ (w7.alloc (.cells #[.int .i64 lx] 3)).heap.size) := qa (by have := hl8.size; omega)
                  have qdR := qa (qcR.o.db.box.up hl8)
                  have HRG := qa qcR.o.db.rg
                  clear hl8 e257 hgl hs7 hcell qcB hbb c0 hq qfF
                  (unfold aF; go_wp2; refine ⟨aJ HL8.o, ?_⟩)
                  unfold aF
                  unfold aF
                  go_wp2_with (at_builtin; refine bF rfl (.tmp 112) (.tmp 121) 27 rfl B 3 (.int .i64 0) 8 underlying27 (by kernel_rfl) rfl (by decide) (.slice orv nrv crv) (ints (eU R i)) rfl HT1.o (.slice (some ⟨w7.heap.size, 0, none⟩) 1 1) (ints [lx]) rfl HSX.o (iC _) HT3.o HT4.o ?_; intro v' w9 hown1 hg1 hk1; (obtain ⟨o9, c9, q9', hv9, -⟩ := hown1.cases); (obtain ⟨n9, hn9⟩ : ∃ n9, n9 = (ints (eU R i) ++ ints [lx]).length := ⟨_, rfl⟩); rw [← hn9] at hv9; subst hv9; clear hn9; have HO9 := qa hown1; have HG9 := qa hg1; have HK9 := qa hk1; clear hown1 hg1 hk1)
                  have qdg := qa (qdR.o.keep HG9.o HRG.o)
                  have g9 := qdg.o.free 257
                  have h9 := qdg.o.cellR
                  have hq9 := qdg.o.lt
                  refine ⟨trivial, ?_⟩
                  (unfold aF; go_wp2; refine ⟨trivial, ?_⟩)
                  (unfold aF; go_wp2; refine ⟨trivial, ?_⟩)
                  unfold aF
                  have HPU := qa (qcR.o.pushRule HL8.o (x := lx) (by rw [rZ]; exact HO9.o) HG9.o HK9.o)
                  rw [← HUN.o] at HPU
                  go_wp2
                  go_roundg (1001 - (i + 1))
                  case measure => have := HGO.o.len; omega
                  case rel => exact ⟨_, i + 1, R2, _, _, _, _, _, by go_num, HGN.o, HPU.o.1, HF6.o.trans (HPU.o.2.mono (by have := HBB.o; omega)), rfl⟩
          · have d0 : decide ((i : Int) < R.length) = false := by simp; omega
            obtain ⟨hl1, hl2, hl3⟩ := HGO.o.done hlt
            have HE : Hid (V9 ll = 0 ∧ q0x ll = sG F0 R) := qa ⟨by rw [HDE.o.1]; unfold q8s; rw [hl1], by rw [HDE.o.2]; unfold q9d; rw [hl1]⟩
            have HRW : Hid (m8 F0 R i = (sG F0 R).next) := qa hl2
            have HRU : Hid (eU R i = (sG F0 R).rules) := qa hl3
            obtain ⟨A9, hA9, hs9, hl9⟩ := HBT.o.db.box.open
            have HA9 := qa hA9
            have HS9 := qa hs9
            have HL9 := qa hl9
            have qf9 : nv.oneCell' = true := lC HBT.o.db.rows.outer
            have qeY : rv.oneCell' = true := lC HBT.o.db.rls
            have qfG := qa (HR1.o _ HF.o)
            clear hA9 hs9 hl9 hl1 hl2 hl3
            go_wp2_with (first | (refine dI rfl _ rfl g rfl A9 HS9.o HA9.o ?_) | (refine fL rfl _ _ rfl w.heap.size rfl A9 rfl HL9.o HBT.o.db.box.len qf9 qeY qfG.o ?_; intro w12 qcU qcT; have qcY := qa qcU; have qcV := qa qcT; clear qcU qcT))
            have qf3 := ((HBT.o.db.rows.keep' qcV.o (HBT.o.db.rows.free_below (by omega))).rowsG.ints)
            have qeW : eB w12 rv (eU R i) := (HBT.o.db.rls.keep qcV.o (by
              cases hro : rv.ownBlock with
              | none => exact .inl rfl
              | some k => exact .inr (fun e => by injection e with e; have := (HBT.o.db.rls.lt k hro).1; omega))).sl
            refine tS rfl rfl rfl rfl qcY.o qf3 qeW fun v hv => ⟨v, by rw [HE.o.1]; rfl, ?_, ?_⟩
            · rw [HE.o.2]
              rw [HRW.o, HRU.o, HCO.o] at hv
              exact hv
            · have h1 := HFR.o _ HF.o
              exact h1.grown qcV.o h1.size (fun j hj => by injection hj with hj; omega)
  · have HE : Hid (V9 ll = M ∧ q0x ll = J0) := qa ⟨by unfold V9; rw [qv (by rw [← HMM.o]; exact h0), HMM.o], by unfold q0x; rw [qv (by rw [← HMM.o]; exact h0)]⟩
    have hm0 : (M == 0) = false := beq_eq_false_iff_ne.2 h0
    have hm1 : decide (M = 0) = false := qx h0
    have H0 := qa h0
    clear h0 hc hd HMM
    go_enter func6, ntmps6
    go_wp2_with (first
      | ((with_reducible refine HNM.o.mono ?_); rintro en w2 ⟨A2, rfl, -, h1, hb⟩; obtain rfl := h1 H0.o; have ha2 := aD w2 (.cells #[.slice none 0 0, .int .i64 0, .slice none 0 0] 35); have hb2 := hb.trans (ha2.mono hb.size); have HB2 := qa (HA.o.trans (hb2.mono HA.o.size)); have HR2 := qa (HB1.o.up hb2); clear h1 hb ha2 hb2)
      | (refine fL rfl _ _ rfl w.heap.size rfl Z rfl HZL.o qP rfl rfl HR2.o ?_; intro w12 qcU qcT; have qcY := qa qcU; have qcV := qa qcT; clear qcU qcT))
    refine tS rfl rfl rfl rfl qcY.o (vU _) (rules := []) (Sl.nil _) fun v hv => ⟨v, by rw [HE.o.1]; rfl, by rw [HE.o.2]; exact hv, ?_⟩
    have h1 := HB2.o
    exact h1.grown qcV.o h1.size (fun k hk => by injection hk with hk; omega)
end Go.Cm
namespace Go.Cm
open Go.RowKit Go.Proofs
def nA:List Nd:=[⟨4,2,0,0,0,0,0,0⟩,⟨1,0,0,8589934592,0,0,0,0⟩,⟨1,0,0,17179869184,0,0,0,0⟩]
def nB:List Nd:=[⟨3,2,0,0,0,0,0,0⟩,⟨5,1,0,0,0,0,0,0⟩,⟨1,0,0,8589934592,0,0,0,0⟩,⟨1,0,0,17179869184,0,0,0,0⟩]
def kA:Fo:=.cons ⟨1,0,0,8589934592,0,0,0,0⟩ .nil (.cons ⟨1,0,0,17179869184,0,0,0,0⟩ .nil .nil)
def kBt:Fo:=.cons ⟨5,1,0,0,0,0,0,0⟩ (.cons ⟨1,0,0,8589934592,0,0,0,0⟩ .nil .nil) (.cons ⟨1,0,0,17179869184,0,0,0,0⟩ .nil .nil)
theorem prA:q7w [97,124,98]=(nA,0,0):=by kernel_rfl
theorem prB:q7w [97,42,98]=(nB,0,0):=by kernel_rfl
theorem ofA:kD nA=.cons ⟨4,2,0,0,0,0,0,0⟩ kA .nil:=fN ⟨4,2,0,0,0,0,0,0⟩ kA (by decide) ⟨by decide,trivial,by decide,trivial,trivial⟩
theorem ofB:kD nB=.cons ⟨3,2,0,0,0,0,0,0⟩ kBt .nil:=fN ⟨3,2,0,0,0,0,0,0⟩ kBt (by decide) ⟨by decide,⟨by decide,trivial,trivial⟩,by decide,trivial,trivial⟩
theorem F8:Chk nA:=by decide+kernel
theorem q2T:Chk nB:=by decide+kernel
theorem qAB:rC [nA,nB]:=fun l hl=>by
 have hq:∀y∈nA++nB,NdQ y:=fun y hy=>by
  simp only[nA,nB,jm,List.nil_append,jM,List.not_mem_nil,or_false]at hy;rcases hy with rfl|rfl|rfl|rfl|rfl|rfl|rfl<;>exact⟨⟨by decide,by decide⟩,⟨by decide,by decide⟩,⟨by decide,by decide⟩,⟨by decide,by decide⟩⟩
 rcases List.mem_cons.1 hl with rfl|hl
 ·exact fun x hx=>hq x (j5 _ hx)
 rw[List.mem_singleton.1 hl];exact fun x hx=>hq x (List.mem_append_right _ hx)
theorem q6u:uC [nA,nB]=0:=by
 have h1:kK nA=6:=by unfold kK;rw[qw F8,ofA];decide
 have h2:kK nB=6:=by unfold kK;rw[qw q2T,ofB];decide
 unfold uC;rw[qv (by decide),qv (by decide),qv,qv]
 ·simp[h1,h2]
 intro h;refine h fun l hl=>?_;simp at hl;rcases hl with rfl|rfl
 ·exact F8
 exact q2T
theorem gvA:gvT nA=(⟨4,2,0,0,0,0,0,0⟩,kA):=by unfold gvT;rw[qw F8,ofA];rfl
theorem gvB:gvT nB=(⟨3,2,0,0,0,0,0,0⟩,kBt):=by unfold gvT;rw[qw q2T,ofB];rfl
theorem qcp:mtN nA [98]=true:=by unfold mtN;rw[qw F8,gvA];decide+kernel
theorem qcq:mtN nA [97,98]=false:=by unfold mtN;rw[qw F8,gvA];decide+kernel
theorem qcr:mtN nB [97,97,98]=true:=by unfold mtN;rw[qw q2T,gvB];decide+kernel
theorem qcs:q9i 99 nA=[]:=by unfold q9i;rw[qw F8,gvA];decide+kernel
theorem qct:(q9i 97 nA).length=1:=by unfold q9i;rw[qw F8,gvA];decide+kernel
def fAB:Fo:=.cons ⟨4,2,0,0,0,0,0,0⟩ kA (.cons ⟨3,2,0,0,0,0,0,0⟩ kBt .nil)
theorem qbH:oK [nA,nB]=fAB:=by rw[oK,oK,oK,ofA,ofB];rfl
theorem qbI:(kM fAB).isSome=true:=by decide+kernel
theorem qbJ:V9 [nA,nB]=0/\∀bs:List UInt8,eR (q0x [nA,nB]) bs=xX 0 (q3l fAB (bs.map UInt8.toNat)):=by
 obtain⟨R,hR⟩:=Option.isSome_iff_exists.1 qbI;unfold V9 q0x;rw[qw q6u,qw q6u,qbH];refine⟨by unfold q8s;rw[hR],fun bs=>?_⟩;unfold q9d;rw[hR];exact M2 hR (by decide) bs
theorem qb1:V9 []=17:=by
 unfold V9;have:uC []=17:=by unfold uC;exact qw rfl
 rw[this];decide
theorem qbK:xX 0 (q3l fAB [98])=0:=by decide+kernel
theorem qbL:xX 0 (q3l fAB [97,98])=1:=by decide+kernel
theorem qbM:xX 0 (q3l fAB [])= -1:=by decide+kernel
theorem q9U{w:World}:Calls prog 5 #[] w fun e w'=>e=.returned (.bool true)/\∃x,w'=ext w x:=by
 have hz:=vS;obtain⟨Z,hZ⟩:∃Z,Z=X7:=⟨_,rfl⟩;rw[<-hZ]at hz;have HBN:Hid (∀W:World,mY (W.alloc (.cells Z 29)) W.heap.size (.slice none 0 0) (.slice none 0 0) (List.replicate 256 0)):=qa (fun W=>hZ▸tR W);have HB:=qa (qn w.heap.size w)
 have HP0:Hid (∀W,Calls prog 13 #[.string ⟨#[97,124,98]⟩] W (q9T (nA,0,0) W)):=qa (fun W=>by
  have h:=q8N (s:=⟨#[97,124,98]⟩) (w:=W);rw[show bys ⟨#[97,124,98]⟩=[97,124,98]from rfl,prA]at h;exact h)
 have HP1:Hid (∀W,Calls prog 13 #[.string ⟨#[97,42,98]⟩] W (q9T (nB,0,0) W)):=qa (fun W=>by
  have h:=q8N (s:=⟨#[97,42,98]⟩) (w:=W);rw[show bys ⟨#[97,42,98]⟩=[97,42,98]from rfl,prB]at h;exact h)
 have hqA:∀x∈nA,NdQ x:=qAB nA jh;have hqB:∀x∈nB,NdQ x:=qAB nB (qY _ jh)
 have HM1:Hid (∀W v,bE W v nA->Calls prog 14 #[v,.string ⟨#[98]⟩] W fun e w'=>e=.returned (.bool true)/\∃x,w'=ext W x):=qa (fun W v h=>by
  have h:=E6 ⟨#[98]⟩ (by decide) h hqA;rw[show bys ⟨#[98]⟩=[98]from rfl,qcp]at h;exact h)
 have HM2:Hid (∀W v,bE W v nA->Calls prog 14 #[v,.string ⟨#[97,98]⟩] W fun e w'=>e=.returned (.bool false)/\∃x,w'=ext W x):=qa (fun W v h=>by
  have h:=E6 ⟨#[97,98]⟩ (by decide) h hqA;rw[show bys ⟨#[97,98]⟩=[97,98]from rfl,qcq]at h;exact h)
 have HM3:Hid (∀W v,bE W v nB->Calls prog 14 #[v,.string ⟨#[97,97,98]⟩] W fun e w'=>e=.returned (.bool true)/\∃x,w'=ext W x):=qa (fun W v h=>by
  have h:=E6 ⟨#[97,97,98]⟩ (by decide) h hqB;rw[show bys ⟨#[97,97,98]⟩=[97,97,98]from rfl,qcr]at h;exact h)
 have HF1:Hid (∀W v,bE W v nA->Calls prog 15 #[v,.int .u8 99] W fun e w'=>∃o c,e=.returned (.slice o 0 c)/\Below W.heap.size W w'):=qa (fun W v h=>by
  refine(q5i 99 (by decide) h hqA).mono ?_;rintro e w' ⟨u,rfl,hn,hb⟩;rw[qcs]at hn;obtain⟨oa,cap,b,off,rfl,-,-⟩:=hn.open;exact⟨_,_,rfl,hb⟩)
 have HF2:Hid (∀W v,bE W v nA->Calls prog 15 #[v,.int .u8 97] W fun e w'=>∃o c,e=.returned (.slice o 1 c)/\Below W.heap.size W w'):=qa (fun W v h=>by
  refine(q5i 97 (by decide) h hqA).mono ?_;rintro e w' ⟨u,rfl,hn,hb⟩;obtain⟨oa,cap,b,off,rfl,-,-⟩:=hn.open;rw[qct];exact⟨_,_,rfl,hb⟩)
 obtain⟨c1,c2⟩:=qbJ;have c3:=qb1
 have HK1:Hid (∀W v,gC W v [nA,nB]->Calls prog 6 #[v] W (q6e (q0x [nA,nB]) 0 W)):=qa (fun W v h=>by
  have h:=q6g h qAB;rw[c1]at h;exact h)
 have HK2:Hid (∀W,Calls prog 6 #[.slice none 0 0] W (q6e (q0x []) 17 W)):=qa (fun W=>by
  have h:=q6g (w:=W) (v:=.slice none 0 0) (ll:=[]) ⟨[],Sl.nil _,rfl,fun i hi=>absurd hi (qC i)⟩ (fun l hl=>by cases hl);rw[c3]at h;exact h)
 generalize q0x [nA,nB]=D at*
 have HA1:Hid (∀W C,q1z W C D->Calls prog 16 #[.agg C,.string ⟨#[98]⟩] W fun e w'=>e=.returned (.int .i64 0)/\∃x,w'=ext W x):=qa (fun W C h=>by
  have h:=after (.agg C) D ⟨#[98]⟩ W ⟨C,rfl,h⟩ (by decide);rw[show eR D (ByteArray.mk #[98]).data.toList=0 from(c2 _).trans qbK]at h;exact h)
 have HA2:Hid (∀W C,q1z W C D->Calls prog 16 #[.agg C,.string ⟨#[97,98]⟩] W fun e w'=>e=.returned (.int .i64 1)/\∃x,w'=ext W x):=qa (fun W C h=>by
  have h:=after (.agg C) D ⟨#[97,98]⟩ W ⟨C,rfl,h⟩ (by decide);rw[show eR D (ByteArray.mk #[97,98]).data.toList=1 from(c2 _).trans qbL]at h;exact h)
 have HA3:Hid (∀W C,q1z W C D->Calls prog 16 #[.agg C,.string ⟨#[]⟩] W fun e w'=>e=.returned (.int .i64 (-1))/\∃x,w'=ext W x):=qa (fun W C h=>by
  have h:=after (.agg C) D ⟨#[]⟩ W ⟨C,rfl,h⟩ (by decide);rw[show eR D (ByteArray.mk #[]).data.toList= -1 from(c2 _).trans qbM]at h;exact h)
 generalize q0x []=D0 at*;clear c1 c2 c3 hZ hqA hqB;go_enter func5,ntmps5
 go_upto_region 3 with(first
  |((with_reducible refine(HP0.o _).mono ?_);rintro e wa ⟨v0,ca,ba,rfl,hn,hb,hc⟩;obtain rfl:ca=0:=hc.2 rfl;have hna:bE wa v0 nA:=eL.sl hn;(obtain⟨o0,k0,b0,f0,rfl,-,-⟩:=hna.open);have HNA:=qa hna;clear hna;have HB:=qa (HB.o.trans (hb.mono HB.o.size));clear hn hb hc)
  |((with_reducible refine(HP1.o _).mono ?_);rintro e wb ⟨v1,cb,bb,rfl,hn,hb,hc⟩;obtain rfl:cb=0:=hc.2 rfl;have hnb:bE wb v1 nB:=eL.sl hn;(obtain⟨o1,k1,b1,f1,rfl,-,-⟩:=hnb.open);have HNB:=qa hnb;clear hnb;have HNA:=qa (HNA.o.up hb);have HB:=qa (HB.o.trans (hb.mono HB.o.size));clear hn hb hc))
 obtain⟨n0,hn0⟩:∃n,n=nA.length:=⟨_,rfl⟩;obtain⟨n1,hn1⟩:∃n,n=nB.length:=⟨_,rfl⟩;rw[<-hn0]at HNA⊢;rw[<-hn1]at HNB⊢;clear hn0 hn1 HP0 HP1;have hbl:=aD wb (.cells #[.slice o0 n0 k0,.slice o1 n1 k1] 42)
 have HTT:Hid (gC (wb.alloc (.cells #[.slice o0 n0 k0,.slice o1 n1 k1] 42)) (.slice (some ⟨wb.heap.size,0,none⟩) 2 2) [nA,nB]):=qa (by
  refine⟨[.slice o0 n0 k0,.slice o1 n1 k1],by simpa using eK wb #[.slice o0 n0 k0,.slice o1 n1 k1] 42 (by simp),rfl,fun i hi=>?_⟩;rcases(show i=0\/i=1 by simp at hi;omega)with rfl|rfl
  ·exact HNA.o.up hbl
  exact HNB.o.up hbl)
 have HNA:=qa (HNA.o.up hbl);have HNB:=qa (HNB.o.up hbl);have HB:=qa (HB.o.trans (hbl.mono HB.o.size));clear hbl
 go_upto_region 5 with(first
  |((with_reducible refine(HK1.o _ _ HTT.o).mono ?_);rintro e wc ⟨vc,rfl,⟨C0,rfl,hdv⟩,hb⟩;have HDV:=qa hdv;have HNA:=qa (HNA.o.up hb);have HNB:=qa (HNB.o.up hb);have HB:=qa (HB.o.trans (hb.mono HB.o.size));clear hdv hb)
  |(refine oO rfl _ _ rfl wc.heap.size rfl C0 rfl HDV.o (HBN.o wc) ?_;intro wd hg hgr;obtain⟨hd,hb⟩:=xL.new HDV.o hg hgr;have HDI:=qa hd;have HNA:=qa (HNA.o.up hb);have HNB:=qa (HNB.o.up hb);have HB:=qa (HB.o.trans (hb.mono HB.o.size));clear hg hgr hd hb)
  |((with_reducible refine(HK2.o _).mono ?_);rintro e we ⟨ve,rfl,⟨C1,rfl,hdv⟩,hb⟩;have qhn:=qa hdv;have HDI:=qa (HDI.o.up hb);have HNA:=qa (HNA.o.up hb);have HNB:=qa (HNB.o.up hb);have HB:=qa (HB.o.trans (hb.mono HB.o.size));clear hdv hb)
  |(refine oO rfl _ _ rfl we.heap.size rfl C1 rfl qhn.o (HBN.o we) ?_;intro wf hg hgr;obtain⟨-,hb⟩:=xL.new qhn.o hg hgr;have HDI:=qa (HDI.o.up hb);have HNA:=qa (HNA.o.up hb);have HNB:=qa (HNB.o.up hb);have HB:=qa (HB.o.trans (hb.mono HB.o.size));clear hg hgr hb))
 clear HK1 HK2 HTT HDV qhn HBN hz;generalize wc.heap.size=g0 at*;generalize we.heap.size=g1 at*;have HCS:=qa HDI.o.2.hsize
 go_wp2_with(first
  |((with_reducible refine(HM1.o _ _ HNA.o).mono ?_);rintro e wg ⟨rfl,hx⟩;have hb:=aI hx;have HDI:=qa (HDI.o.up hb);have HNA:=qa (HNA.o.up hb);have HNB:=qa (HNB.o.up hb);have HB:=qa (HB.o.trans (hb.mono HB.o.size));clear hx hb)
  |((with_reducible refine(HM2.o _ _ HNA.o).mono ?_);rintro e wg ⟨rfl,hx⟩;have hb:=aI hx;have HDI:=qa (HDI.o.up hb);have HNA:=qa (HNA.o.up hb);have HNB:=qa (HNB.o.up hb);have HB:=qa (HB.o.trans (hb.mono HB.o.size));clear hx hb)
  |((with_reducible refine(HM3.o _ _ HNB.o).mono ?_);rintro e wg ⟨rfl,hx⟩;have hb:=aI hx;have HDI:=qa (HDI.o.up hb);have HNA:=qa (HNA.o.up hb);have HNB:=qa (HNB.o.up hb);have HB:=qa (HB.o.trans (hb.mono HB.o.size));clear hx hb)
  |((with_reducible refine(HF1.o _ _ HNA.o).mono ?_);rintro e wg ⟨of,cf,rfl,hb⟩;have HDI:=qa (HDI.o.up hb);have HNA:=qa (HNA.o.up hb);have HNB:=qa (HNB.o.up hb);have HB:=qa (HB.o.trans (hb.mono HB.o.size));clear hb)
  |((with_reducible refine(HF2.o _ _ HNA.o).mono ?_);rintro e wg ⟨of2,cf2,rfl,hb⟩;have HDI:=qa (HDI.o.up hb);have HNA:=qa (HNA.o.up hb);have HNB:=qa (HNB.o.up hb);have HB:=qa (HB.o.trans (hb.mono HB.o.size));clear hb))
 refine mU _ rfl g0 rfl C0 HCS.o HDI.o.1 ?_
 go_wp2_with(fail)
 refine(HA1.o _ _ HDI.o.2).mono ?_;rintro e w2 ⟨rfl,hx⟩;have hb:=aI hx;have HDI:=qa (HDI.o.up hb);have HB:=qa (HB.o.trans (hb.mono HB.o.size));clear hx hb
 go_wp2_with(fail)
 refine mU _ rfl g0 rfl C0 HCS.o HDI.o.1 ?_
 go_wp2_with(fail)
 refine(HA2.o _ _ HDI.o.2).mono ?_;rintro e w3 ⟨rfl,hx⟩;have hb:=aI hx;have HDI:=qa (HDI.o.up hb);have HB:=qa (HB.o.trans (hb.mono HB.o.size));clear hx hb
 go_wp2_with(fail)
 refine mU _ rfl g0 rfl C0 HCS.o HDI.o.1 ?_
 go_wp2_with(fail)
 refine(HA3.o _ _ HDI.o.2).mono ?_;rintro e w4 ⟨rfl,hx⟩;have HB:=qa (HB.o.trans ((aI hx).mono HB.o.size));clear hx
 go_wp2_with(fail)
 go_ret;exact⟨rfl,aJ HB.o⟩
theorem q3U(ll:List (List Nd)):(uC ll≠0/\V9 ll=uC ll)\/(uC ll=0/\V9 ll=3)\/(uC ll=0/\V9 ll=0/\∃R,kM (oK ll)=some R/\q0x ll=sG (oK ll) R):=by
 by_cases h:uC ll=0
 ·right
  cases hl:kM (oK ll)with
  |none=>exact .inl ⟨h,by unfold V9;rw[qw h];unfold q8s;rw[hl]⟩
  |some R=>exact .inr ⟨h,by unfold V9;rw[qw h];unfold q8s;rw[hl],R,rfl,by unfold q0x;rw[qw h];unfold q9d;rw[hl]⟩
 exact .inl ⟨h,by unfold V9;rw[qv h]⟩
theorem qcv{w:World}{v:Value}{ll:List (List Nd)}(h:gC w v ll)(hq:rC ll):
  Calls prog 7 #[v] w fun e w'=>∃oe n ce orr m cr ee rr,e=.returned (.tuple #[.agg #[.slice oe n ce,.int .i64 0,.slice orr m cr],.int .i64 (uC ll)])/\X4 w' #[.slice oe n ce,.int .i64 0,.slice orr m cr] ee 0 rr/\(uC ll=0->dK ee 0 rr=true/\∀t,q98 ee 0 rr t=nD ll.length (fun k=>D5 (ll.getD k []) t))/\tot ee<=10000/\(∀a x,x∈Row ee a->EdW x)/\Below w.heap.size w w':=by
 refine(q22 h).mono ?_;rintro e w' ⟨A,rfl,h1,h2,hb⟩;by_cases h0:uC ll=0
 ·have hm:=q4T h0 hq
  obtain⟨ve,vr,rfl,he,hr⟩:=h1 h0;have hV:X4 w' #[ve,.int .i64 0,vr] _ 0 _:=⟨ve,vr,rfl,he,hr⟩;obtain⟨oe,ce,be,fe,rfl,-,-⟩:=he.open;obtain⟨orr,cr,br,fr,rfl,-,-⟩:=hr.open;exact⟨oe,_,ce,orr,_,cr,_,_,rfl,hV,fun _=>⟨hm.right,hm.run⟩,hm.few,fun a x hx=>(hm.edq a x hx).2,hb⟩
 have hA:=h2 h0;subst hA;exact⟨none,0,0,none,0,0,[],[],rfl,⟨_,_,rfl,⟨[],Sl.nil _,rfl,fun i hi=>absurd hi (qC i)⟩,Sl.nil _⟩,fun h=>absurd h h0,by decide,fun a x hx=>by simp[Row]at hx,hb⟩
theorem q3V{ll:List (List Nd)}(h0:uC ll=0)(hq:rC ll){R:List Fo}(hR:kM (oK ll)=some R){e:List (List Ed)}{r:List Int}{Rn:List (List Nat)}(hr:dK e 0 r=true)(hrun:∀t,q98 e 0 r t=nD ll.length (fun k=>D5 (ll.getD k []) t))(hn:nH e 0 r=some Rn):
  bD (sG (oK ll) R)/\bD (tV e 0 r Rn)/\bX (sG (oK ll) R)=bX (tV e 0 r Rn):=by
 obtain⟨qeb,-,h32,-⟩:=q4S h0;have hv1:bD (sG (oK ll) R):=M1 hR (by obtain⟨g1,g2,-⟩:=vC qeb hq;omega);have hv2:=M0 hr hn;have l1:(sG (oK ll) R).cls.length=256:=by simp[sG,iI]
 have l2:(tV e 0 r Rn).cls.length=256:=zC e;refine⟨hv1,hv2,q3T (P9 hv1 l1) (P9 hv2 l2) fun t=>?_⟩;rw[P2 hv1 l1,P2 hv2 l2,q59 qeb hq h32 hR,q3n hr hn,hrun]
theorem q3W{w:World}{v:Value}{ll:List (List Nd)}(h:gC w v ll)(hq:rC ll):
  Calls prog 3 #[v] w fun e w'=>e=.returned (.bool true)/\∃x,w'=ext w x:=by
 have HKN:=qa (fun(x:World)=>q9U (w:=x));have qhj:=qa (qc4 h 60);have HTR:=qa h;obtain⟨oa,cap,b,off,rfl,hd,hc⟩:=h.open;obtain⟨ln,hln⟩:∃ln,ln=ll.length:=⟨_,rfl⟩;rw[<-hln]at HTR qhj⊢;have hz:=vS;obtain⟨Z,hZ⟩:∃Z,Z=X7:=⟨_,rfl⟩;rw[<-hZ]at hz;have HBN:Hid (∀W:World,mY (W.alloc (.cells Z 29)) W.heap.size (.slice none 0 0) (.slice none 0 0) (List.replicate 256 0)):=qa (fun W=>hZ▸tR W);have HQ:=qa hq;clear hd hc h hq hln hZ;go_enter func3,ntmps3
 go_upto_region 3 with(first
  |((with_reducible refine qhj.o.mono ?_);rintro en w1 ⟨⟨bf,rfl⟩,x1,rfl⟩;cases bf)
  |((with_reducible refine(HKN.o _).mono ?_);rintro en w2 ⟨rfl,x2,rfl⟩))
 ·go_ret
  exact⟨rfl,aJ (gK (aE w x1) x2)⟩
 have HB1:=qa (aE w x1);clear qhj;generalize ext w x1=w1 at*;have HDM:=qa (q6g (HTR.o.up HB1.o) HQ.o);have HNQ:=qa (fun(W:World) (hb:Below w.heap.size w W)=>qcv (HTR.o.up hb) HQ.o);obtain⟨E,hE⟩:∃E,E=V9 ll:=⟨_,rfl⟩;obtain⟨D,hD⟩:∃D,D=q0x ll:=⟨_,rfl⟩;obtain⟨M,hM⟩:∃M,M=uC ll:=⟨_,rfl⟩;have HED:=qa (q3U ll);rw[<-hE,<-hD,<-hM]at HED;rw[<-hE,<-hD]at HDM;rw[<-hM]at HNQ;have HLB:=qa (fun(h0:M=0) R (hR:kM (oK ll)=some R) e r Rn hr hrun hn=>q3V (R:=R) (e:=e) (r:=r) (Rn:=Rn) (by rw[<-hM];exact h0) HQ.o hR hr hrun hn);clear hE hD hM
 go_upto_region 5 with(first
  |((with_reducible refine HDM.o.mono ?_);rintro e w2 ⟨vc,rfl,⟨C0,rfl,hdv⟩,hb⟩;have HDV:=qa hdv;have HB2:=qa (HB1.o.trans (hb.mono HB1.o.size));clear hdv hb)
  |(refine oO rfl _ _ rfl w2.heap.size rfl C0 rfl HDV.o (HBN.o w2) ?_;intro wd hg hgr;obtain⟨hd,hb⟩:=xL.new HDV.o hg hgr;have HDI:=qa hd;have HB3:=qa (HB2.o.trans (hb.mono HB2.o.size));clear hg hgr hd hb)
  |((with_reducible refine(HNQ.o _ HB3.o).mono ?_);rintro e w4 ⟨oe,n,ce,orr,m,cr,ee,rr,rfl,hnv,hnr,hnt,hnw,hb⟩;have HNV:=qa hnv;have HNR:=qa hnr;have HNT:=qa hnt;have HNW:=qa hnw;have qjf:=qa (HDI.o.up hb);have HB4:=qa (HB3.o.trans (hb.mono HB3.o.size));clear hnv hnr hnt hnw hb))
 have hbA:=aD w4 (.cells #[.slice oe n ce,.int .i64 0,.slice orr m cr] 35);have HBX:=qa (by simpa using cN w4 0 #[.slice oe n ce,.int .i64 0,.slice orr m cr] 35 (by simp) (qd _):Own (w4.alloc (.cells #[.slice oe n ce,.int .i64 0,.slice orr m cr] 35)) 0 35 (.slice (some ⟨w4.heap.size,0,none⟩) 3 3) [.slice oe n ce,.int .i64 0,.slice orr m cr]);have HSP:=qa (q85 (HNV.o.up hbA) HNW.o (by have:=HNT.o;omega));have qje:=qa (qjf.o.up hbA);have HB5:=qa (HB4.o.trans (hbA.mono HB4.o.size));have HSC:=qa (q6w ee 0 rr);obtain⟨G,hG⟩:∃G,G=q3Y ee 0 rr:=⟨_,rfl⟩;obtain⟨D2,hD2⟩:∃D2,D2=q51 ee 0 rr:=⟨_,rfl⟩;unfold q8O at HSP;rw[<-hG,<-hD2]at HSC HSP;clear hG hD2 hbA HB4 qjf HNV HNW HNT HB1 HB2 HB3 HDI HDV HNQ HDM HTR;generalize (w4.alloc (.cells #[.slice oe n ce,.int .i64 0,.slice orr m cr] 35))=w5 at*;generalize w4.heap.size=p4 at*;generalize w2.heap.size=g2 at*
 go_upto_region 6 with(first
  |(refine aH rfl 35 _ rfl p4 0 3 rfl _ _ (pR HBX.o) rfl underlying35 rfl (by kernel_rfl) ?_)
  |((with_reducible refine HSP.o.mono ?_);rintro e w6 ⟨v6,rfl,⟨C6,rfl,hdv⟩,hb⟩;have qhm:=qa hdv;have qjd:=qa (qje.o.up hb);have HB6:=qa (HB5.o.trans (hb.mono HB5.o.size));clear hdv hb)
  |(refine oO rfl _ _ rfl w6.heap.size rfl C6 rfl qhm.o (HBN.o w6) ?_;intro w7 hg hgr;obtain⟨hd,hb⟩:=xL.new qhm.o hg hgr;have qho:=qa (qjd.o.up hb);have qjc:=qa hd;have HB7:=qa (HB6.o.trans (hb.mono HB6.o.size));clear hg hgr hd hb))
 clear HSP HBX qje HB5 qhm qjd HB6;generalize w6.heap.size=g6 at*;rcases HED.o with⟨h0,rfl⟩|⟨h0,rfl⟩|⟨h0,rfl,R,hR,hI⟩
 ·have hm0:(E==0)=false:=beq_eq_false_iff_ne.2 h0
  have hm1:(E != 0)=true:=bne_iff_ne.2 h0;clear h0
  exact ZmO0
 ·exact ZmO0
 subst h0;rcases HSC.o with⟨rfl,hr,Rn,hn,hI2⟩|⟨hg,-⟩
 ·obtain⟨hv1,hv2,heq⟩:=HLB.o rfl R hR ee rr Rn hr (HNR.o rfl).2 hn
  rw[<-hI]at hv1 heq;rw[<-hI2]at hv2 heq;have HM1:=qa (fun(W:World) (C:Array Value) (h:q1z W C D)=>qb3 (.agg C) D W ⟨C,rfl,h⟩);have HM2:=qa (fun(W:World) (C:Array Value) (h:q1z W C D2)=>qb3 (.agg C) D2 W ⟨C,rfl,h⟩);have HE1:=qa (G8 hv1);have HE2:=qa (G8 hv2);have HI1:=qa (G7 hv1);have HI2:=qa ((G7 hv2).trans heq.symm);clear hv1 hv2 heq hr hn hR hI hI2;have HC0:=qa qho.o.2.hsize;have HC6:=qa qjc.o.2.hsize;have qih:=qho.o.2
  go_upto_region 9 with(first
   |(refine dI rfl _ rfl g2 rfl C0 HC0.o qho.o.1 ?_)
   |((with_reducible refine(HM1.o _ _ qih).mono ?_);rintro e w8 ⟨v8,rfl,⟨C8,rfl,hdv⟩,hb⟩;rw[HE1.o];rw[HI1.o]at hdv;have qja:=qa hdv;have qli:=qa (qjc.o.up hb);have HB8:=qa (HB7.o.trans (hb.mono HB7.o.size));clear hdv hb qih)
   |(refine oO rfl _ _ rfl w8.heap.size rfl C8 rfl qja.o (HBN.o w8) ?_;intro w9 hg hgr;obtain⟨hd,hb⟩:=xL.new qja.o hg hgr;have qjb:=qa (qli.o.up hb);have HX9:=qa hd;have HB9:=qa (HB8.o.trans (hb.mono HB8.o.size));clear hg hgr hd hb))
  generalize w8.heap.size=g8 at*;have qig:=qjb.o.2
  go_upto_region 10 with(first
   |(refine dI rfl _ rfl g6 rfl C6 HC6.o qjb.o.1 ?_)
   |((with_reducible refine(HM2.o _ _ qig).mono ?_);rintro e w10 ⟨v10,rfl,⟨C10,rfl,hdv⟩,hb⟩;rw[HE2.o];rw[HI2.o]at hdv;have qfP:=qa hdv;have qeh:=qa (HX9.o.up hb);have qgk:=qa (HB9.o.trans (hb.mono HB9.o.size));clear hdv hb qig)
   |(refine oO rfl _ _ rfl w10.heap.size rfl C10 rfl qfP.o (HBN.o w10) ?_;intro w11 hg hgr;obtain⟨hd,hb⟩:=xL.new qfP.o hg hgr;have qfx:=qa (qeh.o.up hb);have qgR:=qa hd;have qdc:=qa (qgk.o.trans (hb.mono qgk.o.size));clear hg hgr hd hb))
  generalize w10.heap.size=g10 at*;have HC8:=qa qfx.o.2.hsize;have qd7:=qa qgR.o.2.hsize;have HSS:=qa (q6v (.agg C8) (.agg C10) (bX D) w11 ⟨C8,rfl,qfx.o.2⟩ ⟨C10,rfl,qgR.o.2⟩)
  go_wp2_with(fail)
  refine mU _ rfl g8 rfl C8 HC8.o qfx.o.1 ?_
  go_wp2_with(fail)
  refine mU _ rfl g10 rfl C10 qd7.o qgR.o.1 ?_
  go_wp2_with(fail)
  (with_reducible refine HSS.o.mono ?_)
  rintro e w12 ⟨rfl,x12,rfl⟩;have qcY:=qa (qdc.o.trans ((aE w11 x12).mono qdc.o.size))
  go_wp2_with((with_reducible refine(HKN.o _).mono ?_);rintro en w13 ⟨rfl,x13,rfl⟩)
  go_ret;exact⟨rfl,aJ (gK qcY.o x13)⟩
 rcases hg with rfl|rfl
 all_goals
  go_wp2_with((with_reducible refine(HKN.o _).mono ?_);rintro en w8 ⟨rfl,x8,rfl⟩)
  go_ret;exact⟨rfl,aJ (gK HB7.o x8)⟩
end Go.Cm
