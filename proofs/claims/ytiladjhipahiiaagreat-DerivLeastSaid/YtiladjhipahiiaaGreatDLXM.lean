/- Walks of functions and plain facts, joined and squeezed by a program. Conditions: as each says. -/
import Derived.Test.YtiladjhipahiiaaGreatDLXL
set_option maxHeartbeats 8000000
set_option maxRecDepth 100000
set_option linter.unusedSimpArgs false
open Go.Proofs.Tryz
namespace Go.Cm
open Go.RowKit Go.Proofs
theorem ZmM0{P:Prop}(h:P:=by
 repeat(go_big_quiet_step ((go_at_call 84;first|(with_reducible exact dH (qcK.o _ (HP.o.box.up (aE _ _))))|(with_reducible exact dH (qd4.o _ (HP.o.box.up (aE _ _)))))))
 refine wpQuiet_nil ?_;intro w1 hw1;have HP1:=qa (HP.o.ext hw1);have HO1:=qa (HO.o.up (aI hw1));have HR1:Hid (iM w1 w.heap.size vs ls):=qa (HRW.o.all (fun v l h=>eL.up h (aI hw1)));clear hw1 c0 c1 c2 hgw;have HAL:Hid (Al s.size z (sH 3 L.1,L.2) (sH 3 ls) y):=qa (Al.same (by rw[HLX.o]) hyl hyp);have HBD:=qa (q0B 3 ls z.p y.p (by omega) hyl);have HSL:Hid (pY ls<=4000000):=qa (by omega);clear HLX;by_cases hne:ls=[]
 ·subst hne
  have HNN:=qa (HNW.o w1 HP1.o.gr.size);have HP7:=qa (HP1.o.below (aD w1 (.cells #[.int .i64 2,.int .i64 0,.int .u64 0,.int .u64 0,.int .u64 0,.int .u64 0,.int .i64 0,.int .i64 0] 98)));go_wp2;go_ret;exact⟨_,_,y,rfl,HNN.o,HP7.o,HAL.o,HBD.o⟩
 have hn0:¬ls.length=0:=fun e=>hne (List.length_eq_zero_iff.1 e);have qgw:((ls.length:Int)==0)=false:=by simpa using hn0
 have HMY:=qa (fun W h1 h2 h3=>HM.o W (.slice oa ls.length cap) vs ls h1 h2 h3 hne HSL.o)
 go_wp2_with(first
  |((with_reducible refine(HMY.o _ HP1.o.gr.size HO1.o HR1.o).mono ?_);rintro e w7 ⟨v7,rfl,ho,hb⟩;have HN7:=qa ho;have HP7:=qa (HP1.o.below hb);clear ho hb))
 go_ret;exact⟨v7,_,y,rfl,HN7.o,HP7.o,HAL.o,HBD.o⟩):P:=h
theorem ZmM1{P:Prop}(h:P:=by
 repeat(first
  |(go_big_quiet_want;refine cW _ rfl p rfl _ (fun w' hw=>by obtain⟨y,rfl⟩:=hw;exact HX8.o.up (aI ⟨_,rfl⟩)) ?_;go_simp;go_big_quiet_on)
  |(go_big_quiet_want;refine cW _ rfl p2 rfl _ (fun w' hw=>by obtain⟨y,rfl⟩:=hw;exact HY8.o.up (aI ⟨_,rfl⟩)) ?_;go_simp;go_big_quiet_on)
  |go_big_quiet_step ((go_at_call 99;first|(with_reducible exact dH (HBC.o _))|(with_reducible exact dH (qeH.o _)))))
 refine wpQuiet_nil ?_;intro x9;obtain⟨w9,qd8⟩:∃w9,w9=ext w8 x9:=⟨_,rfl⟩;rw[<-qd8];have hw9:∃y,w9=ext w8 y:=⟨x9,qd8⟩;clear qd8;have HC9:=qa (HC8.o.ext hw9);have HX9:=qa (HX8.o.up (aI hw9));have HY9:=qa (HY8.o.up (aI hw9));clear hw9
 go_wp2_with(first
  |((with_reducible refine(qhk.o _ _ _ HC9.o.box).mono ?_);rintro e w10 ⟨rfl,hB,hg⟩;have qd7:=qa (HC9.o.act hB hg);clear hB hg)
  |(refine bJ rfl _ rfl q rfl _ qd7.o.set ?_)
  |(refine b7 rfl _ _ rfl b rfl _ _ rfl qd7.o.res ?_;intro w11 hB2 hg2;have qer:=qa hB2;have qfI:=qa (qd7.o.fin hB2 hg2);clear hB2 hg2))
 refine dV (s:=4) (ad:=⟨b,0,none⟩) (x:=fR a) rfl rfl rfl qer.o.load ?_;exact⟨_,_,rfl,HA.o,qfI.o,HAL.o⟩):P:=h
theorem ZmM2{P:Prop}(h:P:=by refine dV (s:=4) (ad:=⟨b,0,none⟩) (x:=fR a2) rfl rfl rfl HC7.o.load ?_;exact⟨_,_,rfl,HA2.o,HQ7.o,HAL.o⟩):P:=h
theorem ZmM3{P:Prop}(h:P:=by
 go_wp2_with(first
  |((with_reducible refine(HTY.o _ HP.o.box).mono ?_);rintro e w1 ⟨rfl,hB,hg⟩;have HP1:=qa (HP.o.act hB hg);have HO1:=qa (HO.o.keep hg (qaR hgl HO.o));have HR1:Hid (iM w1 w.heap.size vs ls):=qa (HRW.o.all (fun v l h=>bH.keepG h hg hgl));clear hB hg)
  |((with_reducible refine(HMY.o _ HP1.o.gr.size HO1.o HR1.o).mono ?_);rintro e w7 ⟨v7,rfl,ho,hb⟩;have HN7:=qa ho;have HP7:=qa (HP1.o.below hb);clear ho hb))
 go_ret;exact⟨v7,_,y,rfl,HN7.o,HP7.o,HAL.o,HBD.o⟩):P:=h
theorem ZmM4{P:Prop}(h:P:=by
 go_roundg (f0+1)
 case measure=>omega
 case rel=>exact⟨f0,_,bZ y,rfl,HN7.o,HP7.o,hlt,by show z.p<=y.p+1;omega,qa (.inl ⟨h0,HRL.o,by show s.size+1<=f0+(y.p+1);omega,by show _<=2*(y.p+1);rw[hnk];omega⟩)⟩):P:=h
theorem ZmM5{P:Prop}(h:P:=by refine dV (s:=4) (ad:=⟨b,0,none⟩) (x:=fR a) rfl rfl rfl HC9.o.load ?_;exact⟨_,_,rfl,HA.o,HQ9.o,HAL.o⟩):P:=h
theorem q2P(s:eZ)(frm:Nat):∀(f a:Nat) (z:PS),z.e≠0->E2 s frm f a z=(a,z)
 |0,_,_,_=>rfl
 |f+1,a,z,h=>by unfold E2;rw[qw h]
theorem q9P{s:eZ}{frm:Nat}{z:PS}(h:(E2 s frm (s.length+1) 0 (bU s 94 z).2).2.e≠0):(q3t s frm z).2.e≠0:=by
 unfold q3t;simp only;split
 ·split
  ·rw[xF h];exact h
  exact h
 split
 ·rw[xF h];exact h
 exact h
theorem q7Z{s:eZ}{frm f a:Nat}{z:PS}(h:lU s 93 z=true):E2 s frm (f+1) a z=(a,bZ z):=by
 obtain⟨h0,-,-⟩:=nW h;unfold E2;rw[qv (fun e=>e h0),kU,h];rfl
theorem q6r{s:eZ}{frm f a:Nat}{z:PS}(h0:z.e=0)(h:s.length<=z.p):(E2 s frm (f+1) a z).2.e≠0:=by
 have hi:lU s 93 z=false:=by
  cases hh:lU s 93 z with
  |false=>rfl
  |true=>have:=(nW hh).2.1;omega
 unfold E2;rw[qv (fun e=>e h0),kU,hi];simp only[qT,jt];rw[qw h];exact cP _ (by decide)
theorem q6s{s:eZ}{frm f a:Nat}{z:PS}(h0:z.e=0)(hi:lU s 93 z=false)(h:z.p<s.length):E2 s frm (f+1) a z=E2 s frm f (a|||(q2q s frm z).1) (q2q s frm z).2:=by
 rw[E2,qv (fun e=>e h0),kU,hi];simp only[qT,jt];rw[qv (by omega)]
theorem q6t{s:eZ}{frm:Nat}{z:PS}(h:(lA s z).2.e≠0):(q2q s frm z).2.e≠0:=by
 unfold q2q;simp only[sJ h];exact h
theorem q9Q{s:eZ}{frm:Nat}{z:PS}(h:lU s 45 (lA s z).2=false):q2q s frm z=((lA s z).1.1,(lA s z).2):=by
 unfold q2q;simp only[kU,h];rfl
theorem q80{s:eZ}{frm:Nat}{z:PS}(h:lU s 45 (lA s z).2=true):q2q s frm z=(match nxR s (bZ (lA s z).2)with
  |none=>((lA s z).1.1,bV 16 frm (bZ (lA s z).2))
  |some c=>
   if c=93 then((lA s z).1.1,bV 15 (bZ (lA s z).2).p (bZ (lA s z).2))
   else
    if(lA s (bZ (lA s z).2)).2.e≠0 then((lA s z).1.1,(lA s (bZ (lA s z).2)).2)
    else if(lA s z).1.2||(lA s (bZ (lA s z).2)).1.2||decide (Nat.log2 (lA s (bZ (lA s z).2)).1.1<Nat.log2 (lA s z).1.1)then((lA s z).1.1,bV 18 (lA s z).2.p (lA s (bZ (lA s z).2)).2)
    else(nS (Nat.log2 (lA s z).1.1) (Nat.log2 (lA s (bZ (lA s z).2)).1.1),(lA s (bZ (lA s z).2)).2)):=by
 unfold q2q;simp only[kU,h,jJ];rfl
theorem q9R{s:eZ}{z:PS}(h:(lA s z).2.e=0):z.p<(lA s z).2.p:=by
 unfold lA at h⊢;cases hn:nxR s z with
 |none=>rw[hn]at h;exact absurd h (cP z (by decide))
 |some c=>
  rw[hn]at h;simp only at h⊢;split
  ·exact(E4 hn).2
  rename_i h1;rw[qv h1]at h;split
  ·rename_i h2
   rw[qw h2]at h;exact absurd h (cP z (by decide))
  exact qV _
theorem q9S(P:Prop) [Decidable P]{e a:Nat}{y:PS}(h:y.e≠0):(if P then bV e a y else y)=y:=by
 split
 ·exact xF h
 rfl
theorem q2Q(P:Prop) [Decidable P]{e a:Nat}{y:PS}:(if P then bV e a y else y).p=y.p:=by
 split
 ·exact f6 y
 rfl
structure QC(w0 w:World)(g:Nat)(s:ByteArray)(z:PS)(b q a:Nat):Prop where
 box:dY w g s z
 res:lB w b 0
 set:lB w q a
 gr:w0.grownBy w (some g)
 gl:g<w0.heap.size
 lo:w0.heap.size<=b
 bq:b<q
section
variable {w0 w w' : World} {g : Nat} {s : ByteArray} {z : PS} {b q a : Nat}
theorem QC.below(h:QC w0 w g s z b q a)(hb:Below w.heap.size w w'):QC w0 w' g s z b q a:=
 ⟨h.box.up hb,h.res.up hb,h.set.up hb,aL h.gr (aK hb _),h.gl,h.lo,h.bq⟩
theorem QC.ext(h:QC w0 w g s z b q a)(hx:∃y,w'=ext w y):QC w0 w' g s z b q a:=h.below (aI hx)
theorem QC.act{z':PS}(h:QC w0 w g s z b q a)(hB:dY w' g s z')(hg:w.grownBy w' (some g)):QC w0 w' g s z' b q a:=
 ⟨hB,h.res.keepP hg (by have:=h.lo;have:=h.gl;omega),h.set.keepP hg (by have:=h.lo;have:=h.gl;have:=h.bq;omega),aL h.gr hg,h.gl,h.lo,h.bq⟩
theorem QC.store{y:Nat}(h:QC w0 w g s z b q a)(hB:lB w' q y)(hg:w.grownBy w' (some q)):QC w0 w' g s z b q y:=
 ⟨h.box.keepP hg (by have:=h.lo;have:=h.gl;have:=h.bq;omega),h.res.keepP hg (by have:=h.bq;omega),hB,oM h.gr hg (fun k e=>by injection e with e;have:=h.lo;have:=h.bq;omega),h.gl,h.lo,h.bq⟩
theorem QC.far{k:Nat}(h:QC w0 w g s z b q a)(hg:w.grownBy w' (some k))(hk:w0.heap.size<=k)(hb:k≠b)(hq:k≠q):QC w0 w' g s z b q a:=
 ⟨h.box.keepP hg (by have:=h.gl;omega),h.res.keepP hg hb,h.set.keepP hg hq,oM h.gr hg (fun j e=>by injection e with e;omega),h.gl,h.lo,h.bq⟩
theorem QC.qs(h:QC w0 w g s z b q a):Qs w0 w g s z:=⟨h.box,h.gr,h.gl⟩
theorem QC.fin{y:Nat}(h:QC w0 w g s z b q a)(_:lB w' b y)(hg:w.grownBy w' (some b)):Qs w0 w' g s z:=
 ⟨h.box.keepP hg (by have:=h.lo;have:=h.gl;omega),oM h.gr hg (fun k e=>by injection e with e;have:=h.lo;omega),h.gl⟩
end
def qc0(r:Nat×PS)(g:Nat)(s:ByteArray)(z:PS)(w:World)(e:Ending)(w':World):Prop:=
 ∃x z',e=.returned (fR x)/\x<2^256/\Qs w w' g s z'/\Al s.size z r x z'
theorem qcm{w:World}{g frm:Nat}{s:ByteArray}{z:PS}(h:dY w g s z)(hs:s.size<=1000000)(hz0:z.e=0)(hzp:z.p<=s.size):
  Calls prog 92 #[.pointer (some ⟨g,0,none⟩),.int .i64 frm] w (qc0 (q3t (bys s) frm z) g s z w):=by
 have hz:=vG;obtain⟨Z,hZ⟩:∃Z,Z=z4:=⟨_,rfl⟩;rw[<-hZ]at hz;have HNW:Hid (∀W:World,lB (W.alloc (.cells Z 53)) W.heap.size 0):=qa (fun W=>kP W Z hZ);have HCM:Hid (∀x,x<2^256->∀W,(binOp .eql 53 (fR x) (.agg Z)).run prog W=.ok (.bool (decide (x=0))) W):=qa (fun x hx W=>q7X hx Z hZ W);have hgd:=q6j;have HE0:Hid (QEs w (w.alloc (.cells Z 53)) g s z w.heap.size 0):=qa ⟨h.up (aD _ _),kP w Z hZ,aK (aD _ _) _,qb _,h.lt⟩;have qgW:Hid (∀W,dY W g s z->Calls prog 69 #[.pointer (some ⟨g,0,none⟩),.int .u8 94] W (sM (.bool (bU (bys s) 94 z).1) g s (bU (bys s) 94 z).2 W)):=qa (fun W h=>xK h hs 94);have qiJ:Hid (∀W y,dY W g s y->Calls prog 69 #[.pointer (some ⟨g,0,none⟩),.int .u8 93] W (sM (.bool (bU (bys s) 93 y).1) g s (bU (bys s) 93 y).2 W)):=qa (fun W y h=>xK h hs 93);have qkR:Hid (∀W y,dY W g s y->Calls prog 69 #[.pointer (some ⟨g,0,none⟩),.int .u8 45] W (sM (.bool (bU (bys s) 45 y).1) g s (bU (bys s) 45 y).2 W)):=qa (fun W y h=>xK h hs 45);have qj2:Hid (∀W y,dY W g s y->Calls prog 84 #[.pointer (some ⟨g,0,none⟩),.int .u8 93] W fun e w'=>e=.returned (.bool (lU (bys s) 93 y))/\∃x,w'=ext W x):=qa (fun W y h=>isQ h 93);have HF:Hid (∀W (e a:Nat) y,dY W g s y->Calls prog 39 #[.pointer (some ⟨g,0,none⟩),.int .i64 e,.int .i64 a] W (sM (.tuple #[]) g s (bV e a y) W)):=qa (fun W e a y h=>W2 h e a);have HCH:Hid (∀W y,dY W g s y->y.e=0->y.p<=s.size->Calls prog 98 #[.pointer (some ⟨g,0,none⟩)] W (qaW (lA (bys s) y) g s y W)):=qa (fun W y h h0 hp=>qck h hs h0 hp);have HOR:Hid (∀W (x y:Nat),x<2^256->y<2^256->Calls prog 101 #[fR x,fR y] W (gN (x|||y) W)):=qa (fun W x y hx hy=>orQ hx hy W);have HNT:Hid (∀W (x:Nat),x<2^256->Calls prog 93 #[fR x] W (gN (X5 x) W)):=qa (fun W x hx=>qbV hx W);have HBY:Hid (∀W (c:UInt8),Calls prog 99 #[fR (lX c)] W fun e w'=>e=.returned (.string ⟨#[c]⟩)/\∃y,w'=ext W y):=qa (fun W c=>by have:=q5B (lX c) W;rwa [q7A]at this);have HRG:Hid (∀W (a b:UInt8),Calls prog 100 #[.int .u8 (a.toNat:Nat),.int .u8 (b.toNat:Nat)] W (gN (nS a.toNat b.toNat) W)):=qa (fun W a b=>q0m a b W);have HL0:Hid ((0:Nat)<2^256):=qa qbB;obtain⟨R,hR⟩:∃R,R=q3t (bys s) frm z:=⟨_,rfl⟩;have hRB:=@q9P (bys s) frm z;rw[<-hR]at hRB⊢;have hR2:R=((if(bU (bys s) 94 z).1 then X5 (E2 (bys s) frm ((bys s).length+1) 0 (bU (bys s) 94 z).2).1 else(E2 (bys s) frm ((bys s).length+1) 0 (bU (bys s) 94 z).2).1),if(if(bU (bys s) 94 z).1 then X5 (E2 (bys s) frm ((bys s).length+1) 0 (bU (bys s) 94 z).2).1 else(E2 (bys s) frm ((bys s).length+1) 0 (bU (bys s) 94 z).2).1)=0 then bV 17 frm (E2 (bys s) frm ((bys s).length+1) 0 (bU (bys s) 94 z).2).2 else(E2 (bys s) frm ((bys s).length+1) 0 (bU (bys s) 94 z).2).2):=by rw[hR];rfl
 have hst:=kR (bys s) 94 z;have hte:(bU (bys s) 94 z).2.e=0:=by rw[kU];split<;>exact hz0
 have htp:=hst.len (by rw[cH];exact hzp);have htl:=hst.le;rw[cH]at htp hR2;generalize bU (bys s) 94 z=T at*;obtain⟨bn,zt⟩:=T;simp only at hte htp htl hR2 hRB qgW;obtain⟨L,hL⟩:∃L,L=E2 (bys s) frm (s.size+1) 0 zt:=⟨_,rfl⟩;rw[cH,<-hL]at hRB;rw[<-hL]at hR2;have HRB:=qa hRB;have HR2:=qa hR2;have HL:=qa hL.symm;clear hR hR2 hRB hst hL hZ h;go_enter func92,ntmps92
 go_wp2_with((with_reducible refine(qgW.o _ HE0.o.box).mono ?_);rintro e w1 ⟨rfl,hB,hg⟩;have HE1:=qa (HE0.o.act hB hg);have HN1:=qa (HNW.o w1);clear hB hg)
 have hba:=aD w1 (.cells Z 53);have HC0:Hid (QC w (w1.alloc (.cells Z 53)) g s zt w.heap.size w1.heap.size 0):=qa ⟨HE1.o.box.up hba,HE1.o.set.up hba,HN1.o,aL HE1.o.gr (aK hba _),HE1.o.gl,qb _,HE1.o.set.lt⟩;generalize w1.alloc (.cells Z 53)=w2 at*;obtain⟨q,hq⟩:∃q,q=w1.heap.size:=⟨_,rfl⟩;obtain⟨b,hb⟩:∃b,b=w.heap.size:=⟨_,rfl⟩;rw[<-hq,<-hb]at HC0⊢;have HBW:=qa hb;clear hq hb hba HE1 HN1 HE0 qgW
 go_loopg [] (s.size+2) (fun gk wr=>∃(f a:Nat) (y:PS),gk=f+1/\a<2^256/\QC w wr g s y b q a/\y.p<=s.size/\zt.p<=y.p/\((y.e=0/\Hid (E2 (bys s) frm f a y=L)/\s.size+1<=f+y.p)\/(y.e≠0/\L.2.e≠0)))
 case atStart=>exact⟨s.size+1,0,zt,rfl,HL0.o,HC0.o,htp,qb _,.inl ⟨hte,HL,by omega⟩⟩
 case round=>
  clear HC0 HL;obtain⟨f,a,y,hgk,ha,hC,hyp,hyl,hy⟩:=hrel;have HC:=qa hC;have HA:=qa ha;clear hC ha;have c2:=HC.o.box.c2;rcases hy with⟨h0,HCL,hf⟩|⟨h0,hLb⟩;rotate_left 1
  ·have he':((y.e:Int)==0)=false:=by simpa using h0
   have HRe:=qa (HRB.o hLb)
   have HAL:Hid (Al s.size z R (if bn then X5 a else a) (if(if bn then X5 a else a)=0 then bV 17 frm (bU (bys s) 93 y).2 else(bU (bys s) 93 y).2)):=qa (by
    rw[sJ h0];rw[q9S _ h0];exact Al.fault _ HRe.o h0 (by omega) hyp)
   clear hLb HRe;have HTY:=qa (fun W=>qiJ.o W y);generalize bU (bys s) 93 y=T2 at*;obtain⟨b2,y2⟩:=T2;simp only at HTY HAL;obtain⟨a2,ha2⟩:∃a2,a2=if bn then X5 a else a:=⟨_,rfl⟩
   rw[<-ha2]at HAL;have qef:a2<2^256:=by rw[ha2];split;exact q0i a;exact HA.o
   have qfQ:=HCM.o a2 qef;have HA2:=qa qef;clear qef;by_cases hz2:a2=0
   ·rw[qz hz2]at qfQ
    rw[qw hz2]at HAL;have HFF:Hid (∀W,dY W g s y2->Calls prog 39 #[.pointer (some ⟨g,0,none⟩),.int .i64 17,.int .i64 frm] W (sM (.tuple #[]) g s (bV 17 frm y2) W)):=qa (fun W h=>HF.o W 17 frm y2 h);clear hz2;cases bn with
    |true=>
     have HNA:=qa (fun W=>HNT.o W a HA.o);rw[qw rfl]at ha2;rw[<-ha2]at HNA;clear ha2
     go_wp2_with(first
      |((with_reducible refine(HTY.o _ HC.o.box).mono ?_);rintro e w3 ⟨rfl,hB,hg⟩;have HC3:=qa (HC.o.act hB hg);clear hB hg)
      |(refine bJ rfl _ rfl q rfl _ HC3.o.set ?_)
      |((with_reducible refine(HNA.o _).mono ?_);rintro e w4 ⟨rfl,hx⟩;have HC4:=qa (HC3.o.ext hx);clear hx)
      |(refine b7 rfl _ _ rfl q rfl _ _ rfl HC4.o.set ?_;intro w5 hB2 hg2;have HC5:=qa (HC4.o.store hB2 hg2);clear hB2 hg2)
      |(refine bJ rfl _ rfl q rfl _ HC5.o.set ?_)
      |((with_reducible refine(HFF.o _ HC5.o.box).mono ?_);rintro e w6 ⟨rfl,hB,hg⟩;have HC6:=qa (HC5.o.act hB hg);clear hB hg)
      |(refine bJ rfl _ rfl q rfl _ HC6.o.set ?_)
      |(refine b7 rfl _ _ rfl b rfl _ _ rfl HC6.o.res ?_;intro w7 hB2 hg2;have HC7:=qa hB2;have HQ7:=qa (HC6.o.fin hB2 hg2);clear hB2 hg2))
     exact ZmM2
    |false=>
     rw[qv (by decide)]at ha2;rw[<-ha2]at HC;clear ha2
     go_wp2_with(first
      |((with_reducible refine(HTY.o _ HC.o.box).mono ?_);rintro e w3 ⟨rfl,hB,hg⟩;have HC5:=qa (HC.o.act hB hg);clear hB hg)
      |(refine bJ rfl _ rfl q rfl _ HC5.o.set ?_)
      |((with_reducible refine(HFF.o _ HC5.o.box).mono ?_);rintro e w6 ⟨rfl,hB,hg⟩;have HC6:=qa (HC5.o.act hB hg);clear hB hg)
      |(refine bJ rfl _ rfl q rfl _ HC6.o.set ?_)
      |(refine b7 rfl _ _ rfl b rfl _ _ rfl HC6.o.res ?_;intro w7 hB2 hg2;have HC7:=qa hB2;have HQ7:=qa (HC6.o.fin hB2 hg2);clear hB2 hg2))
     exact ZmM2
   rw[qx hz2]at qfQ;rw[qv hz2]at HAL;clear hz2;cases bn with
   |true=>
    have HNA:=qa (fun W=>HNT.o W a HA.o);rw[qw rfl]at ha2;rw[<-ha2]at HNA;clear ha2
    go_wp2_with(first
     |((with_reducible refine(HTY.o _ HC.o.box).mono ?_);rintro e w3 ⟨rfl,hB,hg⟩;have HC3:=qa (HC.o.act hB hg);clear hB hg)
     |(refine bJ rfl _ rfl q rfl _ HC3.o.set ?_)
     |((with_reducible refine(HNA.o _).mono ?_);rintro e w4 ⟨rfl,hx⟩;have HC4:=qa (HC3.o.ext hx);clear hx)
     |(refine b7 rfl _ _ rfl q rfl _ _ rfl HC4.o.set ?_;intro w5 hB2 hg2;have HC5:=qa (HC4.o.store hB2 hg2);clear hB2 hg2)
     |(refine bJ rfl _ rfl q rfl _ HC5.o.set ?_)
     |(refine b7 rfl _ _ rfl b rfl _ _ rfl HC5.o.res ?_;intro w7 hB2 hg2;have HC7:=qa hB2;have HQ7:=qa (HC5.o.fin hB2 hg2);clear hB2 hg2))
    exact ZmM2
   |false=>
    rw[qv (by decide)]at ha2;rw[<-ha2]at HC;clear ha2
    go_wp2_with(first
     |((with_reducible refine(HTY.o _ HC.o.box).mono ?_);rintro e w3 ⟨rfl,hB,hg⟩;have HC5:=qa (HC.o.act hB hg);clear hB hg)
     |(refine bJ rfl _ rfl q rfl _ HC5.o.set ?_)
     |(refine b7 rfl _ _ rfl b rfl _ _ rfl HC5.o.res ?_;intro w7 hB2 hg2;have HC7:=qa hB2;have HQ7:=qa (HC5.o.fin hB2 hg2);clear hB2 hg2))
    exact ZmM2
  have he':((y.e:Int)==0)=true:=by rw[h0];rfl
  obtain⟨f0,rfl⟩:∃f0,f=f0+1:=⟨f-1,by omega⟩;have HIY:=qa (fun W=>qj2.o W y);cases hi:lU (bys s) 93 y with
  |true=>
   rw[hi]at HIY;have hL2:=HCL.o;rw[q7Z hi]at hL2;have hy1:=(nW hi).2.1;rw[cH]at hy1
   have HAL:Hid (Al s.size z R (if bn then X5 a else a) (if(if bn then X5 a else a)=0 then bV 17 frm (bU (bys s) 93 y).2 else(bU (bys s) 93 y).2)):=qa (by
    rw[kU,hi,qw rfl];exact Al.same (by rw[HR2.o,<-hL2]) (by rw[q2Q];show z.p<=y.p+1;omega) (by rw[q2Q];exact hy1))
   clear hL2 hi HCL hy1;have HTY:=qa (fun W=>qiJ.o W y);generalize bU (bys s) 93 y=T2 at*;obtain⟨b2,y2⟩:=T2;simp only at HTY HAL;obtain⟨a2,ha2⟩:∃a2,a2=if bn then X5 a else a:=⟨_,rfl⟩
   rw[<-ha2]at HAL;have qef:a2<2^256:=by rw[ha2];split;exact q0i a;exact HA.o
   have qfQ:=HCM.o a2 qef;have HA2:=qa qef;clear qef;by_cases hz2:a2=0
   ·rw[qz hz2]at qfQ
    rw[qw hz2]at HAL;have HFF:Hid (∀W,dY W g s y2->Calls prog 39 #[.pointer (some ⟨g,0,none⟩),.int .i64 17,.int .i64 frm] W (sM (.tuple #[]) g s (bV 17 frm y2) W)):=qa (fun W h=>HF.o W 17 frm y2 h);clear hz2;cases bn with
    |true=>
     have HNA:=qa (fun W=>HNT.o W a HA.o);rw[qw rfl]at ha2;rw[<-ha2]at HNA;clear ha2
     go_wp2_with(first
      |((with_reducible refine(HIY.o _ HC.o.box).mono ?_);rintro e w2 ⟨rfl,hx⟩;have HC1:=qa (HC.o.ext hx);clear hx)
      |((with_reducible refine(HTY.o _ HC1.o.box).mono ?_);rintro e w3 ⟨rfl,hB,hg⟩;have HC3:=qa (HC1.o.act hB hg);clear hB hg)
      |(refine bJ rfl _ rfl q rfl _ HC3.o.set ?_)
      |((with_reducible refine(HNA.o _).mono ?_);rintro e w4 ⟨rfl,hx⟩;have HC4:=qa (HC3.o.ext hx);clear hx)
      |(refine b7 rfl _ _ rfl q rfl _ _ rfl HC4.o.set ?_;intro w5 hB2 hg2;have HC5:=qa (HC4.o.store hB2 hg2);clear hB2 hg2)
      |(refine bJ rfl _ rfl q rfl _ HC5.o.set ?_)
      |((with_reducible refine(HFF.o _ HC5.o.box).mono ?_);rintro e w6 ⟨rfl,hB,hg⟩;have HC6:=qa (HC5.o.act hB hg);clear hB hg)
      |(refine bJ rfl _ rfl q rfl _ HC6.o.set ?_)
      |(refine b7 rfl _ _ rfl b rfl _ _ rfl HC6.o.res ?_;intro w7 hB2 hg2;have HC7:=qa hB2;have HQ7:=qa (HC6.o.fin hB2 hg2);clear hB2 hg2))
     exact ZmM2
    |false=>
     rw[qv (by decide)]at ha2;rw[<-ha2]at HC;clear ha2
     go_wp2_with(first
      |((with_reducible refine(HIY.o _ HC.o.box).mono ?_);rintro e w2 ⟨rfl,hx⟩;have HC1:=qa (HC.o.ext hx);clear hx)
      |((with_reducible refine(HTY.o _ HC1.o.box).mono ?_);rintro e w3 ⟨rfl,hB,hg⟩;have HC5:=qa (HC1.o.act hB hg);clear hB hg)
      |(refine bJ rfl _ rfl q rfl _ HC5.o.set ?_)
      |((with_reducible refine(HFF.o _ HC5.o.box).mono ?_);rintro e w6 ⟨rfl,hB,hg⟩;have HC6:=qa (HC5.o.act hB hg);clear hB hg)
      |(refine bJ rfl _ rfl q rfl _ HC6.o.set ?_)
      |(refine b7 rfl _ _ rfl b rfl _ _ rfl HC6.o.res ?_;intro w7 hB2 hg2;have HC7:=qa hB2;have HQ7:=qa (HC6.o.fin hB2 hg2);clear hB2 hg2))
     exact ZmM2
   rw[qx hz2]at qfQ;rw[qv hz2]at HAL;clear hz2;cases bn with
   |true=>
    have HNA:=qa (fun W=>HNT.o W a HA.o);rw[qw rfl]at ha2;rw[<-ha2]at HNA;clear ha2
    go_wp2_with(first
     |((with_reducible refine(HIY.o _ HC.o.box).mono ?_);rintro e w2 ⟨rfl,hx⟩;have HC1:=qa (HC.o.ext hx);clear hx)
     |((with_reducible refine(HTY.o _ HC1.o.box).mono ?_);rintro e w3 ⟨rfl,hB,hg⟩;have HC3:=qa (HC1.o.act hB hg);clear hB hg)
     |(refine bJ rfl _ rfl q rfl _ HC3.o.set ?_)
     |((with_reducible refine(HNA.o _).mono ?_);rintro e w4 ⟨rfl,hx⟩;have HC4:=qa (HC3.o.ext hx);clear hx)
     |(refine b7 rfl _ _ rfl q rfl _ _ rfl HC4.o.set ?_;intro w5 hB2 hg2;have HC5:=qa (HC4.o.store hB2 hg2);clear hB2 hg2)
     |(refine bJ rfl _ rfl q rfl _ HC5.o.set ?_)
     |(refine b7 rfl _ _ rfl b rfl _ _ rfl HC5.o.res ?_;intro w7 hB2 hg2;have HC7:=qa hB2;have HQ7:=qa (HC5.o.fin hB2 hg2);clear hB2 hg2))
    exact ZmM2
   |false=>
    rw[qv (by decide)]at ha2;rw[<-ha2]at HC;clear ha2
    go_wp2_with(first
     |((with_reducible refine(HIY.o _ HC.o.box).mono ?_);rintro e w2 ⟨rfl,hx⟩;have HC1:=qa (HC.o.ext hx);clear hx)
     |((with_reducible refine(HTY.o _ HC1.o.box).mono ?_);rintro e w3 ⟨rfl,hB,hg⟩;have HC5:=qa (HC1.o.act hB hg);clear hB hg)
     |(refine bJ rfl _ rfl q rfl _ HC5.o.set ?_)
     |(refine b7 rfl _ _ rfl b rfl _ _ rfl HC5.o.res ?_;intro w7 hB2 hg2;have HC7:=qa hB2;have HQ7:=qa (HC5.o.fin hB2 hg2);clear hB2 hg2))
    exact ZmM2
  |false=>
   rw[hi]at HIY;have HI1:=HIY;have he1:=he';have qgb:Hid (∀W x,dY W g s x->Calls prog 39 #[.pointer (some ⟨g,0,none⟩),.int .i64 16,.int .i64 frm] W (sM (.tuple #[]) g s (bV 16 frm x) W)):=qa (fun W x h=>HF.o W 16 frm x h);have qhl:Hid (∀W x,dY W g s x->Calls prog 39 #[.pointer (some ⟨g,0,none⟩),.int .i64 15,.int .i64 x.p] W (sM (.tuple #[]) g s (bV 15 x.p x) W)):=qa (fun W x h=>HF.o W 15 x.p x h);have qhk:Hid (∀W (c:Nat) x,dY W g s x->Calls prog 39 #[.pointer (some ⟨g,0,none⟩),.int .i64 18,.int .i64 c] W (sM (.tuple #[]) g s (bV 18 c x) W)):=qa (fun W c x h=>HF.o W 18 c x h);by_cases hpl:y.p<s.size;rotate_left 1
   ·have HLB:=qa (HRB.o (by rw[<-HCL.o];exact q6r h0 (by rw[cH];omega)))
    have hpd:decide ((s.size:Int)<=(y.p:Int))=true:=qz (by omega);have hpn:s.size<=y.p:=by omega
    have HAL:Hid (Al s.size z R a (bV 16 frm y)):=qa (Al.fault _ HLB.o (cP _ (by decide)) (by rw[f6];omega) (by rw[f6];exact hyp))
    go_upto_region 4 with((with_reducible refine(HIY.o _ HC.o.box).mono ?_);rintro e w2 ⟨rfl,hx⟩;have HC1:=qa (HC.o.ext hx);clear hx)
    have c0:=HC1.o.box.c0;have c1:=HC1.o.box.c1
    go_quiet (fail)
    go_wp2_with(first
     |((with_reducible refine(qgb.o _ _ (HC1.o.below (aX _ _)).box).mono ?_);rintro e w3 ⟨rfl,hB,hg⟩;have HC3:=qa ((HC1.o.below (aX _ _)).act hB hg);clear hB hg)
     |(refine bJ rfl _ rfl q rfl _ HC3.o.set ?_)
     |(refine b7 rfl _ _ rfl b rfl _ _ rfl HC3.o.res ?_;intro w7 hB2 hg2;have HC7:=qa hB2;have HQ7:=qa (HC3.o.fin hB2 hg2);clear hB2 hg2))
    refine dV (s:=4) (ad:=⟨b,0,none⟩) (x:=fR a) rfl rfl rfl HC7.o.load ?_;exact⟨_,_,rfl,HA.o,HQ7.o,HAL.o⟩
   have hpd:decide ((s.size:Int)<=(y.p:Int))=false:=qx (by omega);have hpn:¬s.size<=y.p:=by omega
   have hCN:=q6s (frm:=frm) (f:=f0) (a:=a) h0 hi (by rw[cH];exact hpl);rw[HCL.o]at hCN;have qjk:=qa (fun W h=>HCH.o W y h h0 hyp)
   go_upto_region 4 with((with_reducible refine(HIY.o _ HC.o.box).mono ?_);rintro e w2 ⟨rfl,hx⟩;have HC1:=qa (HC.o.ext hx);clear hx)
   have c0:=HC1.o.box.c0;have c1:=HC1.o.box.c1
   go_quiet (fail)
   have HBX:=qa (fun(w':World) (hb:Below w'.heap.size w' (w'.alloc (.cells Z 53)))=>hb)
   go_upto_region 9 with(first
    |((with_reducible refine(qjk.o _ (HC1.o.below (aX _ _)).box).mono ?_);rintro e w3 ⟨x,bx,z1,rfl,hxl,hQ,hA⟩;have HXL:=qa hxl;have HC3:=qa ((HC1.o.below (aX _ _)).act hQ.box hQ.gr);have HAL:=qa hA;have HN3:=qa (HNW.o w3);have HC4:=qa (HC3.o.below (aD w3 (.cells Z 53)));clear hxl hQ hA c0 c1)
    |(refine b7 rfl _ _ rfl w3.heap.size rfl _ _ rfl HN3.o ?_;intro w5 hB2 hg2;have HX5:=qa hB2;have HC5:=qa (HC4.o.far hg2 (HC3.o.gr.size) (by have:=HC3.o.res.lt;omega) (by have:=HC3.o.set.lt;omega));have c15:=HC5.o.box.c1;clear hB2 hg2))
   obtain⟨p,hp⟩:∃p,p=w3.heap.size:=⟨_,rfl⟩
   have HP:Hid (w.heap.size<=p/\p≠b/\p≠q):=qa (by
    have h1:=HC3.o.gr.size;have h2:=HC3.o.res.lt;have h3:=HC3.o.set.lt;omega)
   have HNE:Hid (g≠p):=qa (by have:=HC3.o.gl;have:=HC3.o.gr.size;omega);rw[<-hp]at HX5⊢;have HTZ:=qa (fun W=>qkR.o W z1);have qiT:=qa (fun W=>HOR.o W a x HA.o HXL.o);have qhG:=HAL.o.top;have qlA:=HAL.o.le;clear hp HC3 HC4 HN3 HC1 qjk c15 HBX;by_cases hce:(lA (bys s) y).2.e=0;rotate_left 1
   ·have hze:=HAL.o.bad hce
    have hLb:L.2.e≠0:=by
     rw[hCN,q2P _ _ _ _ _ (q6t hce)];exact q6t hce
    rw[sJ hze]at HTZ;clear hce hCN
    go_wp2_with(first
     |((with_reducible refine(HTZ.o _ HC5.o.box).mono ?_);rintro e w6 ⟨rfl,hB,hg⟩;have HX6:=qa (HX5.o.keepP hg HNE.o);have HC6:=qa (HC5.o.act hB hg);clear hB hg)
     |(refine bJ rfl _ rfl q rfl _ HC6.o.set ?_)
     |(refine bJ rfl _ rfl p rfl _ HX6.o ?_)
     |((with_reducible refine(qiT.o _).mono ?_);rintro e w7 ⟨rfl,hx⟩;have HC7:=qa (HC6.o.ext hx);clear hx)
     |(refine b7 rfl _ _ rfl q rfl _ _ rfl HC7.o.set ?_;intro w8 hB2 hg2;have HC8:=qa (HC7.o.store hB2 hg2);clear hB2 hg2))
    go_roundg (f0+1)
    case measure=>omega
    case rel=>exact⟨f0,a|||x,z1,rfl,mH HA.o HXL.o,HC8.o,qhG,by omega,.inr ⟨hze,hLb⟩⟩
   obtain⟨hz1,hxb⟩:=HAL.o.ok hce;have hx1:x=(lA (bys s) y).1.1:=j0 Prod.fst hxb;have hb1:bx=(lA (bys s) y).1.2:=j0 Prod.snd hxb;have hze:z1.e=0:=by rw[hz1];exact hce
   have hzl:y.p<z1.p:=by rw[hz1];exact q9R hce
   cases h45:lU (bys s) 45 z1 with
   |false=>
    have qic:=q9Q (frm:=frm) (s:=bys s) (z:=y) (by rw[<-hz1];exact h45);rw[qic,<-hx1,<-hz1]at hCN;have HCN:=qa hCN.symm;rw[kU,h45]at HTZ;clear qic hCN hz1 hxb hx1 hb1 hce
    go_wp2_with(first
     |((with_reducible refine(HTZ.o _ HC5.o.box).mono ?_);rintro e w6 ⟨rfl,hB,hg⟩;have HX6:=qa (HX5.o.keepP hg HNE.o);have HC6:=qa (HC5.o.act hB hg);clear hB hg)
     |(refine bJ rfl _ rfl q rfl _ HC6.o.set ?_)
     |(refine bJ rfl _ rfl p rfl _ HX6.o ?_)
     |((with_reducible refine(qiT.o _).mono ?_);rintro e w7 ⟨rfl,hx⟩;have HC7:=qa (HC6.o.ext hx);clear hx)
     |(refine b7 rfl _ _ rfl q rfl _ _ rfl HC7.o.set ?_;intro w8 hB2 hg2;have HC8:=qa (HC7.o.store hB2 hg2);clear hB2 hg2))
    go_roundg (f0+1)
    case measure=>omega
    case rel=>exact⟨f0,a|||x,z1,rfl,mH HA.o HXL.o,HC8.o,qhG,by omega,.inl ⟨hze,HCN.o,by omega⟩⟩
   |true=>
    have ql3:Hid (bx=false->∃c,x=lX c):=qa (fun h=>by rw[hx1];exact q6h hce (by rw[<-hb1];exact h));have qcD:=q80 (frm:=frm) (s:=bys s) (z:=y) (by rw[<-hz1];exact h45);rw[<-hz1,<-hx1,<-hb1]at qcD;have qdm:Hid ((q2q (bys s) frm y).2.e≠0->R.2.e≠0):=qa (fun h=>HRB.o (by rw[hCN,q2P _ _ _ _ _ h];exact h));rw[kU,h45,qw rfl]at HTZ;obtain⟨-,qjC,-⟩:=nW h45;rw[cH]at qjC;have qhE:(bZ z1).e=0:=hze;have qly:z1.p+1<=(bZ z1).p/\(bZ z1).p<=z1.p+1:=⟨qb _,qb _⟩;generalize bZ z1=zd at*;have qjD:zd.p<=s.size:=by omega
    have HI2:=qa (fun W=>qj2.o W zd);have qjl:=qa (fun W h=>HCH.o W zd h qhE qjD);have hnx:nxR (bys s) zd=if zd.p<s.size then some ((bys s).getD zd.p 0)else none:=by unfold nxR;rw[cH];simp only[qhE,true_and]
    have HCN:=qa hCN;clear hz1 hx1 hCN h45 HIY c2 hxb hb1
    go_upto_region 10 with((with_reducible refine(HTZ.o _ HC5.o.box).mono ?_);rintro e w6 ⟨rfl,hB,hg⟩;have HX6:=qa (HX5.o.keepP hg HNE.o);have HC6:=qa (HC5.o.act hB hg);clear hB hg)
    have c06:=HC6.o.box.c0;have c16:=HC6.o.box.c1;clear HC5 HX5 HTZ;by_cases hpz:zd.p<s.size;rotate_left 1
    ·rw[qv hpz]at hnx
     have HAL:Hid (Al s.size z R a (bV 16 frm zd)):=qa (Al.fault _ (qdm.o (by rw[qcD,hnx];exact cP _ (by decide))) (cP _ (by decide)) (by rw[f6];omega) (by rw[f6];omega));have qjS:decide ((s.size:Int)<=(zd.p:Int))=true:=qz (by omega);have qjR:s.size<=zd.p:=by omega
     clear qcD hnx
     go_quiet (fail)
     go_wp2_with(first
      |((with_reducible refine(qgb.o _ _ (HC6.o.below (aX _ _)).box).mono ?_);rintro e w7 ⟨rfl,hB,hg⟩;have HC7:=qa ((HC6.o.below (aX _ _)).act hB hg);clear hB hg)
      |(refine bJ rfl _ rfl q rfl _ HC7.o.set ?_)
      |(refine b7 rfl _ _ rfl b rfl _ _ rfl HC7.o.res ?_;intro w9 hB2 hg2;have HC9:=qa hB2;have HQ9:=qa (HC7.o.fin hB2 hg2);clear hB2 hg2))
     exact ZmM5
    rw[qw hpz]at hnx;have qjS:decide ((s.size:Int)<=(zd.p:Int))=false:=qx (by omega);have qjR:¬s.size<=zd.p:=by omega
    rw[hnx]at qcD;simp only at qcD
    go_quiet (fail)
    have qfR:=qa (HC6.o.below (aX _ nq));have qiF:=qa (HX6.o.up (aX _ nq));generalize w6.drewN nq=w61 at*;clear c06 c16;by_cases h93:lU (bys s) 93 zd=true
    ·have hcc:(bys s).getD zd.p 0=93:=by
      have:=(nW h93).2.2;rw[hnx]at this;exact qr this
     rw[qw hcc]at qcD;have HAL:Hid (Al s.size z R a (bV 15 zd.p zd)):=qa (Al.fault _ (qdm.o (by rw[qcD];exact cP _ (by decide))) (cP _ (by decide)) (by rw[f6];omega) (by rw[f6];omega));rw[h93]at HI2;clear qcD hnx h93 hcc
     go_wp2_with(first
      |((with_reducible refine(HI2.o _ qfR.o.box).mono ?_);rintro e w62 ⟨rfl,hx⟩;have qeq:=qa (qfR.o.ext hx);have c12:=qeq.o.box.c1;clear hx)
      |((with_reducible refine(qhl.o _ _ qeq.o.box).mono ?_);rintro e w7 ⟨rfl,hB,hg⟩;have HC7:=qa (qeq.o.act hB hg);clear hB hg)
      |(refine bJ rfl _ rfl q rfl _ HC7.o.set ?_)
      |(refine b7 rfl _ _ rfl b rfl _ _ rfl HC7.o.res ?_;intro w9 hB2 hg2;have HC9:=qa hB2;have HQ9:=qa (HC7.o.fin hB2 hg2);clear hB2 hg2))
     exact ZmM5
    have h93:lU (bys s) 93 zd=false:=by simpa using h93
    have hcc:¬(bys s).getD zd.p 0=93:=fun e=>by unfold lU at h93;rw[hnx,e]at h93;simp at h93
    rw[qv hcc]at qcD;rw[h93]at HI2;clear hnx h93 hcc
    go_upto_region 17 with(first
     |((with_reducible refine(HI2.o _ qfR.o.box).mono ?_);rintro e w62 ⟨rfl,hx⟩;have qeq:=qa (qfR.o.ext hx);have qiE:=qa (qiF.o.up (aI hx));clear hx)
     |((with_reducible refine(qjl.o _ qeq.o.box).mono ?_);rintro e w7 ⟨x2,bx2,z2,rfl,hxl,hQ,hA⟩;have qmv:=qa hxl;have HC7:=qa (qeq.o.act hQ.box hQ.gr);have HX7:=qa (qiE.o.keepP hQ.gr HNE.o);have qgm:=qa hA;have HN7:=qa (HNW.o w7);have qjm:=qa (HC7.o.below (aD w7 (.cells Z 53)));have qiD:=qa (HX7.o.up (aD w7 (.cells Z 53)));clear hxl hQ hA)
     |(refine b7 rfl _ _ rfl w7.heap.size rfl _ _ rfl HN7.o ?_;intro w8 hB2 hg2;have HY8:=qa hB2;have HC8:=qa (qjm.o.far hg2 (HC7.o.gr.size) (by have:=HC7.o.res.lt;omega) (by have:=HC7.o.set.lt;omega));have HX8:=qa (qiD.o.keepP hg2 (by have:=HX7.o.lt;omega));have c28:=HC8.o.box.c2;clear hB2 hg2))
    obtain⟨p2,hp2⟩:∃p2,p2=w7.heap.size:=⟨_,rfl⟩;have HP2:Hid (p≠p2):=qa (by have:=HX7.o.lt;omega);rw[<-hp2]at HY8⊢;have qhF:=qgm.o.top;have qlz:=qgm.o.le;clear hp2 HC7 qjm HX7 qiD HN7 qfR qiF qjl HI2 qeq qiE;by_cases qdJ:(lA (bys s) zd).2.e=0;rotate_left 1
    ·have qeI:=qgm.o.bad qdJ
     have qgn:((z2.e:Int) != 0)=true:=by simpa using qeI
     rw[qw qdJ]at qcD;have HAL:Hid (Al s.size z R a z2):=qa (Al.fault _ (qdm.o (by rw[qcD];exact qdJ)) qeI (by omega) qhF);clear qcD qdJ
     go_wp2_with(first
      |(refine bJ rfl _ rfl q rfl _ HC8.o.set ?_)
      |(refine b7 rfl _ _ rfl b rfl _ _ rfl HC8.o.res ?_;intro w9 hB2 hg2;have HC9:=qa hB2;have HQ9:=qa (HC8.o.fin hB2 hg2);clear hB2 hg2))
     exact ZmM5
    obtain⟨hz2,qeJ⟩:=qgm.o.ok qdJ;have hx2:x2=(lA (bys s) zd).1.1:=j0 Prod.fst qeJ;have hb2:bx2=(lA (bys s) zd).1.2:=j0 Prod.snd qeJ;have qeI:z2.e=0:=by rw[hz2];exact qdJ
    have qgn:((z2.e:Int) != 0)=false:=by rw[qeI];rfl
    rw[qv (fun h=>h qdJ),<-hz2,<-hx2,<-hb2]at qcD
    go_upto_region 19 with(fail)
    have HDA:=qa qcD;clear qcD c28;have HBC:Hid True:=qa trivial;have qeH:Hid True:=qa trivial;cases bx with
    |true=>
     have HAL:Hid (Al s.size z R a (bV 18 z1.p z2)):=qa (Al.fault _ (qdm.o (by rw[HDA.o];exact cP _ (by decide))) (cP _ (by decide)) (by rw[f6];omega) (by rw[f6];omega));clear HDA hz2 qeJ hx2 hb2;refine cO (by kernel_rfl) (by kernel_rfl) ?_;go_simp
     exact ZmM1
    |false=>
     cases bx2 with
     |true=>
      have HAL:Hid (Al s.size z R a (bV 18 z1.p z2)):=qa (Al.fault _ (qdm.o (by rw[HDA.o];exact cP _ (by decide))) (cP _ (by decide)) (by rw[f6];omega) (by rw[f6];omega));clear HDA hz2 qeJ hx2 hb2;refine cO (by kernel_rfl) (by kernel_rfl) ?_;go_simp
      exact ZmM1
     |false=>
      obtain⟨c,hxc⟩:=ql3.o rfl;obtain⟨c2,qfU⟩:=q6h qdJ hb2.symm;rw[<-hx2]at qfU;have hda:=HDA.o;rw[hxc,qfU,q6i,q6i]at hda;have qgd:=qa hda;have HBC:Hid (∀W,Calls prog 99 #[fR x] W fun e w'=>e=.returned (.string ⟨#[c]⟩)/\∃y,w'=ext W y):=qa (fun W=>by rw[hxc];exact HBY.o W c);have qeH:Hid (∀W,Calls prog 99 #[fR x2] W fun e w'=>e=.returned (.string ⟨#[c2]⟩)/\∃y,w'=ext W y):=qa (fun W=>by rw[qfU];exact HBY.o W c2);have HRC:=qa (fun W=>HRG.o W c c2);have hi1:=fun W=>q0z c W;have hi2:=fun W=>q0z c2 W;clear hda HDA hz2 qeJ hx2 hb2 qdJ hce hxc qfU;by_cases hgt:c2.toNat<c.toNat
      ·have HAL:Hid (Al s.size z R a (bV 18 z1.p z2)):=qa (Al.fault _ (qdm.o (by rw[qgd.o,qz hgt];exact cP _ (by decide))) (cP _ (by decide)) (by rw[f6];omega) (by rw[f6];omega))
       clear qgd;refine cO (by kernel_rfl) (by kernel_rfl) ?_;go_simp
       exact ZmM1
      have HIT:Hid (q2q (bys s) frm y=(nS c.toNat c2.toNat,z2)):=qa (by rw[qgd.o,qx hgt];rfl);have qlk:Hid (E2 (bys s) frm f0 (a|||nS c.toNat c2.toNat) z2=L):=qa (by rw[HCN.o,HIT.o]);have qm6:decide (c2.toNat<c.toNat)=false:=qx hgt;have ql2:=qa (fun W=>HOR.o W a (nS c.toNat c2.toNat) HA.o (M7 _ _));have HRL:=qa (M7 c.toNat c2.toNat);clear qgd HCN HIT;refine cO (by kernel_rfl) (by kernel_rfl) ?_;go_simp
      repeat(first
       |(go_big_quiet_want;refine cW _ rfl p rfl _ (fun w' hw=>by obtain⟨y,rfl⟩:=hw;exact HX8.o.up (aI ⟨_,rfl⟩)) ?_;go_simp;go_big_quiet_on)
       |(go_big_quiet_want;refine cW _ rfl p2 rfl _ (fun w' hw=>by obtain⟨y,rfl⟩:=hw;exact HY8.o.up (aI ⟨_,rfl⟩)) ?_;go_simp;go_big_quiet_on)
       |go_big_quiet_step ((go_at_call 99;first|(with_reducible exact dH (HBC.o _))|(with_reducible exact dH (qeH.o _)))))
      refine wpQuiet_nil ?_;intro x9;obtain⟨w9,qd8⟩:∃w9,w9=ext w8 x9:=⟨_,rfl⟩;rw[<-qd8];have hw9:∃y,w9=ext w8 y:=⟨x9,qd8⟩;clear qd8;have HC9:=qa (HC8.o.ext hw9);have HX9:=qa (HX8.o.up (aI hw9));have HY9:=qa (HY8.o.up (aI hw9));clear hw9;generalize nS c.toNat c2.toNat=rg at*
      go_upto_region 22 with(fail)
      refine hU (C:=fun w'=>∃x,w'=chg w9 (some p) x) (.q 3 (.br 0 (.br 1 (.q 2 (.br 4 (.q 5 (.br 6 (.br 7 .done .no) .no)) .no)) .no) .no)) (by kernel_rfl) (by kernel_rfl) (dD (eW _ _)) ?_
      (unfold aZ;simp only[pk])
      go_simp
      go_big_quiet_want
      refine cW _ rfl p2 rfl _ (fun w' hw=>by obtain⟨y,rfl⟩:=hw;exact HY9.o.keepP (uA _ _ _) HP2.o) ?_;go_simp
      go_big_quiet_on
      refine wpQuiet_nil ?_;have qd7:=qa (HC9.o.below (aX w9 1));have qeh:=qa (HX9.o.up (aX w9 1));have qeE:Hid (w9.grownBy w9.drew (some p)):=qa (eW w9 _);rw[show w9.drewN 1=w9.drew from rfl]at qd7 qeh
      ((unfold aZ;simp only[pk]);refine⟨?_,by unfold aZ;trivial⟩;unfold aF)
      go_wp2_with(refine bJ rfl _ rfl p rfl _ qeh.o ?_)
      refine⟨dD qeE.o,?_⟩;unfold aF
      ((unfold aZ;simp only[pk]);refine⟨?_,by unfold aZ;trivial⟩;unfold aF)
      go_wp2_with((with_reducible refine(HBC.o _).mono ?_);rintro e w11 ⟨rfl,hx⟩;have qer:=qa (qd7.o.ext hx);have qfx:=qa (qeh.o.up (aI hx));have qeo:=qa (aL qeE.o (aK (aI hx) _));clear hx)
      refine⟨dD qeo.o,?_⟩;unfold aF
      (repeat((unfold aZ;simp only[pk]);go_big_quiet_step (fail);refine wpQuiet_nil ?_))
      ((unfold aZ;simp only[pk]);refine⟨?_,by unfold aZ;trivial⟩;unfold aF)
      go_wp2_with((with_reducible refine(qeH.o _).mono ?_);rintro e w12 ⟨rfl,hx⟩;have qls:=qa (qer.o.ext hx);have qkM:=qa (qfx.o.up (aI hx));have qcV:=qa (aL qeo.o (aK (aI hx) _));clear hx)
      refine⟨dD qcV.o,?_⟩;unfold aF
      (repeat((unfold aZ;simp only[pk]);go_big_quiet_step (fail);refine wpQuiet_nil ?_))
      ((unfold aZ;simp only[pk]);refine⟨?_,by unfold aZ;trivial⟩;unfold aF)
      go_wp2_with((with_reducible refine(HRC.o _).mono ?_);rintro e w13 ⟨rfl,hx⟩;have qlr:=qa (qls.o.ext hx);have qkL:=qa (qkM.o.up (aI hx));have qj6:=qa (aL qcV.o (aK (aI hx) _));clear hx)
      refine⟨dD qj6.o,?_⟩;unfold aF
      ((unfold aZ;simp only[pk]);refine⟨?_,by unfold aZ;trivial⟩;unfold aF)
      go_wp2_with(refine b7 rfl _ _ rfl p rfl _ _ rfl qkL.o ?_;intro w14 hB2 hg2;have qkK:=qa hB2;have qlh:=qa (aL qj6.o hg2);have qjo:=qa (qlr.o.far hg2 HP.o.1 HP.o.2.1 HP.o.2.2);clear hB2 hg2)
      refine⟨dD qlh.o,?_⟩;unfold aF;unfold aZ;intro hz8 hz9;clear hz9
      go_wp2_with(first
       |(refine bJ rfl _ rfl q rfl _ qjo.o.set ?_)
       |(refine bJ rfl _ rfl p rfl _ qkK.o ?_)
       |((with_reducible refine(ql2.o _).mono ?_);rintro e w15 ⟨rfl,hx⟩;have qjn:=qa (qjo.o.ext hx);clear hx)
       |(refine b7 rfl _ _ rfl q rfl _ _ rfl qjn.o.set ?_;intro w16 hB2 hg2;have qlq:=qa (qjn.o.store hB2 hg2);clear hB2 hg2))
      go_roundg (f0+1)
      case measure=>omega
      case rel=>exact⟨f0,a|||rg,z2,rfl,mH HA.o HRL.o,qlq.o,qhF,by omega,.inl ⟨qeI,qlk.o,by omega⟩⟩
def q8M(r:List Nd×PS)(g:Nat)(s:ByteArray)(z:PS)(w:World)(e:Ending)(w':World):Prop:=
 ∃v l z',e=.returned v/\bH w' w.heap.size v l/\Qs w w' g s z'/\Al s.size z r l z'/\l.length+2*z.p<=2*z'.p+1
def qaZ(g:Nat)(s:ByteArray)(lo:Nat)(alt:PS->List Nd×PS):Prop:=∀W z,dY W g s z->z.e=0->lo<z.p->z.p<=s.size->Calls prog 38 #[.pointer (some ⟨g,0,none⟩)] W (q8M (alt z) g s z W)
theorem nK{s:eZ}{c:UInt8}{z:PS}(h:lU s c z=true):bU s c z=(true,bZ z):=by rw[kU,qw h]
theorem rN{s:eZ}{c:UInt8}{z:PS}(h:lU s c z=false):bU s c z=(false,z):=by rw[kU,h];rfl
theorem qbE{s:eZ}{d:UInt8}{z:PS}(h:nxR s z=some d)(c:UInt8):lU s c z=decide (d=c):=by unfold lU;rw[h];simp
theorem Al.good{α:Type}{n:Nat}{z:PS}{r:α×PS}{x:α}{z':PS}(h:Al n z r x z')(h0:z'.e=0):z'=r.2/\x=r.1/\r.2.e=0:=by
 by_cases he:r.2.e=0
 ·exact⟨(h.ok he).1,(h.ok he).2,he⟩
 exact absurd h0 (h.bad he)
theorem Al.worse{α:Type}{n:Nat}{z:PS}{r:α×PS}{x:α}{z':PS}(h:Al n z r x z')(h0:z'.e≠0):r.2.e≠0:=fun he=>h0 (by rw[(h.ok he).1];exact he)
theorem qbF(s:ByteArray)(a:Nat)(h:a<s.size)(W:World):Calls prog 94 #[.string (s.extract a (a+1))] W (gN (lX ((bys s).getD a 0)) W):=by rw[q6q s a h];exact qb9 _ W
theorem qcn{alt:PS->List Nd×PS}{w:World}{g lo:Nat}{s:ByteArray}{z:PS}{c:UInt8}(hA:qaZ g s lo alt)(hlo:lo<=z.p)(h:dY w g s z)(hs:s.size<=1000000)(hc:nxR (bys s) z=some c):
  Calls prog 89 #[.pointer (some ⟨g,0,none⟩)] w (q8M (q1p (bys s) alt z) g s z w):=by
 have hz:=vG;obtain⟨Z,hZ⟩:∃Z,Z=z4:=⟨_,rfl⟩;rw[<-hZ]at hz;have HNW:Hid (∀W:World,lB (W.alloc (.cells Z 53)) W.heap.size 0):=qa (fun W=>kP W Z hZ);obtain⟨hz0,hzp,hcc⟩:=k9 hc;rw[cH]at hzp;have HP0:=qa (Qs.start h);have c1:=h.c1;have hgl:=h.lt;have HA:Hid (∀W,dY W g s (bZ z)->Calls prog 38 #[.pointer (some ⟨g,0,none⟩)] W (q8M (alt (bZ z)) g s (bZ z) W)):=qa (fun W h=>hA W (bZ z) h hz0 (Nat.lt_succ_of_le hlo) hzp);have qej:Hid (∀W,dY W g s z->Calls prog 69 #[.pointer (some ⟨g,0,none⟩),.int .u8 40] W (sM (.bool (bU (bys s) 40 z).1) g s (bU (bys s) 40 z).2 W)):=qa (fun W h=>xK h hs 40);have qeB:Hid (∀W,dY W g s z->Calls prog 69 #[.pointer (some ⟨g,0,none⟩),.int .u8 91] W (sM (.bool (bU (bys s) 91 z).1) g s (bU (bys s) 91 z).2 W)):=qa (fun W h=>xK h hs 91);have qfB:Hid (∀W,dY W g s z->Calls prog 69 #[.pointer (some ⟨g,0,none⟩),.int .u8 46] W (sM (.bool (bU (bys s) 46 z).1) g s (bU (bys s) 46 z).2 W)):=qa (fun W h=>xK h hs 46);have qkS:Hid (∀W y,dY W g s y->Calls prog 69 #[.pointer (some ⟨g,0,none⟩),.int .u8 41] W (sM (.bool (bU (bys s) 41 y).1) g s (bU (bys s) 41 y).2 W)):=qa (fun W y h=>xK h hs 41);have qdP:Hid (∀W,dY W g s z->Calls prog 84 #[.pointer (some ⟨g,0,none⟩),.int .u8 92] W fun e w'=>e=.returned (.bool (lU (bys s) 92 z))/\∃x,w'=ext W x):=qa (fun W h=>isQ h 92);have qgb:Hid (∀W x,dY W g s x->Calls prog 39 #[.pointer (some ⟨g,0,none⟩),.int .i64 16,.int .i64 z.p] W (sM (.tuple #[]) g s (bV 16 z.p x) W)):=qa (fun W x h=>W2 h 16 z.p);have qhl:Hid (∀W x,dY W g s x->Calls prog 39 #[.pointer (some ⟨g,0,none⟩),.int .i64 15,.int .i64 z.p] W (sM (.tuple #[]) g s (bV 15 z.p x) W)):=qa (fun W x h=>W2 h 15 z.p);have HES:Hid (∀W,dY W g s z->Calls prog 95 #[.pointer (some ⟨g,0,none⟩)] W (qaW (M6 (bys s) z) g s z W)):=qa (fun W h=>qbZ h hs hc);have HCL:Hid (∀W,dY W g s (bZ z)->Calls prog 92 #[.pointer (some ⟨g,0,none⟩),.int .i64 z.p] W (qc0 (q3t (bys s) z.p (bZ z)) g s (bZ z) W)):=qa (fun W h=>qcm h hs hz0 hzp);have HON:Hid (∀(x:Nat) W,Calls prog 91 #[fR x] W (F4 W [setN x])):=qa (fun x W=>qcl x W);have ql7:Hid (∀W,Calls prog 94 #[.string ⟨#[10]⟩] W (gN (lX 10) W)):=qa (fun W=>qb9 10 W);have qen:Hid (∀W,Calls prog 93 #[fR (lX 10)] W (gN (X5 (lX 10)) W)):=qa (fun W=>qbV (y6 10) W);have HOC:=qa (fun W=>qbF s z.p hzp W);have HSP:=qa (fun W=>q7Y c W);have hix:=fun W=>iU (P:=prog) 9 underlying9 hzp W;rw[hcc]at hix HOC;obtain⟨R,hR⟩:∃R,R=q1p (bys s) alt z:=⟨_,rfl⟩;rw[<-hR];unfold q1p at hR;rw[hc]at hR;simp only[qN]at hR;have hi:=fun d=>qbE hc d;clear h hZ hA hcc;go_enter func89,ntmps89;by_cases h40:c=40
 ·rw[nK (by rw[hi,h40];rfl)]at qej
  have hR2:R=((alt (bZ z)).1,if(bU (bys s) 41 (alt (bZ z)).2).1 then(bU (bys s) 41 (alt (bZ z)).2).2 else bV 16 z.p (bU (bys s) 41 (alt (bZ z)).2).2):=by rw[hR,h40];rfl
  clear hR hi HSP hix HOC h40
  go_upto_region 4 with(first
   |((with_reducible refine(qej.o _ HP0.o.box).mono ?_);rintro e w1 ⟨rfl,hB,hg⟩;have HP1:=qa (HP0.o.act hB hg);clear hB hg)
   |((with_reducible refine(HA.o _ HP1.o.box).mono ?_);rintro e w2 ⟨v,l,z1,rfl,ho,hQ,hAl,hlen⟩;have HN2:Hid (bH w2 w.heap.size v l):=qa (eL.mono ho HP1.o.gr.size);have HP2:=qa (HP1.o.act hQ.box hQ.gr);have HAL:=qa hAl;have HLE:=qa hlen;have c22:=HP2.o.box.c2;clear ho hQ hAl hlen))
  have h1l:=HAL.o.le;have h1p:=HAL.o.top;have h1n:=HLE.o;have hap:(bZ z).p=z.p+1:=rfl;rw[hap]at h1l h1n;clear hap;by_cases hz1:z1.e=0
  ·obtain⟨e1,e2,-⟩:=HAL.o.good hz1
   rw[<-e1,<-e2]at hR2;have he':((z1.e:Int)==0)=true:=by rw[hz1];rfl
   have HTZ:=qa (fun W h=>qkS.o W z1 h);clear e1 e2;cases h41:lU (bys s) 41 z1 with
   |true=>
    rw[nK h41]at HTZ hR2;have HR:Hid (R=(l,bZ z1)):=qa hR2;have hlt:=(nW h41).2.1;rw[cH]at hlt;clear hR2 h41
    go_wp2_with((with_reducible refine(HTZ.o _ HP2.o.box).mono ?_);rintro e w3 ⟨rfl,hB,hg⟩;have HP3:=qa (HP2.o.act hB hg);have HN3:=qa (bH.keepG HN2.o hg hgl);clear hB hg)
    go_ret;exact⟨v,l,_,rfl,HN3.o,HP3.o,Al.same HR.o (by show z.p<=z1.p+1;omega) hlt,by show l.length+2*z.p<=2*(z1.p+1)+1;omega⟩
   |false=>
    rw[rN h41]at HTZ hR2;have HR:Hid (R=(l,bV 16 z.p z1)):=qa hR2;clear hR2 h41
    go_wp2_with(first
     |((with_reducible refine(HTZ.o _ HP2.o.box).mono ?_);rintro e w3 ⟨rfl,hB,hg⟩;have HP3:=qa (HP2.o.act hB hg);have HN3:=qa (bH.keepG HN2.o hg hgl);clear hB hg)
     |((with_reducible refine(qgb.o _ _ HP3.o.box).mono ?_);rintro e w4 ⟨rfl,hB,hg⟩;have HP4:=qa (HP3.o.act hB hg);have HN4:=qa (bH.keepG HN3.o hg hgl);clear hB hg))
    go_ret;exact⟨v,l,_,rfl,HN4.o,HP4.o,Al.same HR.o (by rw[f6];omega) (by rw[f6];omega),by rw[f6];omega⟩
  have hw:=HAL.o.worse hz1;have he':((z1.e:Int)==0)=false:=by simpa using hz1
  have HR:Hid (R.2.e≠0):=qa (by rw[hR2,sJ hw];simp only[qT,jt];rw[xF hw];exact hw);clear hR2 hw;go_wp2;go_ret;exact⟨v,l,z1,rfl,HN2.o,HP2.o,Al.fault _ HR.o hz1 (by omega) h1p,by omega⟩
 rw[rN (by rw[hi];simpa using h40)]at qej;have k40:¬c.toNat=40:=fun e=>h40 (UInt8.toNat_inj.1 e);by_cases h91:c=91
 ·rw[nK (by rw[hi,h91];rfl)]at qeB
  have HR:Hid (R=([setN (q3t (bys s) z.p (bZ z)).1],(q3t (bys s) z.p (bZ z)).2)):=qa (by rw[hR,h91];rfl);clear hR hi HSP hix HOC h91 h40 HA
  go_wp2_with(first
   |((with_reducible refine(qej.o _ HP0.o.box).mono ?_);rintro e w1 ⟨rfl,hB,hg⟩;have HP1:=qa (HP0.o.act hB hg);clear hB hg)
   |((with_reducible refine(qeB.o _ HP1.o.box).mono ?_);rintro e w2 ⟨rfl,hB,hg⟩;have HP2:=qa (HP1.o.act hB hg);clear hB hg)
   |((with_reducible refine(HCL.o _ HP2.o.box).mono ?_);rintro e w3 ⟨x,z1,rfl,hxl,hQ,hAl⟩;have HP3:=qa (HP2.o.act hQ.box hQ.gr);have HAL:=qa hAl;clear hxl hQ hAl)
   |((with_reducible refine(HON.o _ _).mono ?_);rintro e w4 ⟨v,rfl,ho,hb⟩;have HN4:Hid (bH w4 w.heap.size v [setN x]):=qa (eL.mono ho HP3.o.gr.size);have HP4:=qa (HP3.o.below hb);clear ho hb))
  go_ret;refine⟨v,_,z1,rfl,HN4.o,HP4.o,⟨fun e=>?_,fun e=>HAL.o.bad (by rw[HR.o]at e;exact e),?_,HAL.o.top⟩,?_⟩
  ·rw[HR.o]at e⊢
   obtain⟨q1,q2⟩:=HAL.o.ok e;exact⟨q1,by rw[q2]⟩
  ·have:=HAL.o.le
   exact qc (jd _) this
  have:z.p+1<=z1.p:=HAL.o.le;show 1+2*z.p<=_;omega
 rw[rN (by rw[hi];simpa using h91)]at qeB;by_cases h46:c=46
 ·rw[nK (by rw[hi,h46];rfl)]at qfB
  have HR:Hid (R=([setN (X5 (lX 10))],bZ z)):=qa (by rw[hR,h46];rfl);clear hR hi HSP hix HOC h91 h40 h46 HA;generalize X5 (lX 10)=xn at*;generalize lX 10=xo at*
  go_wp2_with(first
   |((with_reducible refine(qej.o _ HP0.o.box).mono ?_);rintro e w1 ⟨rfl,hB,hg⟩;have HP1:=qa (HP0.o.act hB hg);clear hB hg)
   |((with_reducible refine(qeB.o _ HP1.o.box).mono ?_);rintro e w2 ⟨rfl,hB,hg⟩;have HP2:=qa (HP1.o.act hB hg);clear hB hg)
   |((with_reducible refine(qfB.o _ HP2.o.box).mono ?_);rintro e w3 ⟨rfl,hB,hg⟩;have HP3:=qa (HP2.o.act hB hg);clear hB hg)
   |((with_reducible refine(ql7.o _).mono ?_);rintro e w4 ⟨rfl,hx⟩;have HP4:=qa (HP3.o.ext hx);clear hx)
   |((with_reducible refine(qen.o _).mono ?_);rintro e w5 ⟨rfl,hx⟩;have HP5:=qa (HP4.o.ext hx);clear hx)
   |((with_reducible refine(HON.o _ _).mono ?_);rintro e w6 ⟨v,rfl,ho,hb⟩;have HN6:Hid (bH w6 w.heap.size v [setN xn]):=qa (eL.mono ho HP5.o.gr.size);have HP6:=qa (HP5.o.below hb);clear ho hb))
  go_ret;exact⟨v,_,_,rfl,HN6.o,HP6.o,Al.same HR.o (by show z.p<=z.p+1;omega) (by show z.p+1<=s.size;omega),by show 1+2*z.p<=2*(z.p+1)+1;omega⟩
 rw[rN (by rw[hi];simpa using h46)]at qfB;by_cases h92:c=92
 ·rw[hi,qz h92]at qdP
  have HR:Hid (R=([setN (M6 (bys s) z).1.1],(M6 (bys s) z).2)):=qa (by rw[hR,h92];rfl);clear hR hi HSP hix HOC h91 h40 h46 HA h92
  go_wp2_with(first
   |((with_reducible refine(qej.o _ HP0.o.box).mono ?_);rintro e w1 ⟨rfl,hB,hg⟩;have HP1:=qa (HP0.o.act hB hg);clear hB hg)
   |((with_reducible refine(qeB.o _ HP1.o.box).mono ?_);rintro e w2 ⟨rfl,hB,hg⟩;have HP2:=qa (HP1.o.act hB hg);clear hB hg)
   |((with_reducible refine(qfB.o _ HP2.o.box).mono ?_);rintro e w3 ⟨rfl,hB,hg⟩;have HP3:=qa (HP2.o.act hB hg);clear hB hg)
   |((with_reducible refine(qdP.o _ HP3.o.box).mono ?_);rintro e w4 ⟨rfl,hx⟩;have HP4:=qa (HP3.o.ext hx);clear hx)
   |((with_reducible refine(HES.o _ HP4.o.box).mono ?_);rintro e w5 ⟨x,b,z1,rfl,hxl,hQ,hAl⟩;have HP5:=qa (HP4.o.act hQ.box hQ.gr);have HAL:=qa hAl;have HN5:=qa (HNW.o w5);have hba:=aD w5 (.cells Z 53);have ql1:=qa (HP5.o.below hba);clear hxl hQ hAl hba)
   |(refine b7 rfl _ _ rfl w5.heap.size rfl _ _ rfl HN5.o ?_;intro w6 hB2 hg2;have HX6:=qa hB2;have HP6:=qa (ql1.o.far hg2 (fun k e=>by injection e with e;have:=HP5.o.gr.size;omega));clear hB2 hg2)
   |(refine bJ rfl _ rfl w5.heap.size rfl _ HX6.o ?_)
   |((with_reducible refine(HON.o _ _).mono ?_);rintro e w7 ⟨v,rfl,ho,hb⟩;have HN7:Hid (bH w7 w.heap.size v [setN x]):=qa (eL.mono ho HP6.o.gr.size);have HP7:=qa (HP6.o.below hb);clear ho hb))
  go_ret;refine⟨v,_,z1,rfl,HN7.o,HP7.o,⟨fun e=>?_,fun e=>HAL.o.bad (by rw[HR.o]at e;exact e),HAL.o.le,HAL.o.top⟩,?_⟩
  ·rw[HR.o]at e⊢
   obtain⟨q1,q2⟩:=HAL.o.ok e;exact⟨q1,by rw[show x=_ from j0 Prod.fst q2]⟩
  have:=HAL.o.le;show 1+2*z.p<=_;omega
 rw[hi,qx h92]at qdP;have hR3:R=if c∈q0Y then([],bV 15 z.p z)else([setN (lX c)],bZ z):=by rw[hR,qv h92,qv h40,qv h91,qv h46]
 have HR3:=qa hR3;clear hR hR3 hi h92 h40 h91 h46 HA HES HCL
 go_upto_region 14 with(first
  |((with_reducible refine(qej.o _ HP0.o.box).mono ?_);rintro e w1 ⟨rfl,hB,hg⟩;have HP1:=qa (HP0.o.act hB hg);clear hB hg)
  |((with_reducible refine(qeB.o _ HP1.o.box).mono ?_);rintro e w2 ⟨rfl,hB,hg⟩;have HP2:=qa (HP1.o.act hB hg);clear hB hg)
  |((with_reducible refine(qfB.o _ HP2.o.box).mono ?_);rintro e w3 ⟨rfl,hB,hg⟩;have HP3:=qa (HP2.o.act hB hg);clear hB hg)
  |((with_reducible refine(qdP.o _ HP3.o.box).mono ?_);rintro e w4 ⟨rfl,hx⟩;have HP4:=qa (HP3.o.ext hx);clear hx))
 have c04:=HP4.o.box.c0;have c14:=HP4.o.box.c1;have hg4:=HP4.o.box.lt;refine cO (by kernel_rfl) (by kernel_rfl) ?_
 repeat(go_big_quiet_step ((go_at_call 96;(with_reducible exact dH (HSP.o _)))))
 refine wpQuiet_nil ?_;intro w5 hw5;have HP5:=qa (HP4.o.ext hw5);have c05:=HP5.o.box.c0;have c15:=HP5.o.box.c1;have f15:=HP5.o.box.free 1;clear hw5 c04 c14 hg4;by_cases hm:c∈q0Y
 ·have HR:Hid (R=([],bV 15 z.p z)):=qa (by rw[HR3.o,qw hm])
  rw[qz hm];clear HR3 hm hix HOC
  go_wp2_with((with_reducible refine(qhl.o _ _ HP5.o.box).mono ?_);rintro e w6 ⟨rfl,hB,hg⟩;have HP6:=qa (HP5.o.act hB hg);clear hB hg)
  go_ret;exact⟨_,[],_,rfl,eL.nil 8 w6 w.heap.size 98,HP6.o,Al.same HR.o (by rw[f6];omega) (by rw[f6];omega),by rw[f6];show 0+2*z.p<=_;omega⟩
 have HR:Hid (R=([setN (lX c)],bZ z)):=qa (by rw[HR3.o,qv hm]);rw[qx hm];have HP6:=qa HP5.o.inc;have c06:=HP6.o.box.c0;clear HR3 hm hix;generalize lX c=xo at*
 go_wp2_with(first
  |((with_reducible refine(HOC.o _).mono ?_);rintro e w7 ⟨rfl,hx⟩;have HP7:=qa (HP6.o.ext hx);clear hx)
  |((with_reducible refine(HON.o _ _).mono ?_);rintro e w8 ⟨v,rfl,ho,hb⟩;have HN8:Hid (bH w8 w.heap.size v [setN xo]):=qa (eL.mono ho HP7.o.gr.size);have HP8:=qa (HP7.o.below hb);clear ho hb))
 go_ret;exact⟨v,_,_,rfl,HN8.o,HP8.o,Al.same HR.o (by show z.p<=z.p+1;omega) (by show z.p+1<=s.size;omega),by show 1+2*z.p<=2*(z.p+1)+1;omega⟩
theorem q2R(s:eZ):∀(f:Nat) (l:List Nd) (z:PS),z.e≠0->zE s f l z=(l,z)
 |0,_,_,_=>rfl
 |f+1,l,z,h=>by unfold zE;rw[q0l h];rfl
theorem qco{alt:PS->List Nd×PS}{w:World}{g lo:Nat}{s:ByteArray}{z:PS}{c:UInt8}(hA:qaZ g s lo alt)(hlo:lo<=z.p)(hst:∀z,z.p<=(bys s).length->Stp (bys s) z (alt z).2)(hlen:∀z,z.p<=(bys s).length->(alt z).1.length+2*z.p<=2*(alt z).2.p+1)
  (h:dY w g s z) (hs:s.size<=1000000) (hc:nxR (bys s) z=some c):
  Calls prog 85 #[.pointer (some ⟨g,0,none⟩)] w (q8M (q2r (bys s) alt z) g s z w):=by
 have hgl:=h.lt;have HP0:=qa (Qs.start h);have HAT:=qa (qcn hA hlo h hs hc);have qfW:=(V2 hst hc).1;have hsm:=(q1t hlen hc).lt;obtain⟨hz0,hzp,-⟩:=k9 hc;have hzb:=qfW.len (by omega);have hzl:=qfW.le;rw[cH]at hzp hzb;obtain⟨R,hR⟩:∃R,R=q2r (bys s) alt z:=⟨_,rfl⟩;rw[<-hR]at qfW hsm hzb hzl⊢;unfold q2r at hR;rw[cH]at hR;have qiM:Hid (∀W y,dY W g s y->Calls prog 69 #[.pointer (some ⟨g,0,none⟩),.int .u8 42] W (sM (.bool (bU (bys s) 42 y).1) g s (bU (bys s) 42 y).2 W)):=qa (fun W y h=>xK h hs 42);have qiL:Hid (∀W y,dY W g s y->Calls prog 69 #[.pointer (some ⟨g,0,none⟩),.int .u8 43] W (sM (.bool (bU (bys s) 43 y).1) g s (bU (bys s) 43 y).2 W)):=qa (fun W y h=>xK h hs 43);have qiK:Hid (∀W y,dY W g s y->Calls prog 69 #[.pointer (some ⟨g,0,none⟩),.int .u8 63] W (sM (.bool (bU (bys s) 63 y).1) g s (bU (bys s) 63 y).2 W)):=qa (fun W y h=>xK h hs 63);have qhg:Hid (∀W y,dY W g s y->Calls prog 84 #[.pointer (some ⟨g,0,none⟩),.int .u8 123] W fun e w'=>e=.returned (.bool (lU (bys s) 123 y))/\∃x,w'=ext W x):=qa (fun W y h=>isQ h 123);have HTM:Hid (∀W y,nxR (bys s) y=some 123->dY W g s y->Calls prog 90 #[.pointer (some ⟨g,0,none⟩)] W (sM (.tuple #[.int .i64 (yM (bys s) y).1.lo,.int .i64 (yM (bys s) y).1.hi]) g s (yM (bys s) y).2 W)):=qa (fun W y hc h=>qci h hs hc)
 have HJN:Hid (∀(x:Nd) (l:List Nd) W v,l.length<=100000000->bH W w.heap.size v l->Calls prog 86 #[.agg (ndA x),.slice (some ⟨W.heap.size,0,none⟩) 1 1] (W.alloc (.cells #[v] 42)) (F4 (W.alloc (.cells #[v] 42)) (iZ x [l]))):=qa (fun x l W v hl h=>qaX (x:=x) (ks:=[l]) (eK W #[v] 42 (by simp)) rfl (fun i hi=>by
  have h0:i=0:=by simp at hi;omega
  subst h0;exact(bH.at h).up (aD W _)) (by simp;omega))
 clear h;go_enter func85,ntmps85
 go_wp2_with((with_reducible refine(HAT.o).mono ?_);rintro e w1 ⟨v1,l1,z1,rfl,ho,hQ,hAl,hle⟩;have HN1:=qa ho;have HP1:=qa hQ;have HAL:=qa hAl;have HLE:=qa hle;clear ho hQ hAl hle)
 have h1l:=HAL.o.le;have h1p:=HAL.o.top
 have qcZ:(z1.e=0/\zE (bys s) (s.size+1) l1 z1=R/\s.size+1<=s.size+1+z1.p/\l1.length+2*z.p+1<=2*z1.p)\/(z1.e≠0/\R.2.e≠0/\l1.length+2*z.p<=2*z1.p+1):=by
  by_cases hz1:z1.e=0
  ·obtain⟨e1,e2,e3⟩:=HAL.o.good hz1
   refine .inl ⟨hz1,by rw[e1,e2];exact hR.symm,by omega,?_⟩;rcases(q5y hlen hc).lt with h|h
   ·rw[e1,e2];exact h
   exact absurd e3 h.2
  have h2:=HAL.o.worse hz1;exact .inr ⟨hz1,by rw[hR,q2R _ _ _ _ h2];exact h2,HLE.o⟩
 have HST:=qa qcZ;clear qcZ hR qfW hsm HAT hzb hzl hc hA hst hlen HAL HLE
 go_loopg [3] (s.size+2) (fun gk xv wr=>∃(f:Nat) (l:List Nd) (y:PS),gk=f+1/\bH wr w.heap.size xv l/\Qs w wr g s y/\y.p<=s.size/\z.p<=y.p/\Hid ((y.e=0/\zE (bys s) f l y=R/\s.size+1<=f+y.p/\l.length+2*z.p+1<=2*y.p)\/(y.e≠0/\R.2.e≠0/\l.length+2*z.p<=2*y.p+1)))
 case atStart=>exact⟨s.size+1,l1,z1,rfl,HN1.o,HP1.o,h1p,h1l,HST⟩
 case round=>
  clear HN1 HP1 HST h1l h1p;obtain⟨f,l,y,hgk,hO,hP,hyp,hyl,HY⟩:=hrel;have HN:=qa hO;have HP:=qa hP;clear hO hP;obtain⟨oa,cap,hv⟩:=bH.slice HN.o;subst hv;have c2:=HP.o.box.c2;rcases HY.o with⟨h0,hRL,hf,hll⟩|⟨h0,hRb,hll⟩;rotate_left 1
  ·have he':((y.e:Int)==0)=false:=by simpa using h0
   go_wp2;go_ret;exact⟨_,l,y,rfl,HN.o,HP.o,Al.fault _ hRb h0 hyl hyp,hll⟩
  have he':((y.e:Int)==0)=true:=by rw[h0];rfl
  obtain⟨f0,rfl⟩:∃f0,f=f0+1:=⟨f-1,by omega⟩;have hnd:∀(x:Nd),(iZ x [l]).length=l.length+1:=fun x=>by simp[iZ]
  by_cases h42:lU (bys s) 42 y=true
  ·have hcc:(nxR (bys s) y).getD 0=42:=by rw[(nW h42).2.2];rfl
   have HRL:Hid (zE (bys s) f0 (iZ (kN 5) [l]) (bZ y)=R):=qa (by rw[<-hRL,zE];simp only[hcc];rfl);have hlt:=(nW h42).2.1;rw[cH]at hlt;have HJ:Hid (∀W,bH W w.heap.size (.slice oa l.length cap) l->Calls prog 86 #[.agg #[.int .i64 5,.int .i64 0,.int .u64 0,.int .u64 0,.int .u64 0,.int .u64 0,.int .i64 0,.int .i64 0],.slice (some ⟨W.heap.size,0,none⟩) 1 1] (W.alloc (.cells #[.slice oa l.length cap] 42)) (F4 (W.alloc (.cells #[.slice oa l.length cap] 42)) (iZ (kN 5) [l]))):=qa (fun W h=>HJN.o (kN 5) l W _ (by omega) h);have hnk:=hnd (kN 5);have qfD:=qa (fun W h=>qiM.o W y h);rw[nK h42]at qfD;clear hcc hRL HY h42 hnd
   go_wp2_with(first
    |((with_reducible refine(qfD.o _ HP.o.box).mono ?_);rintro e w6 ⟨rfl,hB,hg⟩;have HP6:=qa (HP.o.act hB hg);have HN6:=qa (bH.keepG HN.o hg hgl);clear hB hg)
    |((with_reducible refine(HJ.o _ HN6.o).mono ?_);rintro e w7 ⟨v7,rfl,ho,hb⟩;have HN7:Hid (bH w7 w.heap.size v7 (iZ (kN 5) [l])):=qa (eL.mono ho (qc HP6.o.gr.size (aD w6 _).size));have HP7:=qa ((HP6.o.below (aD w6 _)).below hb);clear ho hb))
   exact ZmM4
  have h42:lU (bys s) 42 y=false:=by simpa using h42
  have qdD:=qa (fun W h=>qiM.o W y h);rw[rN h42]at qdD;by_cases h43:lU (bys s) 43 y=true
  ·have hcc:(nxR (bys s) y).getD 0=43:=by rw[(nW h43).2.2];rfl
   have HRL:Hid (zE (bys s) f0 (iZ (kN 6) [l]) (bZ y)=R):=qa (by rw[<-hRL,zE];simp only[hcc];rfl);have hlt:=(nW h43).2.1;rw[cH]at hlt;have HJ:Hid (∀W,bH W w.heap.size (.slice oa l.length cap) l->Calls prog 86 #[.agg #[.int .i64 6,.int .i64 0,.int .u64 0,.int .u64 0,.int .u64 0,.int .u64 0,.int .i64 0,.int .i64 0],.slice (some ⟨W.heap.size,0,none⟩) 1 1] (W.alloc (.cells #[.slice oa l.length cap] 42)) (F4 (W.alloc (.cells #[.slice oa l.length cap] 42)) (iZ (kN 6) [l]))):=qa (fun W h=>HJN.o (kN 6) l W _ (by omega) h);have hnk:=hnd (kN 6);have qfC:=qa (fun W h=>qiL.o W y h);rw[nK h43]at qfC;clear hcc hRL HY h43 hnd
   go_wp2_with(first
    |((with_reducible refine(qdD.o _ HP.o.box).mono ?_);rintro e w2 ⟨rfl,hB,hg⟩;have HP2:=qa (HP.o.act hB hg);have HN2:=qa (bH.keepG HN.o hg hgl);clear hB hg)
    |((with_reducible refine(qfC.o _ HP2.o.box).mono ?_);rintro e w6 ⟨rfl,hB,hg⟩;have HP6:=qa (HP2.o.act hB hg);have HN6:=qa (bH.keepG HN2.o hg hgl);clear hB hg)
    |((with_reducible refine(HJ.o _ HN6.o).mono ?_);rintro e w7 ⟨v7,rfl,ho,hb⟩;have HN7:Hid (bH w7 w.heap.size v7 (iZ (kN 6) [l])):=qa (eL.mono ho (qc HP6.o.gr.size (aD w6 _).size));have HP7:=qa ((HP6.o.below (aD w6 _)).below hb);clear ho hb))
   exact ZmM4
  have h43:lU (bys s) 43 y=false:=by simpa using h43
  have qdN:=qa (fun W h=>qiL.o W y h);rw[rN h43]at qdN;by_cases h63:lU (bys s) 63 y=true
  ·have hcc:(nxR (bys s) y).getD 0=63:=by rw[(nW h63).2.2];rfl
   have HRL:Hid (zE (bys s) f0 (iZ (kN 7) [l]) (bZ y)=R):=qa (by rw[<-hRL,zE];simp only[hcc];rfl);have hlt:=(nW h63).2.1;rw[cH]at hlt;have HJ:Hid (∀W,bH W w.heap.size (.slice oa l.length cap) l->Calls prog 86 #[.agg #[.int .i64 7,.int .i64 0,.int .u64 0,.int .u64 0,.int .u64 0,.int .u64 0,.int .i64 0,.int .i64 0],.slice (some ⟨W.heap.size,0,none⟩) 1 1] (W.alloc (.cells #[.slice oa l.length cap] 42)) (F4 (W.alloc (.cells #[.slice oa l.length cap] 42)) (iZ (kN 7) [l]))):=qa (fun W h=>HJN.o (kN 7) l W _ (by omega) h);have hnk:=hnd (kN 7);have qfA:=qa (fun W h=>qiK.o W y h);rw[nK h63]at qfA;clear hcc hRL HY h63 hnd
   go_wp2_with(first
    |((with_reducible refine(qdD.o _ HP.o.box).mono ?_);rintro e w2 ⟨rfl,hB,hg⟩;have HP2:=qa (HP.o.act hB hg);have HN2:=qa (bH.keepG HN.o hg hgl);clear hB hg)
    |((with_reducible refine(qdN.o _ HP2.o.box).mono ?_);rintro e w3 ⟨rfl,hB,hg⟩;have HP3:=qa (HP2.o.act hB hg);have HN3:=qa (bH.keepG HN2.o hg hgl);clear hB hg)
    |((with_reducible refine(qfA.o _ HP3.o.box).mono ?_);rintro e w6 ⟨rfl,hB,hg⟩;have HP6:=qa (HP3.o.act hB hg);have HN6:=qa (bH.keepG HN3.o hg hgl);clear hB hg)
    |((with_reducible refine(HJ.o _ HN6.o).mono ?_);rintro e w7 ⟨v7,rfl,ho,hb⟩;have HN7:Hid (bH w7 w.heap.size v7 (iZ (kN 7) [l])):=qa (eL.mono ho (qc HP6.o.gr.size (aD w6 _).size));have HP7:=qa ((HP6.o.below (aD w6 _)).below hb);clear ho hb))
   exact ZmM4
  have h63:lU (bys s) 63 y=false:=by simpa using h63
  have qei:=qa (fun W h=>qiK.o W y h);rw[rN h63]at qei;have HIY:=qa (fun W h=>qhg.o W y h);by_cases qdp:lU (bys s) 123 y=true
  ·have hcc:(nxR (bys s) y).getD 0=123:=by rw[(nW qdp).2.2];rfl
   have qgN:zE (bys s) f0 (iZ (yM (bys s) y).1 [l]) (yM (bys s) y).2=R:=by rw[<-hRL,zE];simp only[hcc];rfl
   have qiI:=qa (fun W h=>HTM.o W y (nW qdp).2.2 h);have htl:=q8D (nW qdp).2.2;have htp:=(q5t (nW qdp).2.2).len (by rw[cH];exact hyp);rw[cH]at htp;have htn:(yM (bys s) y).1=⟨8,0,0,0,0,0,(yM (bys s) y).1.lo,(yM (bys s) y).1.hi⟩:=rfl;have hnk:=hnd (yM (bys s) y).1;rw[qdp]at HIY;have HJ:Hid (∀W,bH W w.heap.size (.slice oa l.length cap) l->Calls prog 86 #[.agg #[.int .i64 8,.int .i64 0,.int .u64 0,.int .u64 0,.int .u64 0,.int .u64 0,.int .i64 (yM (bys s) y).1.lo,.int .i64 (yM (bys s) y).1.hi],.slice (some ⟨W.heap.size,0,none⟩) 1 1] (W.alloc (.cells #[.slice oa l.length cap] 42)) (F4 (W.alloc (.cells #[.slice oa l.length cap] 42)) (iZ (yM (bys s) y).1 [l]))):=qa (fun W h=>HJN.o (yM (bys s) y).1 l W _ (by omega) h);clear hcc hRL HY qdp hnd htn;generalize yM (bys s) y=T at*;obtain⟨tn,tz⟩:=T;simp only at qiI htl htp qgN HJ hnk;generalize tn.lo=lo' at*;generalize tn.hi=hi' at*
   go_wp2_with(first
    |((with_reducible refine(qdD.o _ HP.o.box).mono ?_);rintro e w2 ⟨rfl,hB,hg⟩;have HP2:=qa (HP.o.act hB hg);have HN2:=qa (bH.keepG HN.o hg hgl);clear hB hg)
    |((with_reducible refine(qdN.o _ HP2.o.box).mono ?_);rintro e w3 ⟨rfl,hB,hg⟩;have HP3:=qa (HP2.o.act hB hg);have HN3:=qa (bH.keepG HN2.o hg hgl);clear hB hg)
    |((with_reducible refine(qei.o _ HP3.o.box).mono ?_);rintro e w4 ⟨rfl,hB,hg⟩;have HP4:=qa (HP3.o.act hB hg);have HN4:=qa (bH.keepG HN3.o hg hgl);clear hB hg)
    |((with_reducible refine(HIY.o _ HP4.o.box).mono ?_);rintro e w5 ⟨rfl,hx⟩;have HP5:=qa (HP4.o.ext hx);have HN5:Hid (bH w5 w.heap.size _ l):=qa (eL.up HN4.o (aI hx));clear hx)
    |((with_reducible refine(qiI.o _ HP5.o.box).mono ?_);rintro e w6 ⟨rfl,hB,hg⟩;have HP6:=qa (HP5.o.act hB hg);have HN6:=qa (bH.keepG HN5.o hg hgl);clear hB hg)
    |((with_reducible refine(HJ.o _ HN6.o).mono ?_);rintro e w7 ⟨v7,rfl,ho,hb⟩;have HN7:Hid (bH w7 w.heap.size v7 (iZ tn [l])):=qa (eL.mono ho (qc HP6.o.gr.size (aD w6 _).size));have HP7:=qa ((HP6.o.below (aD w6 _)).below hb);clear ho hb))
   go_roundg (f0+1)
   case measure=>omega
   case rel=>
    refine⟨f0,_,tz,rfl,HN7.o,HP7.o,htp,by omega,qa ?_⟩;by_cases htz:tz.e=0
    ·exact .inl ⟨htz,qgN,by omega,by rw[hnk];omega⟩
    exact .inr ⟨htz,by rw[<-qgN,q2R _ _ _ _ htz];exact htz,by rw[hnk];omega⟩
  have qdp:lU (bys s) 123 y=false:=by simpa using qdp
  rw[qdp]at HIY
  have HRE:Hid (R=(l,y)):=qa (by
   rw[<-hRL];rw[q6p (by decide)]at h42 h43 h63 qdp;unfold zE;simp only[of_decide_eq_false h42,of_decide_eq_false h43,of_decide_eq_false h63,of_decide_eq_false qdp,jt])
  clear hRL HY h42 h43 h63 qdp hnd
  go_wp2_with(first
   |((with_reducible refine(qdD.o _ HP.o.box).mono ?_);rintro e w2 ⟨rfl,hB,hg⟩;have HP2:=qa (HP.o.act hB hg);have HN2:=qa (bH.keepG HN.o hg hgl);clear hB hg)
   |((with_reducible refine(qdN.o _ HP2.o.box).mono ?_);rintro e w3 ⟨rfl,hB,hg⟩;have HP3:=qa (HP2.o.act hB hg);have HN3:=qa (bH.keepG HN2.o hg hgl);clear hB hg)
   |((with_reducible refine(qei.o _ HP3.o.box).mono ?_);rintro e w4 ⟨rfl,hB,hg⟩;have HP4:=qa (HP3.o.act hB hg);have HN4:=qa (bH.keepG HN3.o hg hgl);clear hB hg)
   |((with_reducible refine(HIY.o _ HP4.o.box).mono ?_);rintro e w5 ⟨rfl,hx⟩;have HP5:=qa (HP4.o.ext hx);have HN5:Hid (bH w5 w.heap.size _ l):=qa (eL.up HN4.o (aI hx));clear hx))
  go_ret;exact⟨_,l,y,rfl,HN5.o,HP5.o,Al.same HRE.o hyl hyp,by omega⟩
theorem q0B(k:Int)(ls:List (List Nd))(a b:Nat)(h:pY ls+ls.length+2*a<=2*b+2)(hab:a<=b):(sH k ls).length+2*a<=2*b+1:=by
 match ls,h with
 |[],_=>simp[sH,iZ];omega
 |[l],h=>simp[pY]at h;simp[sH];omega
 |l1::l2::r,h=>
  have e:(sH k (l1::l2::r)).length=pY (l1::l2::r)+1:=q2x _ _;rw[e];simp only[qA]at h;omega
theorem q81(s:eZ)(alt:PS->List Nd×PS):∀(f:Nat) (l:List (List Nd)) (z:PS),z.e≠0->V0 s alt f l z=(l,z)
 |0,_,_,_=>rfl
 |f+1,l,z,h=>by unfold V0 inR;rw[q0l h];rfl
theorem q2S(s:eZ)(alt:PS->List Nd×PS):∀(f:Nat) (l:List (List Nd)) (z:PS),z.e≠0->yN s alt f l z=(l,z)
 |0,_,_,_=>rfl
 |f+1,l,z,h=>by unfold yN;rw[sJ h];rfl
theorem qbG{s:eZ}{z:PS}(h0:z.e=0):inR s z=(decide (z.p<s.length)&&(!lU s 124 z&& !lU s 41 z)):=by
 unfold inR lU nxR;by_cases hp:z.p<s.length
 ·rw[qw ⟨h0,hp⟩,qz hp];simp
 rw[qv (fun h=>hp h.2),qx hp];rfl
theorem qc1{alt:PS->List Nd×PS}{w:World}{g lo:Nat}{s:ByteArray}{z:PS}(hA:qaZ g s lo alt)(hlo:lo<=z.p)(hst:∀z,z.p<=(bys s).length->Stp (bys s) z (alt z).2)(hlen:∀z,z.p<=(bys s).length->(alt z).1.length+2*z.p<=2*(alt z).2.p+1)
  (h:dY w g s z) (hs:s.size<=1000000) (hz0:z.e=0) (hzp:z.p<=s.size):
  Calls prog 68 #[.pointer (some ⟨g,0,none⟩)] w (q8M (rH (bys s) alt z) g s z w):=by
 have hgl:=h.lt;have HP0:=qa (Qs.start h);obtain⟨L,hL⟩:∃L,L=V0 (bys s) alt (s.size+1) [] z:=⟨_,rfl⟩;have hR:rH (bys s) alt z=(sH 3 L.1,L.2):=by unfold rH;rw[cH,<-hL]
 rw[hR];have HL:=qa hL.symm;have qkZ:Hid (∀W y c,lo<=y.p->nxR (bys s) y=some c->dY W g s y->Calls prog 85 #[.pointer (some ⟨g,0,none⟩)] W (q8M (q2r (bys s) alt y) g s y W)):=qa (fun W y c hl hc h=>qco hA hl hst hlen h hs hc);have HRS:=qa (fun(y:PS) (c:UInt8) (hc:nxR (bys s) y=some c)=>(V2 hst hc).2);have HRM:=qa (fun(y:PS) (c:UInt8) (hc:nxR (bys s) y=some c)=>(q1t hlen hc).lt);have qfO:Hid (∀W y,dY W g s y->Calls prog 84 #[.pointer (some ⟨g,0,none⟩),.int .u8 124] W fun e w'=>e=.returned (.bool (lU (bys s) 124 y))/\∃x,w'=ext W x):=qa (fun W y h=>isQ h 124);have qj3:Hid (∀W y,dY W g s y->Calls prog 84 #[.pointer (some ⟨g,0,none⟩),.int .u8 41] W fun e w'=>e=.returned (.bool (lU (bys s) 41 y))/\∃x,w'=ext W x):=qa (fun W y h=>isQ h 41);have HM:Hid (∀W v (vs:List Value) (ls:List (List Nd)),w.heap.size<=W.heap.size->Own W w.heap.size 42 v vs->iM W w.heap.size vs ls->ls≠[]->pY ls<=4000000->Calls prog 70 #[.int .i64 3,v] W (qbD w.heap.size (sH 3 ls) W)):=qa (fun W v vs ls hb ho hr hn hl=>qaY (k:=3) ho hr hb hn hl);have HNW:Hid (∀W:World,w.heap.size<=W.heap.size->bH (W.alloc (.cells #[.int .i64 2,.int .i64 0,.int .u64 0,.int .u64 0,.int .u64 0,.int .u64 0,.int .i64 0,.int .i64 0] 98)) w.heap.size (.slice (some ⟨W.heap.size,0,none⟩) 1 1) (sH 3 [])):=qa (fun W hb=>oU 8 W w.heap.size #[.int .i64 2,.int .i64 0,.int .u64 0,.int .u64 0,.int .u64 0,.int .u64 0,.int .i64 0,.int .i64 0] 98 [ndC (kN 2)] rfl (by intro y hy;simp at hy;subst hy;rfl) (by simp) hb);clear h hL hR hA;go_enter func68,ntmps68;go_wp2
 go_loopg [3] (s.size+2) (fun gk kv wr=>∃(f:Nat) (vs:List Value) (ls:List (List Nd)) (y:PS),gk=f+1/\Own wr w.heap.size 42 kv vs/\iM wr w.heap.size vs ls/\Qs w wr g s y/\y.p<=s.size/\z.p<=y.p/\Hid ((y.e=0/\V0 (bys s) alt f ls y=L/\s.size+1<=f+y.p/\pY ls+ls.length+2*z.p<=2*y.p)\/(y.e≠0/\L.2.e≠0/\ls≠[]/\pY ls+ls.length+2*z.p<=2*y.p+2)))
 case atStart=>exact⟨s.size+1,[],[],z,rfl,Own.nil _ _ _,iM.nil _ _,HP0.o,hzp,qb _,qa (.inl ⟨hz0,HL.o,by omega,by simp[pY]⟩)⟩
 case round=>
  clear HP0 HL;obtain⟨f,vs,ls,y,hgk,hO,hRW,hP,hyp,hyl,HY⟩:=hrel;have HO:=qa hO;have HP:=qa hP;have HRW:=qa hRW;have qdE:=hRW.1;clear hO hP hRW;obtain⟨oa,cap,b0,off0,hv,-,-⟩:=HO.o.sl;rw[qdE]at hv;subst hv;have c2:=HP.o.box.c2;have c1:=HP.o.box.c1;have c0:=HP.o.box.c0;have hgw:=HP.o.box.lt;rcases HY.o with⟨h0,hCL,hf,hsb⟩|⟨h0,hLb,hne,hsb⟩;rotate_left 1
  ·have he':((y.e:Int)==0)=false:=by simpa using h0
   have qcK:=qa (fun W h=>qfO.o W y h);have qd4:=qa (fun W h=>qj3.o W y h);go_wp2;refine cO (by kernel_rfl) (by kernel_rfl) ?_
   repeat(go_big_quiet_step ((go_at_call 84;first|(with_reducible exact dH (qcK.o _ (HP.o.box.up (aE _ _))))|(with_reducible exact dH (qd4.o _ (HP.o.box.up (aE _ _)))))))
   refine wpQuiet_nil ?_;intro w1 hw1;have HP1:=qa (HP.o.ext hw1);have HO1:=qa (HO.o.up (aI hw1));have HR1:Hid (iM w1 w.heap.size vs ls):=qa (HRW.o.all (fun v l h=>eL.up h (aI hw1)));clear hw1 c0 c1 c2 hgw;have HAL:Hid (Al s.size z (sH 3 L.1,L.2) (sH 3 ls) y):=qa (Al.fault _ hLb h0 hyl hyp);have HBD:=qa (q0B 3 ls z.p y.p hsb hyl);have HSL:Hid (pY ls<=4000000):=qa (by omega);have hn0:¬ls.length=0:=fun e=>hne (List.length_eq_zero_iff.1 e);have qgw:((ls.length:Int)==0)=false:=by simpa using hn0
   have HMY:=qa (fun W h1 h2 h3=>HM.o W (.slice oa ls.length cap) vs ls h1 h2 h3 hne HSL.o)
   go_wp2_with(first
    |((with_reducible refine(HMY.o _ HP1.o.gr.size HO1.o HR1.o).mono ?_);rintro e w7 ⟨v7,rfl,ho,hb⟩;have HN7:=qa ho;have HP7:=qa (HP1.o.below hb);clear ho hb))
   go_ret;exact⟨v7,_,y,rfl,HN7.o,HP7.o,HAL.o,HBD.o⟩
  have he':((y.e:Int)==0)=true:=by rw[h0];rfl
  obtain⟨f0,rfl⟩:∃f0,f=f0+1:=⟨f-1,by omega⟩;have hin:=qbG (s:=bys s) h0;rw[cH]at hin;have qiv:(if inR (bys s) y then V0 (bys s) alt f0 (ls++[(q2r (bys s) alt y).1]) (q2r (bys s) alt y).2 else(ls,y))=L:=by rw[<-hCL,V0]
  have HCL:=qa qiv;have qcK:=qa (fun W h=>qfO.o W y h);have qd4:=qa (fun W h=>qj3.o W y h);clear hCL qiv;by_cases hp:y.p<s.size;rotate_left 1
  ·have HLX:Hid (L=(ls,y)):=qa (by rw[<-HCL.o,hin,qx hp];rfl)
   have hpd:decide ((y.p:Int)<(s.size:Int))=false:=qx (by omega);clear hin HCL;go_wp2;refine cO (by kernel_rfl) (by kernel_rfl) ?_
   exact ZmM0
  rw[qz hp,j6]at hin;have hpi:(y.p:Int)<(s.size:Int):=by omega
  cases h124:lU (bys s) 124 y with
  |true=>
   have HLX:Hid (L=(ls,y)):=qa (by rw[<-HCL.o,hin,h124];rfl);rw[h124]at qcK;clear hin HCL h124;go_wp2;refine cO (by kernel_rfl) (by kernel_rfl) ?_
   exact ZmM0
  |false=>
   rw[h124]at qcK;cases h41:lU (bys s) 41 y with
   |true=>
    have HLX:Hid (L=(ls,y)):=qa (by rw[<-HCL.o,hin,h41,h124];rfl);rw[h41]at qd4;clear hin HCL h124 h41;go_wp2;refine cO (by kernel_rfl) (by kernel_rfl) ?_
    exact ZmM0
   |false=>
    rw[h41]at qd4;rw[h124,h41]at hin;have hcn:=HCL.o;rw[hin]at hcn;have HCN:Hid (V0 (bys s) alt f0 (ls++[(q2r (bys s) alt y).1]) (q2r (bys s) alt y).2=L):=qa hcn;have hnx:nxR (bys s) y=some ((bys s).getD y.p 0):=by unfold nxR;rw[qw ⟨h0,by rw[cH];exact hp⟩]
    have HRY:=qa (fun W h=>qkZ.o W y _ (by omega) hnx h);have qkW:=qa (HRS.o y _ hnx);have qkX:=qa (HRM.o y _ hnx);have hvl:vs.length<=2000000:=by rw[qdE];omega
    clear hin hcn HCL h124 h41 hnx;go_wp2;refine cO (by kernel_rfl) (by kernel_rfl) ?_
    repeat(go_big_quiet_step ((go_at_call 84;first|(with_reducible exact dH (qcK.o _ (HP.o.box.up (aE _ _))))|(with_reducible exact dH (qd4.o _ (HP.o.box.up (aE _ _)))))))
    refine wpQuiet_nil ?_;intro w1 hw1;have HP1:=qa (HP.o.ext hw1);have HO1:=qa (HO.o.up (aI hw1));have HR1:Hid (iM w1 w.heap.size vs ls):=qa (HRW.o.all (fun v l h=>eL.up h (aI hw1)));clear hw1 c0 c1 c2 hgw
    go_wp2_with(first
     |((with_reducible refine((HRY.o _ HP1.o.box).mono ?_));rintro e w2 ⟨v2,pl,z2,rfl,ho,hQ,hAl,hle⟩;have HN2:Hid (bH w2 w.heap.size v2 pl):=qa (eL.mono ho HP1.o.gr.size);have HP2:=qa (HP1.o.act hQ.box hQ.gr);have HO2:=qa (HO1.o.keep hQ.gr (qaR hgl HO1.o));have HR2:Hid (iM w2 w.heap.size vs ls):=qa (HR1.o.all (fun v l h=>bH.keepG h hQ.gr hgl));have HAL:=qa hAl;have HLE:=qa hle;clear ho hQ hAl hle;obtain⟨oa2,cap2,hv2⟩:=bH.slice HN2.o;subst hv2;have hba:=aD w2 (.cells #[.slice oa2 pl.length cap2] 42);have HX3:Hid (Sl (w2.alloc (.cells #[.slice oa2 pl.length cap2] 42)) (.slice (some ⟨w2.heap.size,0,none⟩) 1 1) [.slice oa2 pl.length cap2]):=qa (by simpa using eK w2 #[.slice oa2 pl.length cap2] 42 (by simp));have HO3:=qa (HO2.o.up hba);have HP3:=qa (HP2.o.below hba);have HR3:Hid (iM (w2.alloc (.cells #[.slice oa2 pl.length cap2] 42)) w.heap.size (vs++[.slice oa2 pl.length cap2]) (ls++[pl])):=qa ((HR2.o.snoc HN2.o).all (fun v l h=>eL.up h hba));have HLEN:Hid (vs.length+[Value.slice oa2 pl.length cap2].length<=4294967296):=qa (by simp;omega);clear hba)
     |(at_builtin;refine bF rfl (.tmp 31) (.tmp 34) 22 rfl w.heap.size 42 (.slice none 0 0) 24 underlying22 (by kernel_rfl) rfl (by decide) _ vs rfl HO3.o (.slice (some ⟨w2.heap.size,0,none⟩) 1 1) [.slice oa2 pl.length cap2] rfl HX3.o (by intro u hu;simp only[jg]at hu;subst hu;rfl) HLEN.o HP3.o.gr.size ?_;intro v' w5 hown1 hg1 hk1;have HO5:=qa hown1;have HP5:=qa (HP3.o.far hg1 (fun q e=>(HO3.o.lt q e).1));have HR5:Hid (iM w5 w.heap.size (vs++[.slice oa2 pl.length cap2]) (ls++[pl])):=qa (HR3.o.all (fun v l h=>eL.keep h hg1 (q0A HO3.o h (by decide))));clear hown1 hg1 hk1))
    have h2l:=HAL.o.le;have h2p:=HAL.o.top;have hle:=HLE.o
    go_roundg (f0+1)
    case measure=>omega
    case rel=>
     refine⟨f0,_,_,z2,rfl,HO5.o,HR5.o,HP5.o,h2p,by omega,qa ?_⟩;by_cases hz2:z2.e=0
     ·obtain⟨e1,e2,e3⟩:=HAL.o.good hz2
      have h5:=qkW.o.resolve_left (fun h=>h e3);have h6:=qkX.o.resolve_right (fun h=>h.2 e3);rw[<-e1]at h5;rw[<-e1,<-e2]at h6;exact .inl ⟨hz2,by rw[e1,e2];exact HCN.o,by omega,by rw[rI,qj,qE];omega⟩
     have hw:=HAL.o.worse hz2;exact .inr ⟨hz2,by rw[<-HCN.o,q81 _ _ _ _ _ hw];exact hw,by simp,by rw[rI,qj,qE];omega⟩
theorem qb0{alt:PS->List Nd×PS}{w:World}{g lo:Nat}{s:ByteArray}{z:PS}(hA:qaZ g s lo alt)(hlo:lo<=z.p)(hst:∀z,z.p<=(bys s).length->Stp (bys s) z (alt z).2)(hlen:∀z,z.p<=(bys s).length->(alt z).1.length+2*z.p<=2*(alt z).2.p+1)
  (h:dY w g s z) (hs:s.size<=1000000) (hz0:z.e=0) (hzp:z.p<=s.size):
  Calls prog 38 #[.pointer (some ⟨g,0,none⟩)] w (q8M (sH 4 (yN (bys s) alt ((bys s).length+1) [(rH (bys s) alt z).1] (rH (bys s) alt z).2).1,(yN (bys s) alt ((bys s).length+1) [(rH (bys s) alt z).1] (rH (bys s) alt z).2).2) g s z w):=by
 have hgl:=h.lt;have HP0:=qa (Qs.start h);have HCA:=qa (qc1 hA hlo hst hlen h hs hz0 hzp);obtain⟨L,hL⟩:∃L,L=yN (bys s) alt (s.size+1) [(rH (bys s) alt z).1] (rH (bys s) alt z).2:=⟨_,rfl⟩;rw[cH,<-hL];have HL:=qa hL.symm;have qln:Hid (∀W y,lo<=y.p->y.e=0->y.p<=s.size->dY W g s y->Calls prog 68 #[.pointer (some ⟨g,0,none⟩)] W (q8M (rH (bys s) alt y) g s y W)):=qa (fun W y hl h0 hp h=>qc1 hA hl hst hlen h hs h0 hp);have qgX:Hid (∀W y,dY W g s y->Calls prog 69 #[.pointer (some ⟨g,0,none⟩),.int .u8 124] W (sM (.bool (bU (bys s) 124 y).1) g s (bU (bys s) 124 y).2 W)):=qa (fun W y h=>xK h hs 124);have HM:Hid (∀W v (vs:List Value) (ls:List (List Nd)),w.heap.size<=W.heap.size->Own W w.heap.size 42 v vs->iM W w.heap.size vs ls->ls≠[]->pY ls<=4000000->Calls prog 70 #[.int .i64 4,v] W (qbD w.heap.size (sH 4 ls) W)):=qa (fun W v vs ls hb ho hr hn hl=>qaY (k:=4) ho hr hb hn hl);generalize rH (bys s) alt z=C0 at*;clear h hL hA;go_enter func38,ntmps38
 go_wp2_with((with_reducible refine(HCA.o).mono ?_);rintro e w1 ⟨v1,l1,z1,rfl,ho,hQ,hAl,hle⟩;have HN1:Hid (bH w1 w.heap.size v1 l1):=qa ho;have HP1:=qa hQ;have HAL:=qa hAl;have HLE:=qa hle;clear ho hQ hAl hle;obtain⟨oa1,cap1,hv1⟩:=bH.slice HN1.o;subst hv1)
 have hba:=aD w1 (.cells #[.slice oa1 l1.length cap1] 42);have HO1:Hid (Own (w1.alloc (.cells #[.slice oa1 l1.length cap1] 42)) w.heap.size 42 (.slice (some ⟨w1.heap.size,0,none⟩) 1 1) [.slice oa1 l1.length cap1]):=qa (by simpa using cN w1 w.heap.size #[.slice oa1 l1.length cap1] 42 (by simp) HP1.o.gr.size);have HP2:=qa (HP1.o.below hba);have HR2:Hid (iM (w1.alloc (.cells #[.slice oa1 l1.length cap1] 42)) w.heap.size [.slice oa1 l1.length cap1] [l1]):=qa (((iM.nil w1 w.heap.size).snoc HN1.o).all (fun v l h=>eL.up h hba));have h1l:=HAL.o.le;have h1p:=HAL.o.top;have h1n:=HLE.o
 have qcZ:(z1.e=0/\yN (bys s) alt (s.size+1) [l1] z1=L/\s.size+1<=s.size+1+z1.p)\/(z1.e≠0/\L.2.e≠0):=by
  by_cases hz1:z1.e=0
  ·obtain⟨e1,e2,-⟩:=HAL.o.good hz1
   exact .inl ⟨hz1,by rw[e1,e2];exact HL.o,by omega⟩
  have hw:=HAL.o.worse hz1;exact .inr ⟨hz1,by rw[<-HL.o,q2S _ _ _ _ _ hw];exact hw⟩
 have HST:=qa qcZ;clear qcZ HL HAL HLE HCA HN1 HP1 hba;generalize w1.alloc (.cells #[.slice oa1 l1.length cap1] 42)=w2 at*;generalize Value.slice (some ⟨w1.heap.size,0,none⟩) 1 1=kv1 at*
 go_loopg [3] (s.size+2) (fun gk kv wr=>∃(f:Nat) (vs:List Value) (ls:List (List Nd)) (y:PS),gk=f+1/\Own wr w.heap.size 42 kv vs/\iM wr w.heap.size vs ls/\Qs w wr g s y/\y.p<=s.size/\z.p<=y.p/\ls≠[]/\pY ls+ls.length+2*z.p<=2*y.p+2/\Hid ((y.e=0/\yN (bys s) alt f ls y=L/\s.size+1<=f+y.p)\/(y.e≠0/\L.2.e≠0)))
 case atStart=>exact⟨s.size+1,_,[l1],z1,rfl,HO1.o,HR2.o,HP2.o,h1p,h1l,by simp,by simp[pY];omega,HST⟩
 case round=>
  clear HP0 HO1 HR2 HP2 HST h1l h1p h1n;obtain⟨f,vs,ls,y,hgk,hO,hRW,hP,hyp,hyl,hne,hsb,HY⟩:=hrel;have HO:=qa hO;have HP:=qa hP;have HRW:=qa hRW;have qdE:=hRW.1;clear hO hP hRW;obtain⟨oa,cap,b0,off0,hv,-,-⟩:=HO.o.sl;rw[qdE]at hv;subst hv;have HTY:=qa (fun W h=>qgX.o W y h);have HBD:=qa (q0B 4 ls z.p y.p hsb hyl);have HSL:Hid (pY ls<=4000000):=qa (by omega);have HMY:=qa (fun W h1 h2 h3=>HM.o W (.slice oa ls.length cap) vs ls h1 h2 h3 hne HSL.o);rcases HY.o with⟨h0,hCL,hf⟩|⟨h0,hLb⟩;rotate_left 1
  ·rw[sJ h0]at HTY
   have HAL:Hid (Al s.size z (sH 4 L.1,L.2) (sH 4 ls) y):=qa (Al.fault _ hLb h0 hyl hyp)
   exact ZmM3
  obtain⟨f0,rfl⟩:∃f0,f=f0+1:=⟨f-1,by omega⟩;rw[yN,kU]at hCL;cases hi:lU (bys s) 124 y with
  |false=>
   rw[hi]at hCL;rw[rN hi]at HTY;have HAL:Hid (Al s.size z (sH 4 L.1,L.2) (sH 4 ls) y):=qa (Al.same (by rw[<-hCL];rfl) hyl hyp);clear hCL hi
   exact ZmM3
  |true=>
   rw[hi]at hCL;rw[nK hi]at HTY;have hlt:=(nW hi).2.1;rw[cH]at hlt;have HCN:Hid (yN (bys s) alt f0 (ls++[(rH (bys s) alt (bZ y)).1]) (rH (bys s) alt (bZ y)).2=L):=qa hCL;have HCY:=qa (fun W h=>qln.o W (bZ y) (by show lo<=y.p+1;omega) h0 hlt h);have hvl:vs.length<=2000000:=by rw[qdE];omega
   clear hCL hi
   go_wp2_with(first
    |((with_reducible refine(HTY.o _ HP.o.box).mono ?_);rintro e w1 ⟨rfl,hB,hg⟩;have HP1:=qa (HP.o.act hB hg);have HO1:=qa (HO.o.keep hg (qaR hgl HO.o));have HR1:Hid (iM w1 w.heap.size vs ls):=qa (HRW.o.all (fun v l h=>bH.keepG h hg hgl));clear hB hg)
    |((with_reducible refine((HCY.o _ HP1.o.box).mono ?_));rintro e w2 ⟨v2,pl,z2,rfl,ho,hQ,hAl,hle⟩;have HN2:Hid (bH w2 w.heap.size v2 pl):=qa (eL.mono ho HP1.o.gr.size);have HP2:=qa (HP1.o.act hQ.box hQ.gr);have HO2:=qa (HO1.o.keep hQ.gr (qaR hgl HO1.o));have HR2:Hid (iM w2 w.heap.size vs ls):=qa (HR1.o.all (fun v l h=>bH.keepG h hQ.gr hgl));have HAL:=qa hAl;have HLE:=qa hle;clear ho hQ hAl hle;obtain⟨oa2,cap2,hv2⟩:=bH.slice HN2.o;subst hv2;have hba:=aD w2 (.cells #[.slice oa2 pl.length cap2] 42);have HX3:Hid (Sl (w2.alloc (.cells #[.slice oa2 pl.length cap2] 42)) (.slice (some ⟨w2.heap.size,0,none⟩) 1 1) [.slice oa2 pl.length cap2]):=qa (by simpa using eK w2 #[.slice oa2 pl.length cap2] 42 (by simp));have HO3:=qa (HO2.o.up hba);have HP3:=qa (HP2.o.below hba);have HR3:Hid (iM (w2.alloc (.cells #[.slice oa2 pl.length cap2] 42)) w.heap.size (vs++[.slice oa2 pl.length cap2]) (ls++[pl])):=qa ((HR2.o.snoc HN2.o).all (fun v l h=>eL.up h hba));have HLEN:Hid (vs.length+[Value.slice oa2 pl.length cap2].length<=4294967296):=qa (by simp;omega);clear hba)
    |(at_builtin;refine bF rfl (.tmp 9) (.tmp 12) 22 rfl w.heap.size 42 (.slice none 0 0) 24 underlying22 (by kernel_rfl) rfl (by decide) _ vs rfl HO3.o (.slice (some ⟨w2.heap.size,0,none⟩) 1 1) [.slice oa2 pl.length cap2] rfl HX3.o (by intro u hu;simp only[jg]at hu;subst hu;rfl) HLEN.o HP3.o.gr.size ?_;intro v' w5 hown1 hg1 hk1;have HO5:=qa hown1;have HP5:=qa (HP3.o.far hg1 (fun q e=>(HO3.o.lt q e).1));have HR5:Hid (iM w5 w.heap.size (vs++[.slice oa2 pl.length cap2]) (ls++[pl])):=qa (HR3.o.all (fun v l h=>eL.keep h hg1 (q0A HO3.o h (by decide))));clear hown1 hg1 hk1))
   have h2l:y.p+1<=z2.p:=HAL.o.le;have h2p:=HAL.o.top;have hle:pl.length+2*(y.p+1)<=2*z2.p+1:=HLE.o
   go_roundg (f0+1)
   case measure=>omega
   case rel=>
    refine⟨f0,_,_,z2,rfl,HO5.o,HR5.o,HP5.o,h2p,by omega,by simp,by rw[rI,qj,qE];omega,qa ?_⟩;by_cases hz2:z2.e=0
    ·obtain⟨e1,e2,-⟩:=HAL.o.good hz2
     exact .inl ⟨hz2,by rw[e1,e2];exact HCN.o,by omega⟩
    have hw:=HAL.o.worse hz2;exact .inr ⟨hz2,by rw[<-HCN.o,q2S _ _ _ _ _ hw];exact hw⟩
theorem qc2(g:Nat)(s:ByteArray)(hs:s.size<=1000000):∀f lo,s.size<=f+lo->qaZ g s lo (tW (bys s) f)
 |0,lo,hf=>fun W z h h0 hl hz=>absurd hl (by omega)
 |f+1,lo,hf=>fun W z h h0 hl hz=>qb0 (lo:=lo+1) (qc2 g s hs f (lo+1) (by omega)) hl (fun z _=>E5 (bys s) f z) (fun z _=>q1u (bys s) f z) h hs h0 hz
def q9T(y:List Nd×Nat×Nat)(w:World)(e:Ending)(w':World):Prop:=∃(v:Value) (c b:Nat),e=.returned (.tuple #[v,.int .i64 c,.int .i64 b])/\bH w' w.heap.size v y.1/\Below w.heap.size w w'/\(c=0↔y.2.1=0)
theorem q8N{s:ByteArray}{w:World}:Calls prog 13 #[.string s] w (q9T (q7w (bys s)) w):=by
 obtain⟨R,hR⟩:∃R,R=q7w (bys s):=⟨_,rfl⟩;rw[<-hR];unfold q7w at hR;rw[cH]at hR;by_cases qe0:512<s.size
 ·rw[qw qe0]at hR
  have HR:=qa hR;clear hR;have hb:(s.size:Int)>512:=by omega
  go_enter func13,ntmps13;go_wp2;refine bodyPost_ret (v:=.tuple #[.slice none 0 0,.int .i64 3,.int .i64 512]) (by simp[results,results13,go_sem]) rfl ?_;rw[HR.o];exact⟨_,3,512,rfl,eL.nil 8 w w.heap.size 98,qn _ _,by simp⟩
 rw[qv qe0]at hR;have hb:¬(s.size:Int)>512:=by omega
 have hs:s.size<=1000000:=by omega
 obtain⟨w1,hw1⟩:∃w1,w1=w.alloc (.cells #[.string s,.int .i64 0,.int .i64 0,.int .i64 0] 102):=⟨_,rfl⟩;have hb1:Below w.heap.size w w1:=by rw[hw1];exact aD w _
 have hs1:w1.heap.size=w.heap.size+1:=by rw[hw1];simp
 have hB1:dY w1 w.heap.size s ⟨0,0,0⟩:=⟨by
  rw[hw1];simpa using cN w w.heap.size #[.string s,.int .i64 0,.int .i64 0,.int .i64 0] 102 (by simp) (qb _)⟩
 have HA:=qb0 (lo:=0) (qc2 w.heap.size s hs s.size 0 (by omega)) (qb _) (fun z _=>E5 (bys s) s.size z) (fun z _=>q1u (bys s) s.size z) hB1 hs rfl (qd _);rw[show(sH 4 (yN (bys s) (tW (bys s) s.size) ((bys s).length+1) [(rH (bys s) (tW (bys s) s.size) ⟨0,0,0⟩).1] (rH (bys s) (tW (bys s) s.size) ⟨0,0,0⟩).2).1,(yN (bys s) (tW (bys s) s.size) ((bys s).length+1) [(rH (bys s) (tW (bys s) s.size) ⟨0,0,0⟩).1] (rH (bys s) (tW (bys s) s.size) ⟨0,0,0⟩).2).2)=tW (bys s) (s.size+1) ⟨0,0,0⟩from rfl]at HA;have HA:=qa HA;clear hB1;generalize tW (bys s) (s.size+1) ⟨0,0,0⟩=A at*;have HF:Hid (∀W z,dY W w.heap.size s z->Calls prog 39 #[.pointer (some ⟨w.heap.size,0,none⟩),.int .i64 15,.int .i64 z.p] W (sM (.tuple #[]) w.heap.size s (bV 15 z.p z) W)):=qa (fun W z h=>W2 h 15 z.p);have HW1:=qa hw1;rw[hw1]at HA;have HB1:=qa hb1;have HS1:=qa hs1;clear qe0 hw1 hb1 hs1;go_enter func13,ntmps13
 go_upto_region 5 with((with_reducible refine(HA.o).mono ?_);rintro e w2 ⟨v,l,z,rfl,ho,hQ,hAl,hle⟩;rw[<-HW1.o]at ho hQ;have HO2:Hid (bH w2 (w.heap.size+1) v l):=qa (eL.mono ho (by rw[HS1.o];exact qb _));have HP2:=qa hQ.box;have HG2:=qa (HB1.o.grown hQ.gr (HB1.o.size) (fun k e=>by have:=qr e;omega));have HAL:=qa hAl;have HLE:=qa hle;obtain⟨oa,cap,hv⟩:=bH.slice HO2.o;subst hv;clear ho hQ hAl hle)
 have c1:=HP2.o.c1;have c2:=HP2.o.c2;have c3:=HP2.o.c3;have hzt:=HAL.o.top;have hll:=HLE.o;have hl2:l.length<=2000:=by simp at hll;omega
 obtain⟨z2,hz2⟩:∃z2,z2=if z.p<s.size then bV 15 z.p z else z:=⟨_,rfl⟩
 have hRz:R.2.1=0↔(z2.e=0/\l.length<=400):=by
  by_cases he:z.e=0
  ·obtain⟨e1,e2,-⟩:=HAL.o.good he
   have hnx:nxR (bys s) z=if z.p<s.size then some ((bys s).getD z.p 0)else none:=by unfold nxR;rw[cH];simp only[he,true_and]
   have hzz:(if(nxR (bys s) A.2).isSome then bV 15 A.2.p A.2 else A.2)=z2:=by
    rw[<-e1,hnx,hz2];split<;>rfl
   try simp only at hR
   rw[hzz,<-e2]at hR;rw[hR];by_cases h1:z2.e=0
   ·rw[qv (fun h=>h h1)]
    by_cases h2:400<l.length
    ·rw[qw h2];simp;omega
    rw[qv h2];simp;omega
   rw[qw h1];simp[h1]
  have hw:=HAL.o.worse he;have hzz:(if(nxR (bys s) A.2).isSome then bV 15 A.2.p A.2 else A.2)=A.2:=by rw[q0l hw];rfl
  try simp only at hR
  rw[hzz,qw hw]at hR
  have h1:z2.e≠0:=by
   rw[hz2];split
   ·rw[xF he];exact he
   exact he
  rw[hR];simp[hw,h1]
 have hRl:R.1=if z2.e=0/\l.length<=400 then l else []:=by
  by_cases he:z.e=0
  ·obtain⟨e1,e2,-⟩:=HAL.o.good he
   have hnx:nxR (bys s) z=if z.p<s.size then some ((bys s).getD z.p 0)else none:=by unfold nxR;rw[cH];simp only[he,true_and]
   have hzz:(if(nxR (bys s) A.2).isSome then bV 15 A.2.p A.2 else A.2)=z2:=by
    rw[<-e1,hnx,hz2];split<;>rfl
   try simp only at hR
   rw[hzz,<-e2]at hR;rw[hR];by_cases h1:z2.e=0
   ·rw[qv (fun h=>h h1)]
    by_cases h2:400<l.length
    ·rw[qw h2,qv (by omega)]
    rw[qv h2,qw ⟨h1,by omega⟩]
   rw[qw h1,qv (fun h=>h1 h.1)]
  have hw:=HAL.o.worse he;have hzz:(if(nxR (bys s) A.2).isSome then bV 15 A.2.p A.2 else A.2)=A.2:=by rw[q0l hw];rfl
  try simp only at hR
  rw[hzz,qw hw]at hR
  have h1:z2.e≠0:=by
   rw[hz2];split
   ·rw[xF he];exact he
   exact he
  rw[hR,qv (fun h=>h1 h.1)]
 have HRZ:=qa hRz;have HRL:=qa hRl;clear hR hRz hRl
 go_upto_if 21 with(fail)
 go_cut [] (fun wx=>dY wx w.heap.size s z2/\bH wx (w.heap.size+1) (.slice oa l.length cap) l/\Below w.heap.size w wx)
 case first=>
  by_cases hp:z.p<s.size
  ·have hpi:(z.p:Int)<(s.size:Int):=by omega
   rw[qw hp]at hz2;have HZ:=qa hz2;clear hz2
   go_wp2_with((with_reducible refine(HF.o _ _ HP2.o).mono ?_);rintro e w4 ⟨rfl,hB,hg⟩;have HP4:=qa hB;have HG4:=qa (HG2.o.grown hg (HG2.o.size) (fun k e=>by have:=qr e;omega));have HO4:Hid (bH w4 (w.heap.size+1) (.slice oa l.length cap) l):=qa (bH.keepG HO2.o hg (qV _));clear hB hg)
   go_meet
   case rel=>rw[HZ.o];exact⟨HP4.o,HO4.o,HG4.o⟩
  have hpi:¬(z.p:Int)<(s.size:Int):=by omega
  have hpd:decide ((z.p:Int)<(s.size:Int))=false:=qx hpi;rw[qv hp]at hz2;have HZ:=qa hz2;clear hz2;go_wp2
  go_meet
  case rel=>rw[HZ.o];exact⟨HP2.o,HO2.o,HG2.o⟩
 case rest=>
  have HC:=qa hcut;have d2:=HC.o.1.c2;have d3:=HC.o.1.c3;clear hcut hz2 c1 c2 c3;by_cases he:z2.e=0
  ·have heb:((z2.e:Int) != 0)=false:=by rw[he];rfl
   by_cases hl4:400<l.length
   ·have hbi:(l.length:Int)>400:=by omega
    go_wp2;refine bodyPost_ret (v:=.tuple #[.slice none 0 0,.int .i64 3,.int .i64 0]) (by simp[results,results13,go_sem]) rfl ?_;exact⟨_,3,0,rfl,by rw[HRL.o,qv (by omega)];exact eL.nil 8 wc w.heap.size 98,HC.o.2.2,by rw[HRZ.o];simp;omega⟩
   have hbi:¬(l.length:Int)>400:=by omega
   go_wp2;refine bodyPost_ret (v:=.tuple #[.slice oa l.length cap,.int .i64 0,.int .i64 0]) (by simp[results,results13,go_sem]) rfl ?_;exact⟨_,0,0,rfl,by rw[HRL.o,qw ⟨he,by omega⟩];exact eL.mono HC.o.2.1 (jd _),HC.o.2.2,by rw[HRZ.o];simp;omega⟩
  have heb:((z2.e:Int) != 0)=true:=by simpa using he
  go_wp2
  go_quiet (fail)
  go_wp2;refine bodyPost_ret (v:=.tuple #[.slice none 0 0,.int .i64 z2.e,.int .i64 z2.b]) (by simp[results,results13,go_sem]) rfl ?_;exact⟨_,z2.e,z2.b,rfl,by rw[HRL.o,qv (fun h=>he h.1)];exact eL.nil 8 _ w.heap.size 98,HC.o.2.2.trans ((aX _ _).mono HC.o.2.2.size),by rw[HRZ.o];simp[he]⟩
end Go.Cm
