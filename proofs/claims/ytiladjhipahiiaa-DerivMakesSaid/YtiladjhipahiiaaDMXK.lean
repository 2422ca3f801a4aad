/- Walks of functions and plain facts, joined and squeezed by a program. Conditions: as each says. -/
import Derived.Test.YtiladjhipahiiaaDMXH
set_option maxHeartbeats 8000000
set_option maxRecDepth 100000
set_option linter.unusedSimpArgs false
open Go.Proofs.Try
namespace Go.Cm
open Go.RowKit Go.Proofs
theorem ZmK0{P:Prop}(h:P:=by
 repeat(go_big_quiet_step ((go_at_call 68;first|(with_reducible exact cC (q61.o _ (HP.o.box.up (aC _ _))))|(with_reducible exact cC (q6h.o _ (HP.o.box.up (aC _ _)))))))
 refine wpQuiet_nil ?_;intro w1 hw1;have HP1:=qa (HP.o.ext hw1);have HO1:=qa (HO.o.up (aE hw1));have HR1:Hid (eV w1 w.heap.size vs ls):=qa (HRW.o.all (fun v l h=>d4.up h (aE hw1)));clear hw1 c0 c1 c2 hgw;have HAL:Hid (Al s.size z (m3 3 L.1,L.2) (m3 3 ls) y):=qa (Al.same (by rw[HLX.o]) hyl hyp);have HBD:=qa (yA 3 ls z.p y.p (by omega) hyl);have HSL:Hid (l6 ls<=4000000):=qa (by omega);clear HLX;by_cases hne:ls=[]
 ·subst hne
  have HNN:=qa (HNW.o w1 HP1.o.gr.size);have HP7:=qa (HP1.o.below (aB w1 (.cells #[.int .i64 2,.int .i64 0,.int .u64 0,.int .u64 0,.int .u64 0,.int .u64 0,.int .i64 0,.int .i64 0] 77)));go_wp2;go_ret;exact⟨_,_,y,rfl,HNN.o,HP7.o,HAL.o,HBD.o⟩
 have hn0:¬ls.length=0:=fun e=>hne (List.length_eq_zero_iff.1 e);have q8R:((ls.length:Int)==0)=false:=by simpa using hn0
 have HMY:=qa (fun W h1 h2 h3=>HM.o W (.slice oa ls.length cap) vs ls h1 h2 h3 hne HSL.o)
 go_wp2_with(first
  |((with_reducible refine(HMY.o _ HP1.o.gr.size HO1.o HR1.o).mono ?_);rintro e w7 ⟨v7,rfl,ho,hb⟩;have HN7:=qa ho;have HP7:=qa (HP1.o.below hb);clear ho hb))
 go_ret;exact⟨v7,_,y,rfl,HN7.o,HP7.o,HAL.o,HBD.o⟩):P:=h
theorem ZmK1{P:Prop}(h:P:=by
 repeat(first
  |(go_big_quiet_want;refine bR _ rfl p rfl _ (fun w' hw=>by obtain⟨y,rfl⟩:=hw;exact HX8.o.up (aE ⟨_,rfl⟩)) ?_;go_simp;go_big_quiet_on)
  |(go_big_quiet_want;refine bR _ rfl p2 rfl _ (fun w' hw=>by obtain⟨y,rfl⟩:=hw;exact HY8.o.up (aE ⟨_,rfl⟩)) ?_;go_simp;go_big_quiet_on)
  |go_big_quiet_step ((go_at_call 92;first|(with_reducible exact cC (HBC.o _))|(with_reducible exact cC (q7u.o _)))))
 refine wpQuiet_nil ?_;intro x9;obtain⟨w9,q6j⟩:∃w9,w9=ext w8 x9:=⟨_,rfl⟩;rw[<-q6j];have hw9:∃y,w9=ext w8 y:=⟨x9,q6j⟩;clear q6j;have HC9:=qa (HC8.o.ext hw9);have HX9:=qa (HX8.o.up (aE hw9));have HY9:=qa (HY8.o.up (aE hw9));clear hw9
 go_wp2_with(first
  |((with_reducible refine(q9p.o _ _ _ HC9.o.box).mono ?_);rintro e w10 ⟨rfl,hB,hg⟩;have q6n:=qa (HC9.o.act hB hg);clear hB hg)
  |(refine aU rfl _ rfl q rfl _ q6n.o.set ?_)
  |(refine aL rfl _ _ rfl b rfl _ _ rfl q6n.o.res ?_;intro w11 hB2 hg2;have q7l:=qa hB2;have q8i:=qa (q6n.o.fin hB2 hg2);clear hB2 hg2))
 refine cL (s:=4) (ad:=⟨b,0,none⟩) (x:=dU a) rfl rfl rfl q7l.o.load ?_;exact⟨_,_,rfl,HA.o,q8i.o,HAL.o⟩):P:=h
theorem ZmK2{P:Prop}(h:P:=by refine cL (s:=4) (ad:=⟨b,0,none⟩) (x:=dU a2) rfl rfl rfl HC7.o.load ?_;exact⟨_,_,rfl,HA2.o,HQ7.o,HAL.o⟩):P:=h
theorem ZmK3{P:Prop}(h:P:=by
 go_wp2_with(first
  |((with_reducible refine(HTY.o _ HP.o.box).mono ?_);rintro e w1 ⟨rfl,hB,hg⟩;have HP1:=qa (HP.o.act hB hg);have HO1:=qa (HO.o.keep hg (q4a hgl HO.o));have HR1:Hid (eV w1 w.heap.size vs ls):=qa (HRW.o.all (fun v l h=>aR.keepG h hg hgl));clear hB hg)
  |((with_reducible refine(HMY.o _ HP1.o.gr.size HO1.o HR1.o).mono ?_);rintro e w7 ⟨v7,rfl,ho,hb⟩;have HN7:=qa ho;have HP7:=qa (HP1.o.below hb);clear ho hb))
 go_ret;exact⟨v7,_,y,rfl,HN7.o,HP7.o,HAL.o,HBD.o⟩):P:=h
theorem ZmK4{P:Prop}(h:P:=by
 go_roundg (f0+1)
 case measure=>omega
 case rel=>exact⟨f0,_,bA y,rfl,HN7.o,HP7.o,hlt,by show z.p<=y.p+1;omega,qa (.inl ⟨h0,HRL.o,by show s.size+1<=f0+(y.p+1);omega,by show _<=2*(y.p+1);rw[hnk];omega⟩)⟩):P:=h
theorem ZmK5{P:Prop}(h:P:=by refine cL (s:=4) (ad:=⟨b,0,none⟩) (x:=dU a) rfl rfl rfl HC9.o.load ?_;exact⟨_,_,rfl,HA.o,HQ9.o,HAL.o⟩):P:=h
theorem I0(s:dG)(frm:Nat):∀(f a:Nat) (z:PS),z.e≠0->sJ s frm f a z=(a,z)
 |0,_,_,_=>rfl
 |f+1,a,z,h=>by unfold sJ;rw[qv h]
theorem q2U{s:dG}{frm:Nat}{z:PS}(h:(sJ s frm (s.length+1) 0 (b7 s 94 z).2).2.e≠0):(K5 s frm z).2.e≠0:=by
 unfold K5;simp only;split
 ·split
  ·rw[oT h];exact h
  exact h
 split
 ·rw[oT h];exact h
 exact h
theorem q1m{s:dG}{frm f a:Nat}{z:PS}(h:gE s 93 z=true):sJ s frm (f+1) a z=(a,bA z):=by
 obtain⟨h0,-,-⟩:=iG h;unfold sJ;rw[qu (fun e=>e h0),fL,h];rfl
theorem q04{s:dG}{frm f a:Nat}{z:PS}(h0:z.e=0)(h:s.length<=z.p):(sJ s frm (f+1) a z).2.e≠0:=by
 have hi:gE s 93 z=false:=by
  cases hh:gE s 93 z with
  |false=>rfl
  |true=>have:=(iG hh).2.1;omega
 unfold sJ;rw[qu (fun e=>e h0),fL,hi];simp only[qS,jr];rw[qv h];exact bN _ (by decide)
theorem q05{s:dG}{frm f a:Nat}{z:PS}(h0:z.e=0)(hi:gE s 93 z=false)(h:z.p<s.length):sJ s frm (f+1) a z=sJ s frm f (a|||(D8 s frm z).1) (D8 s frm z).2:=by
 rw[sJ,qu (fun e=>e h0),fL,hi];simp only[qS,jr];rw[qu (by omega)]
theorem q06{s:dG}{frm:Nat}{z:PS}(h:(fO s z).2.e≠0):(D8 s frm z).2.e≠0:=by
 unfold D8;simp only[m5 h];exact h
theorem q2V{s:dG}{frm:Nat}{z:PS}(h:gE s 45 (fO s z).2=false):D8 s frm z=((fO s z).1.1,(fO s z).2):=by
 unfold D8;simp only[fL,h];rfl
theorem q1n{s:dG}{frm:Nat}{z:PS}(h:gE s 45 (fO s z).2=true):D8 s frm z=(match nxR s (bA (fO s z).2)with
  |none=>((fO s z).1.1,b9 16 frm (bA (fO s z).2))
  |some c=>
   if c=93 then((fO s z).1.1,b9 15 (bA (fO s z).2).p (bA (fO s z).2))
   else
    if(fO s (bA (fO s z).2)).2.e≠0 then((fO s z).1.1,(fO s (bA (fO s z).2)).2)
    else if(fO s z).1.2||(fO s (bA (fO s z).2)).1.2||decide (Nat.log2 (fO s (bA (fO s z).2)).1.1<Nat.log2 (fO s z).1.1)then((fO s z).1.1,b9 18 (fO s z).2.p (fO s (bA (fO s z).2)).2)
    else(iD (Nat.log2 (fO s z).1.1) (Nat.log2 (fO s (bA (fO s z).2)).1.1),(fO s (bA (fO s z).2)).2)):=by
 unfold D8;simp only[fL,h,jH];rfl
theorem q2W{s:dG}{z:PS}(h:(fO s z).2.e=0):z.p<(fO s z).2.p:=by
 unfold fO at h⊢;cases hn:nxR s z with
 |none=>rw[hn]at h;exact absurd h (bN z (by decide))
 |some c=>
  rw[hn]at h;simp only at h⊢;split
  ·exact(sL hn).2
  rename_i h1;rw[qu h1]at h;split
  ·rename_i h2
   rw[qv h2]at h;exact absurd h (bN z (by decide))
  exact qU _
theorem q2X(P:Prop) [Decidable P]{e a:Nat}{y:PS}(h:y.e≠0):(if P then b9 e a y else y)=y:=by
 split
 ·exact oT h
 rfl
theorem I1(P:Prop) [Decidable P]{e a:Nat}{y:PS}:(if P then b9 e a y else y).p=y.p:=by
 split
 ·exact dH y
 rfl
structure QC(w0 w:World)(g:Nat)(s:ByteArray)(z:PS)(b q a:Nat):Prop where
 box:cN w g s z
 res:fP w b 0
 set:fP w q a
 gr:w0.grownBy w (some g)
 gl:g<w0.heap.size
 lo:w0.heap.size<=b
 bq:b<q
section
variable {w0 w w' : World} {g : Nat} {s : ByteArray} {z : PS} {b q a : Nat}
theorem QC.below(h:QC w0 w g s z b q a)(hb:Below w.heap.size w w'):QC w0 w' g s z b q a:=
 ⟨h.box.up hb,h.res.up hb,h.set.up hb,aK h.gr (aI hb _),h.gl,h.lo,h.bq⟩
theorem QC.ext(h:QC w0 w g s z b q a)(hx:∃y,w'=ext w y):QC w0 w' g s z b q a:=h.below (aE hx)
theorem QC.act{z':PS}(h:QC w0 w g s z b q a)(hB:cN w' g s z')(hg:w.grownBy w' (some g)):QC w0 w' g s z' b q a:=
 ⟨hB,h.res.keepP hg (by have:=h.lo;have:=h.gl;omega),h.set.keepP hg (by have:=h.lo;have:=h.gl;have:=h.bq;omega),aK h.gr hg,h.gl,h.lo,h.bq⟩
theorem QC.store{y:Nat}(h:QC w0 w g s z b q a)(hB:fP w' q y)(hg:w.grownBy w' (some q)):QC w0 w' g s z b q y:=
 ⟨h.box.keepP hg (by have:=h.lo;have:=h.gl;have:=h.bq;omega),h.res.keepP hg (by have:=h.bq;omega),hB,iS h.gr hg (fun k e=>by injection e with e;have:=h.lo;have:=h.bq;omega),h.gl,h.lo,h.bq⟩
theorem QC.far{k:Nat}(h:QC w0 w g s z b q a)(hg:w.grownBy w' (some k))(hk:w0.heap.size<=k)(hb:k≠b)(hq:k≠q):QC w0 w' g s z b q a:=
 ⟨h.box.keepP hg (by have:=h.gl;omega),h.res.keepP hg hb,h.set.keepP hg hq,iS h.gr hg (fun j e=>by injection e with e;omega),h.gl,h.lo,h.bq⟩
theorem QC.qs(h:QC w0 w g s z b q a):Qs w0 w g s z:=⟨h.box,h.gr,h.gl⟩
theorem QC.fin{y:Nat}(h:QC w0 w g s z b q a)(_:fP w' b y)(hg:w.grownBy w' (some b)):Qs w0 w' g s z:=
 ⟨h.box.keepP hg (by have:=h.lo;have:=h.gl;omega),iS h.gr hg (fun k e=>by injection e with e;have:=h.lo;omega),h.gl⟩
end
def q5m(r:Nat×PS)(g:Nat)(s:ByteArray)(z:PS)(w:World)(e:Ending)(w':World):Prop:=
 ∃x z',e=.returned (dU x)/\x<2^256/\Qs w w' g s z'/\Al s.size z r x z'
theorem q5J{w:World}{g frm:Nat}{s:ByteArray}{z:PS}(h:cN w g s z)(hs:s.size<=1000000)(hz0:z.e=0)(hzp:z.p<=s.size):
  Calls prog 85 #[.pointer (some ⟨g,0,none⟩),.int .i64 frm] w (q5m (K5 (bys s) frm z) g s z w):=by
 have hz:=nQ;obtain⟨Z,hZ⟩:∃Z,Z=z4:=⟨_,rfl⟩;rw[<-hZ]at hz;have HNW:Hid (∀W:World,fP (W.alloc (.cells Z 54)) W.heap.size 0):=qa (fun W=>fH W Z hZ);have HCM:Hid (∀x,x<2^256->∀W,(binOp .eql 54 (dU x) (.agg Z)).run prog W=.ok (.bool (decide (x=0))) W):=qa (fun x hx W=>q1k hx Z hZ W);have hgd:=Z3;have HE0:Hid (QEs w (w.alloc (.cells Z 54)) g s z w.heap.size 0):=qa ⟨h.up (aB _ _),fH w Z hZ,aI (aB _ _) _,qb _,h.lt⟩;have q9d:Hid (∀W,cN W g s z->Calls prog 46 #[.pointer (some ⟨g,0,none⟩),.int .u8 94] W (m8 (.bool (b7 (bys s) 94 z).1) g s (b7 (bys s) 94 z).2 W)):=qa (fun W h=>oX h hs 94);have qay:Hid (∀W y,cN W g s y->Calls prog 46 #[.pointer (some ⟨g,0,none⟩),.int .u8 93] W (m8 (.bool (b7 (bys s) 93 y).1) g s (b7 (bys s) 93 y).2 W)):=qa (fun W y h=>oX h hs 93);have qbV:Hid (∀W y,cN W g s y->Calls prog 46 #[.pointer (some ⟨g,0,none⟩),.int .u8 45] W (m8 (.bool (b7 (bys s) 45 y).1) g s (b7 (bys s) 45 y).2 W)):=qa (fun W y h=>oX h hs 45);have qaK:Hid (∀W y,cN W g s y->Calls prog 68 #[.pointer (some ⟨g,0,none⟩),.int .u8 93] W fun e w'=>e=.returned (.bool (gE (bys s) 93 y))/\∃x,w'=ext W x):=qa (fun W y h=>isQ h 93);have HF:Hid (∀W (e a:Nat) y,cN W g s y->Calls prog 30 #[.pointer (some ⟨g,0,none⟩),.int .i64 e,.int .i64 a] W (m8 (.tuple #[]) g s (b9 e a y) W)):=qa (fun W e a y h=>vY h e a);have HCH:Hid (∀W y,cN W g s y->y.e=0->y.p<=s.size->Calls prog 91 #[.pointer (some ⟨g,0,none⟩)] W (q4f (fO (bys s) y) g s y W)):=qa (fun W y h h0 hp=>q5H h hs h0 hp);have HOR:Hid (∀W (x y:Nat),x<2^256->y<2^256->Calls prog 94 #[dU x,dU y] W (eG (x|||y) W)):=qa (fun W x y hx hy=>orQ hx hy W);have HNT:Hid (∀W (x:Nat),x<2^256->Calls prog 86 #[dU x] W (eG (vZ x) W)):=qa (fun W x hx=>q5h hx W);have HBY:Hid (∀W (c:UInt8),Calls prog 92 #[dU (gG c)] W fun e w'=>e=.returned (.string ⟨#[c]⟩)/\∃y,w'=ext W y):=qa (fun W c=>by have:=W7 (gG c) W;rwa [q0S]at this);have HRG:Hid (∀W (a b:UInt8),Calls prog 93 #[.int .u8 (a.toNat:Nat),.int .u8 (b.toNat:Nat)] W (eG (iD a.toNat b.toNat) W)):=qa (fun W a b=>xQ a b W);have HL0:Hid ((0:Nat)<2^256):=qa q4V;obtain⟨R,hR⟩:∃R,R=K5 (bys s) frm z:=⟨_,rfl⟩;have hRB:=@q2U (bys s) frm z;rw[<-hR]at hRB⊢;have hR2:R=((if(b7 (bys s) 94 z).1 then vZ (sJ (bys s) frm ((bys s).length+1) 0 (b7 (bys s) 94 z).2).1 else(sJ (bys s) frm ((bys s).length+1) 0 (b7 (bys s) 94 z).2).1),if(if(b7 (bys s) 94 z).1 then vZ (sJ (bys s) frm ((bys s).length+1) 0 (b7 (bys s) 94 z).2).1 else(sJ (bys s) frm ((bys s).length+1) 0 (b7 (bys s) 94 z).2).1)=0 then b9 17 frm (sJ (bys s) frm ((bys s).length+1) 0 (b7 (bys s) 94 z).2).2 else(sJ (bys s) frm ((bys s).length+1) 0 (b7 (bys s) 94 z).2).2):=by rw[hR];rfl
 have hst:=fJ (bys s) 94 z;have hte:(b7 (bys s) 94 z).2.e=0:=by rw[fL];split<;>exact hz0
 have htp:=hst.len (by rw[bH];exact hzp);have htl:=hst.le;rw[bH]at htp hR2;generalize b7 (bys s) 94 z=T at*;obtain⟨bn,zt⟩:=T;simp only at hte htp htl hR2 hRB q9d;obtain⟨L,hL⟩:∃L,L=sJ (bys s) frm (s.size+1) 0 zt:=⟨_,rfl⟩;rw[bH,<-hL]at hRB;rw[<-hL]at hR2;have HRB:=qa hRB;have HR2:=qa hR2;have HL:=qa hL.symm;clear hR hR2 hRB hst hL hZ h;go_enter func85,ntmps85
 go_wp2_with((with_reducible refine(q9d.o _ HE0.o.box).mono ?_);rintro e w1 ⟨rfl,hB,hg⟩;have HE1:=qa (HE0.o.act hB hg);have HN1:=qa (HNW.o w1);clear hB hg)
 have hba:=aB w1 (.cells Z 54);have HC0:Hid (QC w (w1.alloc (.cells Z 54)) g s zt w.heap.size w1.heap.size 0):=qa ⟨HE1.o.box.up hba,HE1.o.set.up hba,HN1.o,aK HE1.o.gr (aI hba _),HE1.o.gl,qb _,HE1.o.set.lt⟩;generalize w1.alloc (.cells Z 54)=w2 at*;obtain⟨q,hq⟩:∃q,q=w1.heap.size:=⟨_,rfl⟩;obtain⟨b,hb⟩:∃b,b=w.heap.size:=⟨_,rfl⟩;rw[<-hq,<-hb]at HC0⊢;have HBW:=qa hb;clear hq hb hba HE1 HN1 HE0 q9d
 go_loopg [] (s.size+2) (fun gk wr=>∃(f a:Nat) (y:PS),gk=f+1/\a<2^256/\QC w wr g s y b q a/\y.p<=s.size/\zt.p<=y.p/\((y.e=0/\Hid (sJ (bys s) frm f a y=L)/\s.size+1<=f+y.p)\/(y.e≠0/\L.2.e≠0)))
 case atStart=>exact⟨s.size+1,0,zt,rfl,HL0.o,HC0.o,htp,qb _,.inl ⟨hte,HL,by omega⟩⟩
 case round=>
  clear HC0 HL;obtain⟨f,a,y,hgk,ha,hC,hyp,hyl,hy⟩:=hrel;have HC:=qa hC;have HA:=qa ha;clear hC ha;have c2:=HC.o.box.c2;rcases hy with⟨h0,HCL,hf⟩|⟨h0,hLb⟩;rotate_left 1
  ·have he':((y.e:Int)==0)=false:=by simpa using h0
   have HRe:=qa (HRB.o hLb)
   have HAL:Hid (Al s.size z R (if bn then vZ a else a) (if(if bn then vZ a else a)=0 then b9 17 frm (b7 (bys s) 93 y).2 else(b7 (bys s) 93 y).2)):=qa (by
    rw[m5 h0];rw[q2X _ h0];exact Al.fault _ HRe.o h0 (by omega) hyp)
   clear hLb HRe;have HTY:=qa (fun W=>qay.o W y);generalize b7 (bys s) 93 y=T2 at*;obtain⟨b2,y2⟩:=T2;simp only at HTY HAL;obtain⟨a2,ha2⟩:∃a2,a2=if bn then vZ a else a:=⟨_,rfl⟩
   rw[<-ha2]at HAL;have q7d:a2<2^256:=by rw[ha2];split;exact xM a;exact HA.o
   have q8o:=HCM.o a2 q7d;have HA2:=qa q7d;clear q7d;by_cases hz2:a2=0
   ·rw[qy hz2]at q8o
    rw[qv hz2]at HAL;have HFF:Hid (∀W,cN W g s y2->Calls prog 30 #[.pointer (some ⟨g,0,none⟩),.int .i64 17,.int .i64 frm] W (m8 (.tuple #[]) g s (b9 17 frm y2) W)):=qa (fun W h=>HF.o W 17 frm y2 h);clear hz2;cases bn with
    |true=>
     have HNA:=qa (fun W=>HNT.o W a HA.o);rw[qv rfl]at ha2;rw[<-ha2]at HNA;clear ha2
     go_wp2_with(first
      |((with_reducible refine(HTY.o _ HC.o.box).mono ?_);rintro e w3 ⟨rfl,hB,hg⟩;have HC3:=qa (HC.o.act hB hg);clear hB hg)
      |(refine aU rfl _ rfl q rfl _ HC3.o.set ?_)
      |((with_reducible refine(HNA.o _).mono ?_);rintro e w4 ⟨rfl,hx⟩;have HC4:=qa (HC3.o.ext hx);clear hx)
      |(refine aL rfl _ _ rfl q rfl _ _ rfl HC4.o.set ?_;intro w5 hB2 hg2;have HC5:=qa (HC4.o.store hB2 hg2);clear hB2 hg2)
      |(refine aU rfl _ rfl q rfl _ HC5.o.set ?_)
      |((with_reducible refine(HFF.o _ HC5.o.box).mono ?_);rintro e w6 ⟨rfl,hB,hg⟩;have HC6:=qa (HC5.o.act hB hg);clear hB hg)
      |(refine aU rfl _ rfl q rfl _ HC6.o.set ?_)
      |(refine aL rfl _ _ rfl b rfl _ _ rfl HC6.o.res ?_;intro w7 hB2 hg2;have HC7:=qa hB2;have HQ7:=qa (HC6.o.fin hB2 hg2);clear hB2 hg2))
     exact ZmK2
    |false=>
     rw[qu (by decide)]at ha2;rw[<-ha2]at HC;clear ha2
     go_wp2_with(first
      |((with_reducible refine(HTY.o _ HC.o.box).mono ?_);rintro e w3 ⟨rfl,hB,hg⟩;have HC5:=qa (HC.o.act hB hg);clear hB hg)
      |(refine aU rfl _ rfl q rfl _ HC5.o.set ?_)
      |((with_reducible refine(HFF.o _ HC5.o.box).mono ?_);rintro e w6 ⟨rfl,hB,hg⟩;have HC6:=qa (HC5.o.act hB hg);clear hB hg)
      |(refine aU rfl _ rfl q rfl _ HC6.o.set ?_)
      |(refine aL rfl _ _ rfl b rfl _ _ rfl HC6.o.res ?_;intro w7 hB2 hg2;have HC7:=qa hB2;have HQ7:=qa (HC6.o.fin hB2 hg2);clear hB2 hg2))
     exact ZmK2
   rw[qw hz2]at q8o;rw[qu hz2]at HAL;clear hz2;cases bn with
   |true=>
    have HNA:=qa (fun W=>HNT.o W a HA.o);rw[qv rfl]at ha2;rw[<-ha2]at HNA;clear ha2
    go_wp2_with(first
     |((with_reducible refine(HTY.o _ HC.o.box).mono ?_);rintro e w3 ⟨rfl,hB,hg⟩;have HC3:=qa (HC.o.act hB hg);clear hB hg)
     |(refine aU rfl _ rfl q rfl _ HC3.o.set ?_)
     |((with_reducible refine(HNA.o _).mono ?_);rintro e w4 ⟨rfl,hx⟩;have HC4:=qa (HC3.o.ext hx);clear hx)
     |(refine aL rfl _ _ rfl q rfl _ _ rfl HC4.o.set ?_;intro w5 hB2 hg2;have HC5:=qa (HC4.o.store hB2 hg2);clear hB2 hg2)
     |(refine aU rfl _ rfl q rfl _ HC5.o.set ?_)
     |(refine aL rfl _ _ rfl b rfl _ _ rfl HC5.o.res ?_;intro w7 hB2 hg2;have HC7:=qa hB2;have HQ7:=qa (HC5.o.fin hB2 hg2);clear hB2 hg2))
    exact ZmK2
   |false=>
    rw[qu (by decide)]at ha2;rw[<-ha2]at HC;clear ha2
    go_wp2_with(first
     |((with_reducible refine(HTY.o _ HC.o.box).mono ?_);rintro e w3 ⟨rfl,hB,hg⟩;have HC5:=qa (HC.o.act hB hg);clear hB hg)
     |(refine aU rfl _ rfl q rfl _ HC5.o.set ?_)
     |(refine aL rfl _ _ rfl b rfl _ _ rfl HC5.o.res ?_;intro w7 hB2 hg2;have HC7:=qa hB2;have HQ7:=qa (HC5.o.fin hB2 hg2);clear hB2 hg2))
    exact ZmK2
  have he':((y.e:Int)==0)=true:=by rw[h0];rfl
  obtain⟨f0,rfl⟩:∃f0,f=f0+1:=⟨f-1,by omega⟩;have HIY:=qa (fun W=>qaK.o W y);cases hi:gE (bys s) 93 y with
  |true=>
   rw[hi]at HIY;have hL2:=HCL.o;rw[q1m hi]at hL2;have hy1:=(iG hi).2.1;rw[bH]at hy1
   have HAL:Hid (Al s.size z R (if bn then vZ a else a) (if(if bn then vZ a else a)=0 then b9 17 frm (b7 (bys s) 93 y).2 else(b7 (bys s) 93 y).2)):=qa (by
    rw[fL,hi,qv rfl];exact Al.same (by rw[HR2.o,<-hL2]) (by rw[I1];show z.p<=y.p+1;omega) (by rw[I1];exact hy1))
   clear hL2 hi HCL hy1;have HTY:=qa (fun W=>qay.o W y);generalize b7 (bys s) 93 y=T2 at*;obtain⟨b2,y2⟩:=T2;simp only at HTY HAL;obtain⟨a2,ha2⟩:∃a2,a2=if bn then vZ a else a:=⟨_,rfl⟩
   rw[<-ha2]at HAL;have q7d:a2<2^256:=by rw[ha2];split;exact xM a;exact HA.o
   have q8o:=HCM.o a2 q7d;have HA2:=qa q7d;clear q7d;by_cases hz2:a2=0
   ·rw[qy hz2]at q8o
    rw[qv hz2]at HAL;have HFF:Hid (∀W,cN W g s y2->Calls prog 30 #[.pointer (some ⟨g,0,none⟩),.int .i64 17,.int .i64 frm] W (m8 (.tuple #[]) g s (b9 17 frm y2) W)):=qa (fun W h=>HF.o W 17 frm y2 h);clear hz2;cases bn with
    |true=>
     have HNA:=qa (fun W=>HNT.o W a HA.o);rw[qv rfl]at ha2;rw[<-ha2]at HNA;clear ha2
     go_wp2_with(first
      |((with_reducible refine(HIY.o _ HC.o.box).mono ?_);rintro e w2 ⟨rfl,hx⟩;have HC1:=qa (HC.o.ext hx);clear hx)
      |((with_reducible refine(HTY.o _ HC1.o.box).mono ?_);rintro e w3 ⟨rfl,hB,hg⟩;have HC3:=qa (HC1.o.act hB hg);clear hB hg)
      |(refine aU rfl _ rfl q rfl _ HC3.o.set ?_)
      |((with_reducible refine(HNA.o _).mono ?_);rintro e w4 ⟨rfl,hx⟩;have HC4:=qa (HC3.o.ext hx);clear hx)
      |(refine aL rfl _ _ rfl q rfl _ _ rfl HC4.o.set ?_;intro w5 hB2 hg2;have HC5:=qa (HC4.o.store hB2 hg2);clear hB2 hg2)
      |(refine aU rfl _ rfl q rfl _ HC5.o.set ?_)
      |((with_reducible refine(HFF.o _ HC5.o.box).mono ?_);rintro e w6 ⟨rfl,hB,hg⟩;have HC6:=qa (HC5.o.act hB hg);clear hB hg)
      |(refine aU rfl _ rfl q rfl _ HC6.o.set ?_)
      |(refine aL rfl _ _ rfl b rfl _ _ rfl HC6.o.res ?_;intro w7 hB2 hg2;have HC7:=qa hB2;have HQ7:=qa (HC6.o.fin hB2 hg2);clear hB2 hg2))
     exact ZmK2
    |false=>
     rw[qu (by decide)]at ha2;rw[<-ha2]at HC;clear ha2
     go_wp2_with(first
      |((with_reducible refine(HIY.o _ HC.o.box).mono ?_);rintro e w2 ⟨rfl,hx⟩;have HC1:=qa (HC.o.ext hx);clear hx)
      |((with_reducible refine(HTY.o _ HC1.o.box).mono ?_);rintro e w3 ⟨rfl,hB,hg⟩;have HC5:=qa (HC1.o.act hB hg);clear hB hg)
      |(refine aU rfl _ rfl q rfl _ HC5.o.set ?_)
      |((with_reducible refine(HFF.o _ HC5.o.box).mono ?_);rintro e w6 ⟨rfl,hB,hg⟩;have HC6:=qa (HC5.o.act hB hg);clear hB hg)
      |(refine aU rfl _ rfl q rfl _ HC6.o.set ?_)
      |(refine aL rfl _ _ rfl b rfl _ _ rfl HC6.o.res ?_;intro w7 hB2 hg2;have HC7:=qa hB2;have HQ7:=qa (HC6.o.fin hB2 hg2);clear hB2 hg2))
     exact ZmK2
   rw[qw hz2]at q8o;rw[qu hz2]at HAL;clear hz2;cases bn with
   |true=>
    have HNA:=qa (fun W=>HNT.o W a HA.o);rw[qv rfl]at ha2;rw[<-ha2]at HNA;clear ha2
    go_wp2_with(first
     |((with_reducible refine(HIY.o _ HC.o.box).mono ?_);rintro e w2 ⟨rfl,hx⟩;have HC1:=qa (HC.o.ext hx);clear hx)
     |((with_reducible refine(HTY.o _ HC1.o.box).mono ?_);rintro e w3 ⟨rfl,hB,hg⟩;have HC3:=qa (HC1.o.act hB hg);clear hB hg)
     |(refine aU rfl _ rfl q rfl _ HC3.o.set ?_)
     |((with_reducible refine(HNA.o _).mono ?_);rintro e w4 ⟨rfl,hx⟩;have HC4:=qa (HC3.o.ext hx);clear hx)
     |(refine aL rfl _ _ rfl q rfl _ _ rfl HC4.o.set ?_;intro w5 hB2 hg2;have HC5:=qa (HC4.o.store hB2 hg2);clear hB2 hg2)
     |(refine aU rfl _ rfl q rfl _ HC5.o.set ?_)
     |(refine aL rfl _ _ rfl b rfl _ _ rfl HC5.o.res ?_;intro w7 hB2 hg2;have HC7:=qa hB2;have HQ7:=qa (HC5.o.fin hB2 hg2);clear hB2 hg2))
    exact ZmK2
   |false=>
    rw[qu (by decide)]at ha2;rw[<-ha2]at HC;clear ha2
    go_wp2_with(first
     |((with_reducible refine(HIY.o _ HC.o.box).mono ?_);rintro e w2 ⟨rfl,hx⟩;have HC1:=qa (HC.o.ext hx);clear hx)
     |((with_reducible refine(HTY.o _ HC1.o.box).mono ?_);rintro e w3 ⟨rfl,hB,hg⟩;have HC5:=qa (HC1.o.act hB hg);clear hB hg)
     |(refine aU rfl _ rfl q rfl _ HC5.o.set ?_)
     |(refine aL rfl _ _ rfl b rfl _ _ rfl HC5.o.res ?_;intro w7 hB2 hg2;have HC7:=qa hB2;have HQ7:=qa (HC5.o.fin hB2 hg2);clear hB2 hg2))
    exact ZmK2
  |false=>
   rw[hi]at HIY;have HI1:=HIY;have he1:=he';have q8F:Hid (∀W x,cN W g s x->Calls prog 30 #[.pointer (some ⟨g,0,none⟩),.int .i64 16,.int .i64 frm] W (m8 (.tuple #[]) g s (b9 16 frm x) W)):=qa (fun W x h=>HF.o W 16 frm x h);have q9q:Hid (∀W x,cN W g s x->Calls prog 30 #[.pointer (some ⟨g,0,none⟩),.int .i64 15,.int .i64 x.p] W (m8 (.tuple #[]) g s (b9 15 x.p x) W)):=qa (fun W x h=>HF.o W 15 x.p x h);have q9p:Hid (∀W (c:Nat) x,cN W g s x->Calls prog 30 #[.pointer (some ⟨g,0,none⟩),.int .i64 18,.int .i64 c] W (m8 (.tuple #[]) g s (b9 18 c x) W)):=qa (fun W c x h=>HF.o W 18 c x h);by_cases hpl:y.p<s.size;rotate_left 1
   ·have HLB:=qa (HRB.o (by rw[<-HCL.o];exact q04 h0 (by rw[bH];omega)))
    have hpd:decide ((s.size:Int)<=(y.p:Int))=true:=qy (by omega);have hpn:s.size<=y.p:=by omega
    have HAL:Hid (Al s.size z R a (b9 16 frm y)):=qa (Al.fault _ HLB.o (bN _ (by decide)) (by rw[dH];omega) (by rw[dH];exact hyp))
    go_upto_region 4 with((with_reducible refine(HIY.o _ HC.o.box).mono ?_);rintro e w2 ⟨rfl,hx⟩;have HC1:=qa (HC.o.ext hx);clear hx)
    have c0:=HC1.o.box.c0;have c1:=HC1.o.box.c1
    go_quiet (fail)
    go_wp2_with(first
     |((with_reducible refine(q8F.o _ _ (HC1.o.below (aW _ _)).box).mono ?_);rintro e w3 ⟨rfl,hB,hg⟩;have HC3:=qa ((HC1.o.below (aW _ _)).act hB hg);clear hB hg)
     |(refine aU rfl _ rfl q rfl _ HC3.o.set ?_)
     |(refine aL rfl _ _ rfl b rfl _ _ rfl HC3.o.res ?_;intro w7 hB2 hg2;have HC7:=qa hB2;have HQ7:=qa (HC3.o.fin hB2 hg2);clear hB2 hg2))
    refine cL (s:=4) (ad:=⟨b,0,none⟩) (x:=dU a) rfl rfl rfl HC7.o.load ?_;exact⟨_,_,rfl,HA.o,HQ7.o,HAL.o⟩
   have hpd:decide ((s.size:Int)<=(y.p:Int))=false:=qw (by omega);have hpn:¬s.size<=y.p:=by omega
   have hCN:=q05 (frm:=frm) (f:=f0) (a:=a) h0 hi (by rw[bH];exact hpl);rw[HCL.o]at hCN;have qaS:=qa (fun W h=>HCH.o W y h h0 hyp)
   go_upto_region 4 with((with_reducible refine(HIY.o _ HC.o.box).mono ?_);rintro e w2 ⟨rfl,hx⟩;have HC1:=qa (HC.o.ext hx);clear hx)
   have c0:=HC1.o.box.c0;have c1:=HC1.o.box.c1
   go_quiet (fail)
   have HBX:=qa (fun(w':World) (hb:Below w'.heap.size w' (w'.alloc (.cells Z 54)))=>hb)
   go_upto_region 9 with(first
    |((with_reducible refine(qaS.o _ (HC1.o.below (aW _ _)).box).mono ?_);rintro e w3 ⟨x,bx,z1,rfl,hxl,hQ,hA⟩;have HXL:=qa hxl;have HC3:=qa ((HC1.o.below (aW _ _)).act hQ.box hQ.gr);have HAL:=qa hA;have HN3:=qa (HNW.o w3);have HC4:=qa (HC3.o.below (aB w3 (.cells Z 54)));clear hxl hQ hA c0 c1)
    |(refine aL rfl _ _ rfl w3.heap.size rfl _ _ rfl HN3.o ?_;intro w5 hB2 hg2;have HX5:=qa hB2;have HC5:=qa (HC4.o.far hg2 (HC3.o.gr.size) (by have:=HC3.o.res.lt;omega) (by have:=HC3.o.set.lt;omega));have c15:=HC5.o.box.c1;clear hB2 hg2))
   obtain⟨p,hp⟩:∃p,p=w3.heap.size:=⟨_,rfl⟩
   have HP:Hid (w.heap.size<=p/\p≠b/\p≠q):=qa (by
    have h1:=HC3.o.gr.size;have h2:=HC3.o.res.lt;have h3:=HC3.o.set.lt;omega)
   have HNE:Hid (g≠p):=qa (by have:=HC3.o.gl;have:=HC3.o.gr.size;omega);rw[<-hp]at HX5⊢;have HTZ:=qa (fun W=>qbV.o W z1);have qaG:=qa (fun W=>HOR.o W a x HA.o HXL.o);have q9H:=HAL.o.top;have qcA:=HAL.o.le;clear hp HC3 HC4 HN3 HC1 qaS c15 HBX;by_cases hce:(fO (bys s) y).2.e=0;rotate_left 1
   ·have hze:=HAL.o.bad hce
    have hLb:L.2.e≠0:=by
     rw[hCN,I0 _ _ _ _ _ (q06 hce)];exact q06 hce
    rw[m5 hze]at HTZ;clear hce hCN
    go_wp2_with(first
     |((with_reducible refine(HTZ.o _ HC5.o.box).mono ?_);rintro e w6 ⟨rfl,hB,hg⟩;have HX6:=qa (HX5.o.keepP hg HNE.o);have HC6:=qa (HC5.o.act hB hg);clear hB hg)
     |(refine aU rfl _ rfl q rfl _ HC6.o.set ?_)
     |(refine aU rfl _ rfl p rfl _ HX6.o ?_)
     |((with_reducible refine(qaG.o _).mono ?_);rintro e w7 ⟨rfl,hx⟩;have HC7:=qa (HC6.o.ext hx);clear hx)
     |(refine aL rfl _ _ rfl q rfl _ _ rfl HC7.o.set ?_;intro w8 hB2 hg2;have HC8:=qa (HC7.o.store hB2 hg2);clear hB2 hg2))
    go_roundg (f0+1)
    case measure=>omega
    case rel=>exact⟨f0,a|||x,z1,rfl,gQ HA.o HXL.o,HC8.o,q9H,by omega,.inr ⟨hze,hLb⟩⟩
   obtain⟨hz1,hxb⟩:=HAL.o.ok hce;have hx1:x=(fO (bys s) y).1.1:=qZ Prod.fst hxb;have hb1:bx=(fO (bys s) y).1.2:=qZ Prod.snd hxb;have hze:z1.e=0:=by rw[hz1];exact hce
   have hzl:y.p<z1.p:=by rw[hz1];exact q2W hce
   cases h45:gE (bys s) 45 z1 with
   |false=>
    have qa7:=q2V (frm:=frm) (s:=bys s) (z:=y) (by rw[<-hz1];exact h45);rw[qa7,<-hx1,<-hz1]at hCN;have HCN:=qa hCN.symm;rw[fL,h45]at HTZ;clear qa7 hCN hz1 hxb hx1 hb1 hce
    go_wp2_with(first
     |((with_reducible refine(HTZ.o _ HC5.o.box).mono ?_);rintro e w6 ⟨rfl,hB,hg⟩;have HX6:=qa (HX5.o.keepP hg HNE.o);have HC6:=qa (HC5.o.act hB hg);clear hB hg)
     |(refine aU rfl _ rfl q rfl _ HC6.o.set ?_)
     |(refine aU rfl _ rfl p rfl _ HX6.o ?_)
     |((with_reducible refine(qaG.o _).mono ?_);rintro e w7 ⟨rfl,hx⟩;have HC7:=qa (HC6.o.ext hx);clear hx)
     |(refine aL rfl _ _ rfl q rfl _ _ rfl HC7.o.set ?_;intro w8 hB2 hg2;have HC8:=qa (HC7.o.store hB2 hg2);clear hB2 hg2))
    go_roundg (f0+1)
    case measure=>omega
    case rel=>exact⟨f0,a|||x,z1,rfl,gQ HA.o HXL.o,HC8.o,q9H,by omega,.inl ⟨hze,HCN.o,by omega⟩⟩
   |true=>
    have qc8:Hid (bx=false->∃c,x=gG c):=qa (fun h=>by rw[hx1];exact Z1 hce (by rw[<-hb1];exact h));have q5W:=q1n (frm:=frm) (s:=bys s) (z:=y) (by rw[<-hz1];exact h45);rw[<-hz1,<-hx1,<-hb1]at q5W;have q6s:Hid ((D8 (bys s) frm y).2.e≠0->R.2.e≠0):=qa (fun h=>HRB.o (by rw[hCN,I0 _ _ _ _ _ h];exact h));rw[fL,h45,qv rfl]at HTZ;obtain⟨-,qb2,-⟩:=iG h45;rw[bH]at qb2;have q9F:(bA z1).e=0:=hze;have qcy:z1.p+1<=(bA z1).p/\(bA z1).p<=z1.p+1:=⟨qb _,qb _⟩;generalize bA z1=zd at*;have qb3:zd.p<=s.size:=by omega
    have HI2:=qa (fun W=>qaK.o W zd);have qaT:=qa (fun W h=>HCH.o W zd h q9F qb3);have hnx:nxR (bys s) zd=if zd.p<s.size then some ((bys s).getD zd.p 0)else none:=by unfold nxR;rw[bH];simp only[q9F,true_and]
    have HCN:=qa hCN;clear hz1 hx1 hCN h45 HIY c2 hxb hb1
    go_upto_region 10 with((with_reducible refine(HTZ.o _ HC5.o.box).mono ?_);rintro e w6 ⟨rfl,hB,hg⟩;have HX6:=qa (HX5.o.keepP hg HNE.o);have HC6:=qa (HC5.o.act hB hg);clear hB hg)
    have c06:=HC6.o.box.c0;have c16:=HC6.o.box.c1;clear HC5 HX5 HTZ;by_cases hpz:zd.p<s.size;rotate_left 1
    ·rw[qu hpz]at hnx
     have HAL:Hid (Al s.size z R a (b9 16 frm zd)):=qa (Al.fault _ (q6s.o (by rw[q5W,hnx];exact bN _ (by decide))) (bN _ (by decide)) (by rw[dH];omega) (by rw[dH];omega));have qbe:decide ((s.size:Int)<=(zd.p:Int))=true:=qy (by omega);have qbd:s.size<=zd.p:=by omega
     clear q5W hnx
     go_quiet (fail)
     go_wp2_with(first
      |((with_reducible refine(q8F.o _ _ (HC6.o.below (aW _ _)).box).mono ?_);rintro e w7 ⟨rfl,hB,hg⟩;have HC7:=qa ((HC6.o.below (aW _ _)).act hB hg);clear hB hg)
      |(refine aU rfl _ rfl q rfl _ HC7.o.set ?_)
      |(refine aL rfl _ _ rfl b rfl _ _ rfl HC7.o.res ?_;intro w9 hB2 hg2;have HC9:=qa hB2;have HQ9:=qa (HC7.o.fin hB2 hg2);clear hB2 hg2))
     exact ZmK5
    rw[qv hpz]at hnx;have qbe:decide ((s.size:Int)<=(zd.p:Int))=false:=qw (by omega);have qbd:¬s.size<=zd.p:=by omega
    rw[hnx]at q5W;simp only at q5W
    go_quiet (fail)
    have q8p:=qa (HC6.o.below (aW _ nq));have qas:=qa (HX6.o.up (aW _ nq));generalize w6.drewN nq=w61 at*;clear c06 c16;by_cases h93:gE (bys s) 93 zd=true
    ·have hcc:(bys s).getD zd.p 0=93:=by
      have:=(iG h93).2.2;rw[hnx]at this;exact qp this
     rw[qv hcc]at q5W;have HAL:Hid (Al s.size z R a (b9 15 zd.p zd)):=qa (Al.fault _ (q6s.o (by rw[q5W];exact bN _ (by decide))) (bN _ (by decide)) (by rw[dH];omega) (by rw[dH];omega));rw[h93]at HI2;clear q5W hnx h93 hcc
     go_wp2_with(first
      |((with_reducible refine(HI2.o _ q8p.o.box).mono ?_);rintro e w62 ⟨rfl,hx⟩;have q7k:=qa (q8p.o.ext hx);have c12:=q7k.o.box.c1;clear hx)
      |((with_reducible refine(q9q.o _ _ q7k.o.box).mono ?_);rintro e w7 ⟨rfl,hB,hg⟩;have HC7:=qa (q7k.o.act hB hg);clear hB hg)
      |(refine aU rfl _ rfl q rfl _ HC7.o.set ?_)
      |(refine aL rfl _ _ rfl b rfl _ _ rfl HC7.o.res ?_;intro w9 hB2 hg2;have HC9:=qa hB2;have HQ9:=qa (HC7.o.fin hB2 hg2);clear hB2 hg2))
     exact ZmK5
    have h93:gE (bys s) 93 zd=false:=by simpa using h93
    have hcc:¬(bys s).getD zd.p 0=93:=fun e=>by unfold gE at h93;rw[hnx,e]at h93;simp at h93
    rw[qu hcc]at q5W;rw[h93]at HI2;clear hnx h93 hcc
    go_upto_region 17 with(first
     |((with_reducible refine(HI2.o _ q8p.o.box).mono ?_);rintro e w62 ⟨rfl,hx⟩;have q7k:=qa (q8p.o.ext hx);have qar:=qa (qas.o.up (aE hx));clear hx)
     |((with_reducible refine(qaT.o _ q7k.o.box).mono ?_);rintro e w7 ⟨x2,bx2,z2,rfl,hxl,hQ,hA⟩;have qd3:=qa hxl;have HC7:=qa (q7k.o.act hQ.box hQ.gr);have HX7:=qa (qar.o.keepP hQ.gr HNE.o);have q8K:=qa hA;have HN7:=qa (HNW.o w7);have qaU:=qa (HC7.o.below (aB w7 (.cells Z 54)));have qaq:=qa (HX7.o.up (aB w7 (.cells Z 54)));clear hxl hQ hA)
     |(refine aL rfl _ _ rfl w7.heap.size rfl _ _ rfl HN7.o ?_;intro w8 hB2 hg2;have HY8:=qa hB2;have HC8:=qa (qaU.o.far hg2 (HC7.o.gr.size) (by have:=HC7.o.res.lt;omega) (by have:=HC7.o.set.lt;omega));have HX8:=qa (qaq.o.keepP hg2 (by have:=HX7.o.lt;omega));have c28:=HC8.o.box.c2;clear hB2 hg2))
    obtain⟨p2,hp2⟩:∃p2,p2=w7.heap.size:=⟨_,rfl⟩;have HP2:Hid (p≠p2):=qa (by have:=HX7.o.lt;omega);rw[<-hp2]at HY8⊢;have q9G:=q8K.o.top;have qcz:=q8K.o.le;clear hp2 HC7 qaU HX7 qaq HN7 q8p qas qaT HI2 q7k qar;by_cases q6S:(fO (bys s) zd).2.e=0;rotate_left 1
    ·have q7v:=q8K.o.bad q6S
     have q8L:((z2.e:Int) != 0)=true:=by simpa using q7v
     rw[qv q6S]at q5W;have HAL:Hid (Al s.size z R a z2):=qa (Al.fault _ (q6s.o (by rw[q5W];exact q6S)) q7v (by omega) q9G);clear q5W q6S
     go_wp2_with(first
      |(refine aU rfl _ rfl q rfl _ HC8.o.set ?_)
      |(refine aL rfl _ _ rfl b rfl _ _ rfl HC8.o.res ?_;intro w9 hB2 hg2;have HC9:=qa hB2;have HQ9:=qa (HC8.o.fin hB2 hg2);clear hB2 hg2))
     exact ZmK5
    obtain⟨hz2,q7w⟩:=q8K.o.ok q6S;have hx2:x2=(fO (bys s) zd).1.1:=qZ Prod.fst q7w;have hb2:bx2=(fO (bys s) zd).1.2:=qZ Prod.snd q7w;have q7v:z2.e=0:=by rw[hz2];exact q6S
    have q8L:((z2.e:Int) != 0)=false:=by rw[q7v];rfl
    rw[qu (fun h=>h q6S),<-hz2,<-hx2,<-hb2]at q5W
    go_upto_region 19 with(fail)
    have HDA:=qa q5W;clear q5W c28;have HBC:Hid True:=qa trivial;have q7u:Hid True:=qa trivial;cases bx with
    |true=>
     have HAL:Hid (Al s.size z R a (b9 18 z1.p z2)):=qa (Al.fault _ (q6s.o (by rw[HDA.o];exact bN _ (by decide))) (bN _ (by decide)) (by rw[dH];omega) (by rw[dH];omega));clear HDA hz2 q7w hx2 hb2;refine bL (by kernel_rfl) (by kernel_rfl) ?_;go_simp
     exact ZmK1
    |false=>
     cases bx2 with
     |true=>
      have HAL:Hid (Al s.size z R a (b9 18 z1.p z2)):=qa (Al.fault _ (q6s.o (by rw[HDA.o];exact bN _ (by decide))) (bN _ (by decide)) (by rw[dH];omega) (by rw[dH];omega));clear HDA hz2 q7w hx2 hb2;refine bL (by kernel_rfl) (by kernel_rfl) ?_;go_simp
      exact ZmK1
     |false=>
      obtain⟨c,hxc⟩:=qc8.o rfl;obtain⟨c2,q8t⟩:=Z1 q6S hb2.symm;rw[<-hx2]at q8t;have hda:=HDA.o;rw[hxc,q8t,Z2,Z2]at hda;have q8H:=qa hda;have HBC:Hid (∀W,Calls prog 92 #[dU x] W fun e w'=>e=.returned (.string ⟨#[c]⟩)/\∃y,w'=ext W y):=qa (fun W=>by rw[hxc];exact HBY.o W c);have q7u:Hid (∀W,Calls prog 92 #[dU x2] W fun e w'=>e=.returned (.string ⟨#[c2]⟩)/\∃y,w'=ext W y):=qa (fun W=>by rw[q8t];exact HBY.o W c2);have HRC:=qa (fun W=>HRG.o W c c2);have hi1:=fun W=>y8 c W;have hi2:=fun W=>y8 c2 W;clear hda HDA hz2 q7w hx2 hb2 q6S hce hxc q8t;by_cases hgt:c2.toNat<c.toNat
      ·have HAL:Hid (Al s.size z R a (b9 18 z1.p z2)):=qa (Al.fault _ (q6s.o (by rw[q8H.o,qy hgt];exact bN _ (by decide))) (bN _ (by decide)) (by rw[dH];omega) (by rw[dH];omega))
       clear q8H;refine bL (by kernel_rfl) (by kernel_rfl) ?_;go_simp
       exact ZmK1
      have HIT:Hid (D8 (bys s) frm y=(iD c.toNat c2.toNat,z2)):=qa (by rw[q8H.o,qw hgt];rfl);have qco:Hid (sJ (bys s) frm f0 (a|||iD c.toNat c2.toNat) z2=L):=qa (by rw[HCN.o,HIT.o]);have qcQ:decide (c2.toNat<c.toNat)=false:=qw hgt;have qc7:=qa (fun W=>HOR.o W a (iD c.toNat c2.toNat) HA.o (tW _ _));have HRL:=qa (tW c.toNat c2.toNat);clear q8H HCN HIT;refine bL (by kernel_rfl) (by kernel_rfl) ?_;go_simp
      repeat(first
       |(go_big_quiet_want;refine bR _ rfl p rfl _ (fun w' hw=>by obtain⟨y,rfl⟩:=hw;exact HX8.o.up (aE ⟨_,rfl⟩)) ?_;go_simp;go_big_quiet_on)
       |(go_big_quiet_want;refine bR _ rfl p2 rfl _ (fun w' hw=>by obtain⟨y,rfl⟩:=hw;exact HY8.o.up (aE ⟨_,rfl⟩)) ?_;go_simp;go_big_quiet_on)
       |go_big_quiet_step ((go_at_call 92;first|(with_reducible exact cC (HBC.o _))|(with_reducible exact cC (q7u.o _)))))
      refine wpQuiet_nil ?_;intro x9;obtain⟨w9,q6j⟩:∃w9,w9=ext w8 x9:=⟨_,rfl⟩;rw[<-q6j];have hw9:∃y,w9=ext w8 y:=⟨x9,q6j⟩;clear q6j;have HC9:=qa (HC8.o.ext hw9);have HX9:=qa (HX8.o.up (aE hw9));have HY9:=qa (HY8.o.up (aE hw9));clear hw9;generalize iD c.toNat c2.toNat=rg at*
      go_upto_region 22 with(fail)
      refine fD (C:=fun w'=>∃x,w'=chg w9 (some p) x) (.q 3 (.br 0 (.br 1 (.q 2 (.br 4 (.q 5 (.br 6 (.br 7 .done .no) .no)) .no)) .no) .no)) (by kernel_rfl) (by kernel_rfl) (cO (eK _ _)) ?_
      (unfold aN;simp only[pk])
      go_simp
      go_big_quiet_want
      refine bR _ rfl p2 rfl _ (fun w' hw=>by obtain⟨y,rfl⟩:=hw;exact HY9.o.keepP (rK _ _ _) HP2.o) ?_;go_simp
      go_big_quiet_on
      refine wpQuiet_nil ?_;have q6n:=qa (HC9.o.below (aW w9 1));have q8b:=qa (HX9.o.up (aW w9 1));have q7s:Hid (w9.grownBy w9.drew (some p)):=qa (eK w9 _);rw[show w9.drewN 1=w9.drew from rfl]at q6n q8b
      ((unfold aN;simp only[pk]);refine⟨?_,by unfold aN;trivial⟩;unfold aD)
      go_wp2_with(refine aU rfl _ rfl p rfl _ q8b.o ?_)
      refine⟨cO q7s.o,?_⟩;unfold aD
      ((unfold aN;simp only[pk]);refine⟨?_,by unfold aN;trivial⟩;unfold aD)
      go_wp2_with((with_reducible refine(HBC.o _).mono ?_);rintro e w11 ⟨rfl,hx⟩;have q7l:=qa (q6n.o.ext hx);have qbT:=qa (q8b.o.up (aE hx));have q8n:=qa (aK q7s.o (aI (aE hx) _));clear hx)
      refine⟨cO q8n.o,?_⟩;unfold aD
      (repeat((unfold aN;simp only[pk]);go_big_quiet_step (fail);refine wpQuiet_nil ?_))
      ((unfold aN;simp only[pk]);refine⟨?_,by unfold aN;trivial⟩;unfold aD)
      go_wp2_with((with_reducible refine(q7u.o _).mono ?_);rintro e w12 ⟨rfl,hx⟩;have qcs:=qa (q7l.o.ext hx);have qbS:=qa (qbT.o.up (aE hx));have q6y:=qa (aK q8n.o (aI (aE hx) _));clear hx)
      refine⟨cO q6y.o,?_⟩;unfold aD
      (repeat((unfold aN;simp only[pk]);go_big_quiet_step (fail);refine wpQuiet_nil ?_))
      ((unfold aN;simp only[pk]);refine⟨?_,by unfold aN;trivial⟩;unfold aD)
      go_wp2_with((with_reducible refine(HRC.o _).mono ?_);rintro e w13 ⟨rfl,hx⟩;have qcr:=qa (qcs.o.ext hx);have qbR:=qa (qbS.o.up (aE hx));have qaN:=qa (aK q6y.o (aI (aE hx) _));clear hx)
      refine⟨cO qaN.o,?_⟩;unfold aD
      ((unfold aN;simp only[pk]);refine⟨?_,by unfold aN;trivial⟩;unfold aD)
      go_wp2_with(refine aL rfl _ _ rfl p rfl _ _ rfl qbR.o ?_;intro w14 hB2 hg2;have qbQ:=qa hB2;have qcm:=qa (aK qaN.o hg2);have qaW:=qa (qcr.o.far hg2 HP.o.1 HP.o.2.1 HP.o.2.2);clear hB2 hg2)
      refine⟨cO qcm.o,?_⟩;unfold aD;unfold aN;intro hz8 hz9;clear hz9
      go_wp2_with(first
       |(refine aU rfl _ rfl q rfl _ qaW.o.set ?_)
       |(refine aU rfl _ rfl p rfl _ qbQ.o ?_)
       |((with_reducible refine(qc7.o _).mono ?_);rintro e w15 ⟨rfl,hx⟩;have qaV:=qa (qaW.o.ext hx);clear hx)
       |(refine aL rfl _ _ rfl q rfl _ _ rfl qaV.o.set ?_;intro w16 hB2 hg2;have qcq:=qa (qaV.o.store hB2 hg2);clear hB2 hg2))
      go_roundg (f0+1)
      case measure=>omega
      case rel=>exact⟨f0,a|||rg,z2,rfl,gQ HA.o HRL.o,qcq.o,q9G,by omega,.inl ⟨q7v,qco.o,by omega⟩⟩
def q1W(r:List Nd×PS)(g:Nat)(s:ByteArray)(z:PS)(w:World)(e:Ending)(w':World):Prop:=
 ∃v l z',e=.returned v/\aR w' w.heap.size v l/\Qs w w' g s z'/\Al s.size z r l z'/\l.length+2*z.p<=2*z'.p+1
def q4i(g:Nat)(s:ByteArray)(lo:Nat)(alt:PS->List Nd×PS):Prop:=∀W z,cN W g s z->z.e=0->lo<z.p->z.p<=s.size->Calls prog 29 #[.pointer (some ⟨g,0,none⟩)] W (q1W (alt z) g s z W)
theorem i8{s:dG}{c:UInt8}{z:PS}(h:gE s c z=true):b7 s c z=(true,bA z):=by rw[fL,qv h]
theorem lR{s:dG}{c:UInt8}{z:PS}(h:gE s c z=false):b7 s c z=(false,z):=by rw[fL,h];rfl
theorem q4Y{s:dG}{d:UInt8}{z:PS}(h:nxR s z=some d)(c:UInt8):gE s c z=decide (d=c):=by unfold gE;rw[h];simp
theorem Al.good{α:Type}{n:Nat}{z:PS}{r:α×PS}{x:α}{z':PS}(h:Al n z r x z')(h0:z'.e=0):z'=r.2/\x=r.1/\r.2.e=0:=by
 by_cases he:r.2.e=0
 ·exact⟨(h.ok he).1,(h.ok he).2,he⟩
 exact absurd h0 (h.bad he)
theorem Al.worse{α:Type}{n:Nat}{z:PS}{r:α×PS}{x:α}{z':PS}(h:Al n z r x z')(h0:z'.e≠0):r.2.e≠0:=fun he=>h0 (by rw[(h.ok he).1];exact he)
theorem q4Z(s:ByteArray)(a:Nat)(h:a<s.size)(W:World):Calls prog 87 #[.string (s.extract a (a+1))] W (eG (gG ((bys s).getD a 0)) W):=by rw[q03 s a h];exact q4t _ W
theorem q5K{alt:PS->List Nd×PS}{w:World}{g lo:Nat}{s:ByteArray}{z:PS}{c:UInt8}(hA:q4i g s lo alt)(hlo:lo<=z.p)(h:cN w g s z)(hs:s.size<=1000000)(hc:nxR (bys s) z=some c):
  Calls prog 81 #[.pointer (some ⟨g,0,none⟩)] w (q1W (zD (bys s) alt z) g s z w):=by
 have hz:=nQ;obtain⟨Z,hZ⟩:∃Z,Z=z4:=⟨_,rfl⟩;rw[<-hZ]at hz;have HNW:Hid (∀W:World,fP (W.alloc (.cells Z 54)) W.heap.size 0):=qa (fun W=>fH W Z hZ);obtain⟨hz0,hzp,hcc⟩:=f7 hc;rw[bH]at hzp;have HP0:=qa (Qs.start h);have c1:=h.c1;have hgl:=h.lt;have HA:Hid (∀W,cN W g s (bA z)->Calls prog 29 #[.pointer (some ⟨g,0,none⟩)] W (q1W (alt (bA z)) g s (bA z) W)):=qa (fun W h=>hA W (bA z) h hz0 (Nat.lt_succ_of_le hlo) hzp);have q7f:Hid (∀W,cN W g s z->Calls prog 46 #[.pointer (some ⟨g,0,none⟩),.int .u8 40] W (m8 (.bool (b7 (bys s) 40 z).1) g s (b7 (bys s) 40 z).2 W)):=qa (fun W h=>oX h hs 40);have q7q:Hid (∀W,cN W g s z->Calls prog 46 #[.pointer (some ⟨g,0,none⟩),.int .u8 91] W (m8 (.bool (b7 (bys s) 91 z).1) g s (b7 (bys s) 91 z).2 W)):=qa (fun W h=>oX h hs 91);have q8e:Hid (∀W,cN W g s z->Calls prog 46 #[.pointer (some ⟨g,0,none⟩),.int .u8 46] W (m8 (.bool (b7 (bys s) 46 z).1) g s (b7 (bys s) 46 z).2 W)):=qa (fun W h=>oX h hs 46);have qbW:Hid (∀W y,cN W g s y->Calls prog 46 #[.pointer (some ⟨g,0,none⟩),.int .u8 41] W (m8 (.bool (b7 (bys s) 41 y).1) g s (b7 (bys s) 41 y).2 W)):=qa (fun W y h=>oX h hs 41);have q6V:Hid (∀W,cN W g s z->Calls prog 68 #[.pointer (some ⟨g,0,none⟩),.int .u8 92] W fun e w'=>e=.returned (.bool (gE (bys s) 92 z))/\∃x,w'=ext W x):=qa (fun W h=>isQ h 92);have q8F:Hid (∀W x,cN W g s x->Calls prog 30 #[.pointer (some ⟨g,0,none⟩),.int .i64 16,.int .i64 z.p] W (m8 (.tuple #[]) g s (b9 16 z.p x) W)):=qa (fun W x h=>vY h 16 z.p);have q9q:Hid (∀W x,cN W g s x->Calls prog 30 #[.pointer (some ⟨g,0,none⟩),.int .i64 15,.int .i64 z.p] W (m8 (.tuple #[]) g s (b9 15 z.p x) W)):=qa (fun W x h=>vY h 15 z.p);have HES:Hid (∀W,cN W g s z->Calls prog 88 #[.pointer (some ⟨g,0,none⟩)] W (q4f (tV (bys s) z) g s z W)):=qa (fun W h=>q5l h hs hc);have HCL:Hid (∀W,cN W g s (bA z)->Calls prog 85 #[.pointer (some ⟨g,0,none⟩),.int .i64 z.p] W (q5m (K5 (bys s) z.p (bA z)) g s (bA z) W)):=qa (fun W h=>q5J h hs hz0 hzp);have HON:Hid (∀(x:Nat) W,Calls prog 84 #[dU x] W (sV W [setN x])):=qa (fun x W=>q5I x W);have qcc:Hid (∀W,Calls prog 87 #[.string ⟨#[10]⟩] W (eG (gG 10) W)):=qa (fun W=>q4t 10 W);have q7i:Hid (∀W,Calls prog 86 #[dU (gG 10)] W (eG (vZ (gG 10)) W)):=qa (fun W=>q5h (pF 10) W);have HOC:=qa (fun W=>q4Z s z.p hzp W);have HSP:=qa (fun W=>q1l c W);have hix:=fun W=>eY (P:=prog) 9 underlying9 hzp W;rw[hcc]at hix HOC;obtain⟨R,hR⟩:∃R,R=zD (bys s) alt z:=⟨_,rfl⟩;rw[<-hR];unfold zD at hR;rw[hc]at hR;simp only[qM]at hR;have hi:=fun d=>q4Y hc d;clear h hZ hA hcc;go_enter func81,ntmps81;by_cases h40:c=40
 ·rw[i8 (by rw[hi,h40];rfl)]at q7f
  have hR2:R=((alt (bA z)).1,if(b7 (bys s) 41 (alt (bA z)).2).1 then(b7 (bys s) 41 (alt (bA z)).2).2 else b9 16 z.p (b7 (bys s) 41 (alt (bA z)).2).2):=by rw[hR,h40];rfl
  clear hR hi HSP hix HOC h40
  go_upto_region 4 with(first
   |((with_reducible refine(q7f.o _ HP0.o.box).mono ?_);rintro e w1 ⟨rfl,hB,hg⟩;have HP1:=qa (HP0.o.act hB hg);clear hB hg)
   |((with_reducible refine(HA.o _ HP1.o.box).mono ?_);rintro e w2 ⟨v,l,z1,rfl,ho,hQ,hAl,hlen⟩;have HN2:Hid (aR w2 w.heap.size v l):=qa (d4.mono ho HP1.o.gr.size);have HP2:=qa (HP1.o.act hQ.box hQ.gr);have HAL:=qa hAl;have HLE:=qa hlen;have c22:=HP2.o.box.c2;clear ho hQ hAl hlen))
  have h1l:=HAL.o.le;have h1p:=HAL.o.top;have h1n:=HLE.o;have hap:(bA z).p=z.p+1:=rfl;rw[hap]at h1l h1n;clear hap;by_cases hz1:z1.e=0
  ·obtain⟨e1,e2,-⟩:=HAL.o.good hz1
   rw[<-e1,<-e2]at hR2;have he':((z1.e:Int)==0)=true:=by rw[hz1];rfl
   have HTZ:=qa (fun W h=>qbW.o W z1 h);clear e1 e2;cases h41:gE (bys s) 41 z1 with
   |true=>
    rw[i8 h41]at HTZ hR2;have HR:Hid (R=(l,bA z1)):=qa hR2;have hlt:=(iG h41).2.1;rw[bH]at hlt;clear hR2 h41
    go_wp2_with((with_reducible refine(HTZ.o _ HP2.o.box).mono ?_);rintro e w3 ⟨rfl,hB,hg⟩;have HP3:=qa (HP2.o.act hB hg);have HN3:=qa (aR.keepG HN2.o hg hgl);clear hB hg)
    go_ret;exact⟨v,l,_,rfl,HN3.o,HP3.o,Al.same HR.o (by show z.p<=z1.p+1;omega) hlt,by show l.length+2*z.p<=2*(z1.p+1)+1;omega⟩
   |false=>
    rw[lR h41]at HTZ hR2;have HR:Hid (R=(l,b9 16 z.p z1)):=qa hR2;clear hR2 h41
    go_wp2_with(first
     |((with_reducible refine(HTZ.o _ HP2.o.box).mono ?_);rintro e w3 ⟨rfl,hB,hg⟩;have HP3:=qa (HP2.o.act hB hg);have HN3:=qa (aR.keepG HN2.o hg hgl);clear hB hg)
     |((with_reducible refine(q8F.o _ _ HP3.o.box).mono ?_);rintro e w4 ⟨rfl,hB,hg⟩;have HP4:=qa (HP3.o.act hB hg);have HN4:=qa (aR.keepG HN3.o hg hgl);clear hB hg))
    go_ret;exact⟨v,l,_,rfl,HN4.o,HP4.o,Al.same HR.o (by rw[dH];omega) (by rw[dH];omega),by rw[dH];omega⟩
  have hw:=HAL.o.worse hz1;have he':((z1.e:Int)==0)=false:=by simpa using hz1
  have HR:Hid (R.2.e≠0):=qa (by rw[hR2,m5 hw];simp only[qS,jr];rw[oT hw];exact hw);clear hR2 hw;go_wp2;go_ret;exact⟨v,l,z1,rfl,HN2.o,HP2.o,Al.fault _ HR.o hz1 (by omega) h1p,by omega⟩
 rw[lR (by rw[hi];simpa using h40)]at q7f;have k40:¬c.toNat=40:=fun e=>h40 (UInt8.toNat_inj.1 e);by_cases h91:c=91
 ·rw[i8 (by rw[hi,h91];rfl)]at q7q
  have HR:Hid (R=([setN (K5 (bys s) z.p (bA z)).1],(K5 (bys s) z.p (bA z)).2)):=qa (by rw[hR,h91];rfl);clear hR hi HSP hix HOC h91 h40 HA
  go_wp2_with(first
   |((with_reducible refine(q7f.o _ HP0.o.box).mono ?_);rintro e w1 ⟨rfl,hB,hg⟩;have HP1:=qa (HP0.o.act hB hg);clear hB hg)
   |((with_reducible refine(q7q.o _ HP1.o.box).mono ?_);rintro e w2 ⟨rfl,hB,hg⟩;have HP2:=qa (HP1.o.act hB hg);clear hB hg)
   |((with_reducible refine(HCL.o _ HP2.o.box).mono ?_);rintro e w3 ⟨x,z1,rfl,hxl,hQ,hAl⟩;have HP3:=qa (HP2.o.act hQ.box hQ.gr);have HAL:=qa hAl;clear hxl hQ hAl)
   |((with_reducible refine(HON.o _ _).mono ?_);rintro e w4 ⟨v,rfl,ho,hb⟩;have HN4:Hid (aR w4 w.heap.size v [setN x]):=qa (d4.mono ho HP3.o.gr.size);have HP4:=qa (HP3.o.below hb);clear ho hb))
  go_ret;refine⟨v,_,z1,rfl,HN4.o,HP4.o,⟨fun e=>?_,fun e=>HAL.o.bad (by rw[HR.o]at e;exact e),?_,HAL.o.top⟩,?_⟩
  ·rw[HR.o]at e⊢
   obtain⟨q1,q2⟩:=HAL.o.ok e;exact⟨q1,by rw[q2]⟩
  ·have:=HAL.o.le
   exact qc (jc _) this
  have:z.p+1<=z1.p:=HAL.o.le;show 1+2*z.p<=_;omega
 rw[lR (by rw[hi];simpa using h91)]at q7q;by_cases h46:c=46
 ·rw[i8 (by rw[hi,h46];rfl)]at q8e
  have HR:Hid (R=([setN (vZ (gG 10))],bA z)):=qa (by rw[hR,h46];rfl);clear hR hi HSP hix HOC h91 h40 h46 HA;generalize vZ (gG 10)=xn at*;generalize gG 10=xo at*
  go_wp2_with(first
   |((with_reducible refine(q7f.o _ HP0.o.box).mono ?_);rintro e w1 ⟨rfl,hB,hg⟩;have HP1:=qa (HP0.o.act hB hg);clear hB hg)
   |((with_reducible refine(q7q.o _ HP1.o.box).mono ?_);rintro e w2 ⟨rfl,hB,hg⟩;have HP2:=qa (HP1.o.act hB hg);clear hB hg)
   |((with_reducible refine(q8e.o _ HP2.o.box).mono ?_);rintro e w3 ⟨rfl,hB,hg⟩;have HP3:=qa (HP2.o.act hB hg);clear hB hg)
   |((with_reducible refine(qcc.o _).mono ?_);rintro e w4 ⟨rfl,hx⟩;have HP4:=qa (HP3.o.ext hx);clear hx)
   |((with_reducible refine(q7i.o _).mono ?_);rintro e w5 ⟨rfl,hx⟩;have HP5:=qa (HP4.o.ext hx);clear hx)
   |((with_reducible refine(HON.o _ _).mono ?_);rintro e w6 ⟨v,rfl,ho,hb⟩;have HN6:Hid (aR w6 w.heap.size v [setN xn]):=qa (d4.mono ho HP5.o.gr.size);have HP6:=qa (HP5.o.below hb);clear ho hb))
  go_ret;exact⟨v,_,_,rfl,HN6.o,HP6.o,Al.same HR.o (by show z.p<=z.p+1;omega) (by show z.p+1<=s.size;omega),by show 1+2*z.p<=2*(z.p+1)+1;omega⟩
 rw[lR (by rw[hi];simpa using h46)]at q8e;by_cases h92:c=92
 ·rw[hi,qy h92]at q6V
  have HR:Hid (R=([setN (tV (bys s) z).1.1],(tV (bys s) z).2)):=qa (by rw[hR,h92];rfl);clear hR hi HSP hix HOC h91 h40 h46 HA h92
  go_wp2_with(first
   |((with_reducible refine(q7f.o _ HP0.o.box).mono ?_);rintro e w1 ⟨rfl,hB,hg⟩;have HP1:=qa (HP0.o.act hB hg);clear hB hg)
   |((with_reducible refine(q7q.o _ HP1.o.box).mono ?_);rintro e w2 ⟨rfl,hB,hg⟩;have HP2:=qa (HP1.o.act hB hg);clear hB hg)
   |((with_reducible refine(q8e.o _ HP2.o.box).mono ?_);rintro e w3 ⟨rfl,hB,hg⟩;have HP3:=qa (HP2.o.act hB hg);clear hB hg)
   |((with_reducible refine(q6V.o _ HP3.o.box).mono ?_);rintro e w4 ⟨rfl,hx⟩;have HP4:=qa (HP3.o.ext hx);clear hx)
   |((with_reducible refine(HES.o _ HP4.o.box).mono ?_);rintro e w5 ⟨x,b,z1,rfl,hxl,hQ,hAl⟩;have HP5:=qa (HP4.o.act hQ.box hQ.gr);have HAL:=qa hAl;have HN5:=qa (HNW.o w5);have hba:=aB w5 (.cells Z 54);have qc6:=qa (HP5.o.below hba);clear hxl hQ hAl hba)
   |(refine aL rfl _ _ rfl w5.heap.size rfl _ _ rfl HN5.o ?_;intro w6 hB2 hg2;have HX6:=qa hB2;have HP6:=qa (qc6.o.far hg2 (fun k e=>by injection e with e;have:=HP5.o.gr.size;omega));clear hB2 hg2)
   |(refine aU rfl _ rfl w5.heap.size rfl _ HX6.o ?_)
   |((with_reducible refine(HON.o _ _).mono ?_);rintro e w7 ⟨v,rfl,ho,hb⟩;have HN7:Hid (aR w7 w.heap.size v [setN x]):=qa (d4.mono ho HP6.o.gr.size);have HP7:=qa (HP6.o.below hb);clear ho hb))
  go_ret;refine⟨v,_,z1,rfl,HN7.o,HP7.o,⟨fun e=>?_,fun e=>HAL.o.bad (by rw[HR.o]at e;exact e),HAL.o.le,HAL.o.top⟩,?_⟩
  ·rw[HR.o]at e⊢
   obtain⟨q1,q2⟩:=HAL.o.ok e;exact⟨q1,by rw[show x=_ from qZ Prod.fst q2]⟩
  have:=HAL.o.le;show 1+2*z.p<=_;omega
 rw[hi,qw h92]at q6V;have hR3:R=if c∈yG then([],b9 15 z.p z)else([setN (gG c)],bA z):=by rw[hR,qu h92,qu h40,qu h91,qu h46]
 have HR3:=qa hR3;clear hR hR3 hi h92 h40 h91 h46 HA HES HCL
 go_upto_region 14 with(first
  |((with_reducible refine(q7f.o _ HP0.o.box).mono ?_);rintro e w1 ⟨rfl,hB,hg⟩;have HP1:=qa (HP0.o.act hB hg);clear hB hg)
  |((with_reducible refine(q7q.o _ HP1.o.box).mono ?_);rintro e w2 ⟨rfl,hB,hg⟩;have HP2:=qa (HP1.o.act hB hg);clear hB hg)
  |((with_reducible refine(q8e.o _ HP2.o.box).mono ?_);rintro e w3 ⟨rfl,hB,hg⟩;have HP3:=qa (HP2.o.act hB hg);clear hB hg)
  |((with_reducible refine(q6V.o _ HP3.o.box).mono ?_);rintro e w4 ⟨rfl,hx⟩;have HP4:=qa (HP3.o.ext hx);clear hx))
 have c04:=HP4.o.box.c0;have c14:=HP4.o.box.c1;have hg4:=HP4.o.box.lt;refine bL (by kernel_rfl) (by kernel_rfl) ?_
 repeat(go_big_quiet_step ((go_at_call 89;(with_reducible exact cC (HSP.o _)))))
 refine wpQuiet_nil ?_;intro w5 hw5;have HP5:=qa (HP4.o.ext hw5);have c05:=HP5.o.box.c0;have c15:=HP5.o.box.c1;have f15:=HP5.o.box.free 1;clear hw5 c04 c14 hg4;by_cases hm:c∈yG
 ·have HR:Hid (R=([],b9 15 z.p z)):=qa (by rw[HR3.o,qv hm])
  rw[qy hm];clear HR3 hm hix HOC
  go_wp2_with((with_reducible refine(q9q.o _ _ HP5.o.box).mono ?_);rintro e w6 ⟨rfl,hB,hg⟩;have HP6:=qa (HP5.o.act hB hg);clear hB hg)
  go_ret;exact⟨_,[],_,rfl,d4.nil 8 w6 w.heap.size 77,HP6.o,Al.same HR.o (by rw[dH];omega) (by rw[dH];omega),by rw[dH];show 0+2*z.p<=_;omega⟩
 have HR:Hid (R=([setN (gG c)],bA z)):=qa (by rw[HR3.o,qu hm]);rw[qw hm];have HP6:=qa HP5.o.inc;have c06:=HP6.o.box.c0;clear HR3 hm hix;generalize gG c=xo at*
 go_wp2_with(first
  |((with_reducible refine(HOC.o _).mono ?_);rintro e w7 ⟨rfl,hx⟩;have HP7:=qa (HP6.o.ext hx);clear hx)
  |((with_reducible refine(HON.o _ _).mono ?_);rintro e w8 ⟨v,rfl,ho,hb⟩;have HN8:Hid (aR w8 w.heap.size v [setN xo]):=qa (d4.mono ho HP7.o.gr.size);have HP8:=qa (HP7.o.below hb);clear ho hb))
 go_ret;exact⟨v,_,_,rfl,HN8.o,HP8.o,Al.same HR.o (by show z.p<=z.p+1;omega) (by show z.p+1<=s.size;omega),by show 1+2*z.p<=2*(z.p+1)+1;omega⟩
theorem I2(s:dG):∀(f:Nat) (l:List Nd) (z:PS),z.e≠0->rD s f l z=(l,z)
 |0,_,_,_=>rfl
 |f+1,l,z,h=>by unfold rD;rw[xP h];rfl
theorem q5L{alt:PS->List Nd×PS}{w:World}{g lo:Nat}{s:ByteArray}{z:PS}{c:UInt8}(hA:q4i g s lo alt)(hlo:lo<=z.p)(hst:∀z,z.p<=(bys s).length->Stp (bys s) z (alt z).2)(hlen:∀z,z.p<=(bys s).length->(alt z).1.length+2*z.p<=2*(alt z).2.p+1)
  (h:cN w g s z) (hs:s.size<=1000000) (hc:nxR (bys s) z=some c):
  Calls prog 69 #[.pointer (some ⟨g,0,none⟩)] w (q1W (D9 (bys s) alt z) g s z w):=by
 have hgl:=h.lt;have HP0:=qa (Qs.start h);have HAT:=qa (q5K hA hlo h hs hc);have q8v:=(vJ hst hc).1;have hsm:=(zH hlen hc).lt;obtain⟨hz0,hzp,-⟩:=f7 hc;have hzb:=q8v.len (by omega);have hzl:=q8v.le;rw[bH]at hzp hzb;obtain⟨R,hR⟩:∃R,R=D9 (bys s) alt z:=⟨_,rfl⟩;rw[<-hR]at q8v hsm hzb hzl⊢;unfold D9 at hR;rw[bH]at hR;have qaB:Hid (∀W y,cN W g s y->Calls prog 46 #[.pointer (some ⟨g,0,none⟩),.int .u8 42] W (m8 (.bool (b7 (bys s) 42 y).1) g s (b7 (bys s) 42 y).2 W)):=qa (fun W y h=>oX h hs 42);have qaA:Hid (∀W y,cN W g s y->Calls prog 46 #[.pointer (some ⟨g,0,none⟩),.int .u8 43] W (m8 (.bool (b7 (bys s) 43 y).1) g s (b7 (bys s) 43 y).2 W)):=qa (fun W y h=>oX h hs 43);have qaz:Hid (∀W y,cN W g s y->Calls prog 46 #[.pointer (some ⟨g,0,none⟩),.int .u8 63] W (m8 (.bool (b7 (bys s) 63 y).1) g s (b7 (bys s) 63 y).2 W)):=qa (fun W y h=>oX h hs 63);have q9m:Hid (∀W y,cN W g s y->Calls prog 68 #[.pointer (some ⟨g,0,none⟩),.int .u8 123] W fun e w'=>e=.returned (.bool (gE (bys s) 123 y))/\∃x,w'=ext W x):=qa (fun W y h=>isQ h 123);have HTM:Hid (∀W y,nxR (bys s) y=some 123->cN W g s y->Calls prog 82 #[.pointer (some ⟨g,0,none⟩)] W (m8 (.tuple #[.int .i64 (pO (bys s) y).1.lo,.int .i64 (pO (bys s) y).1.hi]) g s (pO (bys s) y).2 W)):=qa (fun W y hc h=>q5F h hs hc)
 have HJN:Hid (∀(x:Nd) (l:List Nd) W v,l.length<=100000000->aR W w.heap.size v l->Calls prog 70 #[.agg (ndA x),.slice (some ⟨W.heap.size,0,none⟩) 1 1] (W.alloc (.cells #[v] 39)) (sV (W.alloc (.cells #[v] 39)) (f6 x [l]))):=qa (fun x l W v hl h=>q4g (x:=x) (ks:=[l]) (fZ W #[v] 39 (by simp)) rfl (fun i hi=>by
  have h0:i=0:=by simp at hi;omega
  subst h0;exact(aR.at h).up (aB W _)) (by simp;omega))
 clear h;go_enter func69,ntmps69
 go_wp2_with((with_reducible refine(HAT.o).mono ?_);rintro e w1 ⟨v1,l1,z1,rfl,ho,hQ,hAl,hle⟩;have HN1:=qa ho;have HP1:=qa hQ;have HAL:=qa hAl;have HLE:=qa hle;clear ho hQ hAl hle)
 have h1l:=HAL.o.le;have h1p:=HAL.o.top
 have q6c:(z1.e=0/\rD (bys s) (s.size+1) l1 z1=R/\s.size+1<=s.size+1+z1.p/\l1.length+2*z.p+1<=2*z1.p)\/(z1.e≠0/\R.2.e≠0/\l1.length+2*z.p<=2*z1.p+1):=by
  by_cases hz1:z1.e=0
  ·obtain⟨e1,e2,e3⟩:=HAL.o.good hz1
   refine .inl ⟨hz1,by rw[e1,e2];exact hR.symm,by omega,?_⟩;rcases(W4 hlen hc).lt with h|h
   ·rw[e1,e2];exact h
   exact absurd e3 h.2
  have h2:=HAL.o.worse hz1;exact .inr ⟨hz1,by rw[hR,I2 _ _ _ _ h2];exact h2,HLE.o⟩
 have HST:=qa q6c;clear q6c hR q8v hsm HAT hzb hzl hc hA hst hlen HAL HLE
 go_loopg [3] (s.size+2) (fun gk xv wr=>∃(f:Nat) (l:List Nd) (y:PS),gk=f+1/\aR wr w.heap.size xv l/\Qs w wr g s y/\y.p<=s.size/\z.p<=y.p/\Hid ((y.e=0/\rD (bys s) f l y=R/\s.size+1<=f+y.p/\l.length+2*z.p+1<=2*y.p)\/(y.e≠0/\R.2.e≠0/\l.length+2*z.p<=2*y.p+1)))
 case atStart=>exact⟨s.size+1,l1,z1,rfl,HN1.o,HP1.o,h1p,h1l,HST⟩
 case round=>
  clear HN1 HP1 HST h1l h1p;obtain⟨f,l,y,hgk,hO,hP,hyp,hyl,HY⟩:=hrel;have HN:=qa hO;have HP:=qa hP;clear hO hP;obtain⟨oa,cap,hv⟩:=aR.slice HN.o;subst hv;have c2:=HP.o.box.c2;rcases HY.o with⟨h0,hRL,hf,hll⟩|⟨h0,hRb,hll⟩;rotate_left 1
  ·have he':((y.e:Int)==0)=false:=by simpa using h0
   go_wp2;go_ret;exact⟨_,l,y,rfl,HN.o,HP.o,Al.fault _ hRb h0 hyl hyp,hll⟩
  have he':((y.e:Int)==0)=true:=by rw[h0];rfl
  obtain⟨f0,rfl⟩:∃f0,f=f0+1:=⟨f-1,by omega⟩;have hnd:∀(x:Nd),(f6 x [l]).length=l.length+1:=fun x=>by simp[f6]
  by_cases h42:gE (bys s) 42 y=true
  ·have hcc:(nxR (bys s) y).getD 0=42:=by rw[(iG h42).2.2];rfl
   have HRL:Hid (rD (bys s) f0 (f6 (kN 5) [l]) (bA y)=R):=qa (by rw[<-hRL,rD];simp only[hcc];rfl);have hlt:=(iG h42).2.1;rw[bH]at hlt;have HJ:Hid (∀W,aR W w.heap.size (.slice oa l.length cap) l->Calls prog 70 #[.agg #[.int .i64 5,.int .i64 0,.int .u64 0,.int .u64 0,.int .u64 0,.int .u64 0,.int .i64 0,.int .i64 0],.slice (some ⟨W.heap.size,0,none⟩) 1 1] (W.alloc (.cells #[.slice oa l.length cap] 39)) (sV (W.alloc (.cells #[.slice oa l.length cap] 39)) (f6 (kN 5) [l]))):=qa (fun W h=>HJN.o (kN 5) l W _ (by omega) h);have hnk:=hnd (kN 5);have q8g:=qa (fun W h=>qaB.o W y h);rw[i8 h42]at q8g;clear hcc hRL HY h42 hnd
   go_wp2_with(first
    |((with_reducible refine(q8g.o _ HP.o.box).mono ?_);rintro e w6 ⟨rfl,hB,hg⟩;have HP6:=qa (HP.o.act hB hg);have HN6:=qa (aR.keepG HN.o hg hgl);clear hB hg)
    |((with_reducible refine(HJ.o _ HN6.o).mono ?_);rintro e w7 ⟨v7,rfl,ho,hb⟩;have HN7:Hid (aR w7 w.heap.size v7 (f6 (kN 5) [l])):=qa (d4.mono ho (qc HP6.o.gr.size (aB w6 _).size));have HP7:=qa ((HP6.o.below (aB w6 _)).below hb);clear ho hb))
   exact ZmK4
  have h42:gE (bys s) 42 y=false:=by simpa using h42
  have q6H:=qa (fun W h=>qaB.o W y h);rw[lR h42]at q6H;by_cases h43:gE (bys s) 43 y=true
  ·have hcc:(nxR (bys s) y).getD 0=43:=by rw[(iG h43).2.2];rfl
   have HRL:Hid (rD (bys s) f0 (f6 (kN 6) [l]) (bA y)=R):=qa (by rw[<-hRL,rD];simp only[hcc];rfl);have hlt:=(iG h43).2.1;rw[bH]at hlt;have HJ:Hid (∀W,aR W w.heap.size (.slice oa l.length cap) l->Calls prog 70 #[.agg #[.int .i64 6,.int .i64 0,.int .u64 0,.int .u64 0,.int .u64 0,.int .u64 0,.int .i64 0,.int .i64 0],.slice (some ⟨W.heap.size,0,none⟩) 1 1] (W.alloc (.cells #[.slice oa l.length cap] 39)) (sV (W.alloc (.cells #[.slice oa l.length cap] 39)) (f6 (kN 6) [l]))):=qa (fun W h=>HJN.o (kN 6) l W _ (by omega) h);have hnk:=hnd (kN 6);have q8f:=qa (fun W h=>qaA.o W y h);rw[i8 h43]at q8f;clear hcc hRL HY h43 hnd
   go_wp2_with(first
    |((with_reducible refine(q6H.o _ HP.o.box).mono ?_);rintro e w2 ⟨rfl,hB,hg⟩;have HP2:=qa (HP.o.act hB hg);have HN2:=qa (aR.keepG HN.o hg hgl);clear hB hg)
    |((with_reducible refine(q8f.o _ HP2.o.box).mono ?_);rintro e w6 ⟨rfl,hB,hg⟩;have HP6:=qa (HP2.o.act hB hg);have HN6:=qa (aR.keepG HN2.o hg hgl);clear hB hg)
    |((with_reducible refine(HJ.o _ HN6.o).mono ?_);rintro e w7 ⟨v7,rfl,ho,hb⟩;have HN7:Hid (aR w7 w.heap.size v7 (f6 (kN 6) [l])):=qa (d4.mono ho (qc HP6.o.gr.size (aB w6 _).size));have HP7:=qa ((HP6.o.below (aB w6 _)).below hb);clear ho hb))
   exact ZmK4
  have h43:gE (bys s) 43 y=false:=by simpa using h43
  have q6U:=qa (fun W h=>qaA.o W y h);rw[lR h43]at q6U;by_cases h63:gE (bys s) 63 y=true
  ·have hcc:(nxR (bys s) y).getD 0=63:=by rw[(iG h63).2.2];rfl
   have HRL:Hid (rD (bys s) f0 (f6 (kN 7) [l]) (bA y)=R):=qa (by rw[<-hRL,rD];simp only[hcc];rfl);have hlt:=(iG h63).2.1;rw[bH]at hlt;have HJ:Hid (∀W,aR W w.heap.size (.slice oa l.length cap) l->Calls prog 70 #[.agg #[.int .i64 7,.int .i64 0,.int .u64 0,.int .u64 0,.int .u64 0,.int .u64 0,.int .i64 0,.int .i64 0],.slice (some ⟨W.heap.size,0,none⟩) 1 1] (W.alloc (.cells #[.slice oa l.length cap] 39)) (sV (W.alloc (.cells #[.slice oa l.length cap] 39)) (f6 (kN 7) [l]))):=qa (fun W h=>HJN.o (kN 7) l W _ (by omega) h);have hnk:=hnd (kN 7);have q8d:=qa (fun W h=>qaz.o W y h);rw[i8 h63]at q8d;clear hcc hRL HY h63 hnd
   go_wp2_with(first
    |((with_reducible refine(q6H.o _ HP.o.box).mono ?_);rintro e w2 ⟨rfl,hB,hg⟩;have HP2:=qa (HP.o.act hB hg);have HN2:=qa (aR.keepG HN.o hg hgl);clear hB hg)
    |((with_reducible refine(q6U.o _ HP2.o.box).mono ?_);rintro e w3 ⟨rfl,hB,hg⟩;have HP3:=qa (HP2.o.act hB hg);have HN3:=qa (aR.keepG HN2.o hg hgl);clear hB hg)
    |((with_reducible refine(q8d.o _ HP3.o.box).mono ?_);rintro e w6 ⟨rfl,hB,hg⟩;have HP6:=qa (HP3.o.act hB hg);have HN6:=qa (aR.keepG HN3.o hg hgl);clear hB hg)
    |((with_reducible refine(HJ.o _ HN6.o).mono ?_);rintro e w7 ⟨v7,rfl,ho,hb⟩;have HN7:Hid (aR w7 w.heap.size v7 (f6 (kN 7) [l])):=qa (d4.mono ho (qc HP6.o.gr.size (aB w6 _).size));have HP7:=qa ((HP6.o.below (aB w6 _)).below hb);clear ho hb))
   exact ZmK4
  have h63:gE (bys s) 63 y=false:=by simpa using h63
  have q7e:=qa (fun W h=>qaz.o W y h);rw[lR h63]at q7e;have HIY:=qa (fun W h=>q9m.o W y h);by_cases q6w:gE (bys s) 123 y=true
  ·have hcc:(nxR (bys s) y).getD 0=123:=by rw[(iG q6w).2.2];rfl
   have q96:rD (bys s) f0 (f6 (pO (bys s) y).1 [l]) (pO (bys s) y).2=R:=by rw[<-hRL,rD];simp only[hcc];rfl
   have qax:=qa (fun W h=>HTM.o W y (iG q6w).2.2 h);have htl:=q1M (iG q6w).2.2;have htp:=(V7 (iG q6w).2.2).len (by rw[bH];exact hyp);rw[bH]at htp;have htn:(pO (bys s) y).1=⟨8,0,0,0,0,0,(pO (bys s) y).1.lo,(pO (bys s) y).1.hi⟩:=rfl;have hnk:=hnd (pO (bys s) y).1;rw[q6w]at HIY;have HJ:Hid (∀W,aR W w.heap.size (.slice oa l.length cap) l->Calls prog 70 #[.agg #[.int .i64 8,.int .i64 0,.int .u64 0,.int .u64 0,.int .u64 0,.int .u64 0,.int .i64 (pO (bys s) y).1.lo,.int .i64 (pO (bys s) y).1.hi],.slice (some ⟨W.heap.size,0,none⟩) 1 1] (W.alloc (.cells #[.slice oa l.length cap] 39)) (sV (W.alloc (.cells #[.slice oa l.length cap] 39)) (f6 (pO (bys s) y).1 [l]))):=qa (fun W h=>HJN.o (pO (bys s) y).1 l W _ (by omega) h);clear hcc hRL HY q6w hnd htn;generalize pO (bys s) y=T at*;obtain⟨tn,tz⟩:=T;simp only at qax htl htp q96 HJ hnk;generalize tn.lo=lo' at*;generalize tn.hi=hi' at*
   go_wp2_with(first
    |((with_reducible refine(q6H.o _ HP.o.box).mono ?_);rintro e w2 ⟨rfl,hB,hg⟩;have HP2:=qa (HP.o.act hB hg);have HN2:=qa (aR.keepG HN.o hg hgl);clear hB hg)
    |((with_reducible refine(q6U.o _ HP2.o.box).mono ?_);rintro e w3 ⟨rfl,hB,hg⟩;have HP3:=qa (HP2.o.act hB hg);have HN3:=qa (aR.keepG HN2.o hg hgl);clear hB hg)
    |((with_reducible refine(q7e.o _ HP3.o.box).mono ?_);rintro e w4 ⟨rfl,hB,hg⟩;have HP4:=qa (HP3.o.act hB hg);have HN4:=qa (aR.keepG HN3.o hg hgl);clear hB hg)
    |((with_reducible refine(HIY.o _ HP4.o.box).mono ?_);rintro e w5 ⟨rfl,hx⟩;have HP5:=qa (HP4.o.ext hx);have HN5:Hid (aR w5 w.heap.size _ l):=qa (d4.up HN4.o (aE hx));clear hx)
    |((with_reducible refine(qax.o _ HP5.o.box).mono ?_);rintro e w6 ⟨rfl,hB,hg⟩;have HP6:=qa (HP5.o.act hB hg);have HN6:=qa (aR.keepG HN5.o hg hgl);clear hB hg)
    |((with_reducible refine(HJ.o _ HN6.o).mono ?_);rintro e w7 ⟨v7,rfl,ho,hb⟩;have HN7:Hid (aR w7 w.heap.size v7 (f6 tn [l])):=qa (d4.mono ho (qc HP6.o.gr.size (aB w6 _).size));have HP7:=qa ((HP6.o.below (aB w6 _)).below hb);clear ho hb))
   go_roundg (f0+1)
   case measure=>omega
   case rel=>
    refine⟨f0,_,tz,rfl,HN7.o,HP7.o,htp,by omega,qa ?_⟩;by_cases htz:tz.e=0
    ·exact .inl ⟨htz,q96,by omega,by rw[hnk];omega⟩
    exact .inr ⟨htz,by rw[<-q96,I2 _ _ _ _ htz];exact htz,by rw[hnk];omega⟩
  have q6w:gE (bys s) 123 y=false:=by simpa using q6w
  rw[q6w]at HIY
  have HRE:Hid (R=(l,y)):=qa (by
   rw[<-hRL];rw[q02 (by decide)]at h42 h43 h63 q6w;unfold rD;simp only[of_decide_eq_false h42,of_decide_eq_false h43,of_decide_eq_false h63,of_decide_eq_false q6w,jr])
  clear hRL HY h42 h43 h63 q6w hnd
  go_wp2_with(first
   |((with_reducible refine(q6H.o _ HP.o.box).mono ?_);rintro e w2 ⟨rfl,hB,hg⟩;have HP2:=qa (HP.o.act hB hg);have HN2:=qa (aR.keepG HN.o hg hgl);clear hB hg)
   |((with_reducible refine(q6U.o _ HP2.o.box).mono ?_);rintro e w3 ⟨rfl,hB,hg⟩;have HP3:=qa (HP2.o.act hB hg);have HN3:=qa (aR.keepG HN2.o hg hgl);clear hB hg)
   |((with_reducible refine(q7e.o _ HP3.o.box).mono ?_);rintro e w4 ⟨rfl,hB,hg⟩;have HP4:=qa (HP3.o.act hB hg);have HN4:=qa (aR.keepG HN3.o hg hgl);clear hB hg)
   |((with_reducible refine(HIY.o _ HP4.o.box).mono ?_);rintro e w5 ⟨rfl,hx⟩;have HP5:=qa (HP4.o.ext hx);have HN5:Hid (aR w5 w.heap.size _ l):=qa (d4.up HN4.o (aE hx));clear hx))
  go_ret;exact⟨_,l,y,rfl,HN5.o,HP5.o,Al.same HRE.o hyl hyp,by omega⟩
theorem yA(k:Int)(ls:List (List Nd))(a b:Nat)(h:l6 ls+ls.length+2*a<=2*b+2)(hab:a<=b):(m3 k ls).length+2*a<=2*b+1:=by
 match ls,h with
 |[],_=>simp[m3,f6];omega
 |[l],h=>simp[l6]at h;simp[m3];omega
 |l1::l2::r,h=>
  have e:(m3 k (l1::l2::r)).length=l6 (l1::l2::r)+1:=E5 _ _;rw[e];simp only[qz]at h;omega
theorem q1o(s:dG)(alt:PS->List Nd×PS):∀(f:Nat) (l:List (List Nd)) (z:PS),z.e≠0->vH s alt f l z=(l,z)
 |0,_,_,_=>rfl
 |f+1,l,z,h=>by unfold vH inR;rw[xP h];rfl
theorem I3(s:dG)(alt:PS->List Nd×PS):∀(f:Nat) (l:List (List Nd)) (z:PS),z.e≠0->pP s alt f l z=(l,z)
 |0,_,_,_=>rfl
 |f+1,l,z,h=>by unfold pP;rw[m5 h];rfl
theorem q50{s:dG}{z:PS}(h0:z.e=0):inR s z=(decide (z.p<s.length)&&(!gE s 124 z&& !gE s 41 z)):=by
 unfold inR gE nxR;by_cases hp:z.p<s.length
 ·rw[qv ⟨h0,hp⟩,qy hp];simp
 rw[qu (fun h=>hp h.2),qw hp];rfl
theorem q5n{alt:PS->List Nd×PS}{w:World}{g lo:Nat}{s:ByteArray}{z:PS}(hA:q4i g s lo alt)(hlo:lo<=z.p)(hst:∀z,z.p<=(bys s).length->Stp (bys s) z (alt z).2)(hlen:∀z,z.p<=(bys s).length->(alt z).1.length+2*z.p<=2*(alt z).2.p+1)
  (h:cN w g s z) (hs:s.size<=1000000) (hz0:z.e=0) (hzp:z.p<=s.size):
  Calls prog 45 #[.pointer (some ⟨g,0,none⟩)] w (q1W (lN (bys s) alt z) g s z w):=by
 have hgl:=h.lt;have HP0:=qa (Qs.start h);obtain⟨L,hL⟩:∃L,L=vH (bys s) alt (s.size+1) [] z:=⟨_,rfl⟩;have hR:lN (bys s) alt z=(m3 3 L.1,L.2):=by unfold lN;rw[bH,<-hL]
 rw[hR];have HL:=qa hL.symm;have qc5:Hid (∀W y c,lo<=y.p->nxR (bys s) y=some c->cN W g s y->Calls prog 69 #[.pointer (some ⟨g,0,none⟩)] W (q1W (D9 (bys s) alt y) g s y W)):=qa (fun W y c hl hc h=>q5L hA hl hst hlen h hs hc);have HRS:=qa (fun(y:PS) (c:UInt8) (hc:nxR (bys s) y=some c)=>(vJ hst hc).2);have HRM:=qa (fun(y:PS) (c:UInt8) (hc:nxR (bys s) y=some c)=>(zH hlen hc).lt);have q8m:Hid (∀W y,cN W g s y->Calls prog 68 #[.pointer (some ⟨g,0,none⟩),.int .u8 124] W fun e w'=>e=.returned (.bool (gE (bys s) 124 y))/\∃x,w'=ext W x):=qa (fun W y h=>isQ h 124);have qaL:Hid (∀W y,cN W g s y->Calls prog 68 #[.pointer (some ⟨g,0,none⟩),.int .u8 41] W fun e w'=>e=.returned (.bool (gE (bys s) 41 y))/\∃x,w'=ext W x):=qa (fun W y h=>isQ h 41);have HM:Hid (∀W v (vs:List Value) (ls:List (List Nd)),w.heap.size<=W.heap.size->Own W w.heap.size 39 v vs->eV W w.heap.size vs ls->ls≠[]->l6 ls<=4000000->Calls prog 47 #[.int .i64 3,v] W (q4X w.heap.size (m3 3 ls) W)):=qa (fun W v vs ls hb ho hr hn hl=>q4h (k:=3) ho hr hb hn hl);have HNW:Hid (∀W:World,w.heap.size<=W.heap.size->aR (W.alloc (.cells #[.int .i64 2,.int .i64 0,.int .u64 0,.int .u64 0,.int .u64 0,.int .u64 0,.int .i64 0,.int .i64 0] 77)) w.heap.size (.slice (some ⟨W.heap.size,0,none⟩) 1 1) (m3 3 [])):=qa (fun W hb=>iX 8 W w.heap.size #[.int .i64 2,.int .i64 0,.int .u64 0,.int .u64 0,.int .u64 0,.int .u64 0,.int .i64 0,.int .i64 0] 77 [ndC (kN 2)] rfl (by intro y hy;simp at hy;subst hy;rfl) (by simp) hb);clear h hL hR hA;go_enter func45,ntmps45;go_wp2
 go_loopg [3] (s.size+2) (fun gk kv wr=>∃(f:Nat) (vs:List Value) (ls:List (List Nd)) (y:PS),gk=f+1/\Own wr w.heap.size 39 kv vs/\eV wr w.heap.size vs ls/\Qs w wr g s y/\y.p<=s.size/\z.p<=y.p/\Hid ((y.e=0/\vH (bys s) alt f ls y=L/\s.size+1<=f+y.p/\l6 ls+ls.length+2*z.p<=2*y.p)\/(y.e≠0/\L.2.e≠0/\ls≠[]/\l6 ls+ls.length+2*z.p<=2*y.p+2)))
 case atStart=>exact⟨s.size+1,[],[],z,rfl,Own.nil _ _ _,eV.nil _ _,HP0.o,hzp,qb _,qa (.inl ⟨hz0,HL.o,by omega,by simp[l6]⟩)⟩
 case round=>
  clear HP0 HL;obtain⟨f,vs,ls,y,hgk,hO,hRW,hP,hyp,hyl,HY⟩:=hrel;have HO:=qa hO;have HP:=qa hP;have HRW:=qa hRW;have q6K:=hRW.1;clear hO hP hRW;obtain⟨oa,cap,b0,off0,hv,-,-⟩:=HO.o.sl;rw[q6K]at hv;subst hv;have c2:=HP.o.box.c2;have c1:=HP.o.box.c1;have c0:=HP.o.box.c0;have hgw:=HP.o.box.lt;rcases HY.o with⟨h0,hCL,hf,hsb⟩|⟨h0,hLb,hne,hsb⟩;rotate_left 1
  ·have he':((y.e:Int)==0)=false:=by simpa using h0
   have q61:=qa (fun W h=>q8m.o W y h);have q6h:=qa (fun W h=>qaL.o W y h);go_wp2;refine bL (by kernel_rfl) (by kernel_rfl) ?_
   repeat(go_big_quiet_step ((go_at_call 68;first|(with_reducible exact cC (q61.o _ (HP.o.box.up (aC _ _))))|(with_reducible exact cC (q6h.o _ (HP.o.box.up (aC _ _)))))))
   refine wpQuiet_nil ?_;intro w1 hw1;have HP1:=qa (HP.o.ext hw1);have HO1:=qa (HO.o.up (aE hw1));have HR1:Hid (eV w1 w.heap.size vs ls):=qa (HRW.o.all (fun v l h=>d4.up h (aE hw1)));clear hw1 c0 c1 c2 hgw;have HAL:Hid (Al s.size z (m3 3 L.1,L.2) (m3 3 ls) y):=qa (Al.fault _ hLb h0 hyl hyp);have HBD:=qa (yA 3 ls z.p y.p hsb hyl);have HSL:Hid (l6 ls<=4000000):=qa (by omega);have hn0:¬ls.length=0:=fun e=>hne (List.length_eq_zero_iff.1 e);have q8R:((ls.length:Int)==0)=false:=by simpa using hn0
   have HMY:=qa (fun W h1 h2 h3=>HM.o W (.slice oa ls.length cap) vs ls h1 h2 h3 hne HSL.o)
   go_wp2_with(first
    |((with_reducible refine(HMY.o _ HP1.o.gr.size HO1.o HR1.o).mono ?_);rintro e w7 ⟨v7,rfl,ho,hb⟩;have HN7:=qa ho;have HP7:=qa (HP1.o.below hb);clear ho hb))
   go_ret;exact⟨v7,_,y,rfl,HN7.o,HP7.o,HAL.o,HBD.o⟩
  have he':((y.e:Int)==0)=true:=by rw[h0];rfl
  obtain⟨f0,rfl⟩:∃f0,f=f0+1:=⟨f-1,by omega⟩;have hin:=q50 (s:=bys s) h0;rw[bH]at hin;have qam:(if inR (bys s) y then vH (bys s) alt f0 (ls++[(D9 (bys s) alt y).1]) (D9 (bys s) alt y).2 else(ls,y))=L:=by rw[<-hCL,vH]
  have HCL:=qa qam;have q61:=qa (fun W h=>q8m.o W y h);have q6h:=qa (fun W h=>qaL.o W y h);clear hCL qam;by_cases hp:y.p<s.size;rotate_left 1
  ·have HLX:Hid (L=(ls,y)):=qa (by rw[<-HCL.o,hin,qw hp];rfl)
   have hpd:decide ((y.p:Int)<(s.size:Int))=false:=qw (by omega);clear hin HCL;go_wp2;refine bL (by kernel_rfl) (by kernel_rfl) ?_
   exact ZmK0
  rw[qy hp,j5]at hin;have hpi:(y.p:Int)<(s.size:Int):=by omega
  cases h124:gE (bys s) 124 y with
  |true=>
   have HLX:Hid (L=(ls,y)):=qa (by rw[<-HCL.o,hin,h124];rfl);rw[h124]at q61;clear hin HCL h124;go_wp2;refine bL (by kernel_rfl) (by kernel_rfl) ?_
   exact ZmK0
  |false=>
   rw[h124]at q61;cases h41:gE (bys s) 41 y with
   |true=>
    have HLX:Hid (L=(ls,y)):=qa (by rw[<-HCL.o,hin,h41,h124];rfl);rw[h41]at q6h;clear hin HCL h124 h41;go_wp2;refine bL (by kernel_rfl) (by kernel_rfl) ?_
    exact ZmK0
   |false=>
    rw[h41]at q6h;rw[h124,h41]at hin;have hcn:=HCL.o;rw[hin]at hcn;have HCN:Hid (vH (bys s) alt f0 (ls++[(D9 (bys s) alt y).1]) (D9 (bys s) alt y).2=L):=qa hcn;have hnx:nxR (bys s) y=some ((bys s).getD y.p 0):=by unfold nxR;rw[qv ⟨h0,by rw[bH];exact hp⟩]
    have HRY:=qa (fun W h=>qc5.o W y _ (by omega) hnx h);have qc2:=qa (HRS.o y _ hnx);have qc4:=qa (HRM.o y _ hnx);have hvl:vs.length<=2000000:=by rw[q6K];omega
    clear hin hcn HCL h124 h41 hnx;go_wp2;refine bL (by kernel_rfl) (by kernel_rfl) ?_
    repeat(go_big_quiet_step ((go_at_call 68;first|(with_reducible exact cC (q61.o _ (HP.o.box.up (aC _ _))))|(with_reducible exact cC (q6h.o _ (HP.o.box.up (aC _ _)))))))
    refine wpQuiet_nil ?_;intro w1 hw1;have HP1:=qa (HP.o.ext hw1);have HO1:=qa (HO.o.up (aE hw1));have HR1:Hid (eV w1 w.heap.size vs ls):=qa (HRW.o.all (fun v l h=>d4.up h (aE hw1)));clear hw1 c0 c1 c2 hgw
    go_wp2_with(first
     |((with_reducible refine((HRY.o _ HP1.o.box).mono ?_));rintro e w2 ⟨v2,pl,z2,rfl,ho,hQ,hAl,hle⟩;have HN2:Hid (aR w2 w.heap.size v2 pl):=qa (d4.mono ho HP1.o.gr.size);have HP2:=qa (HP1.o.act hQ.box hQ.gr);have HO2:=qa (HO1.o.keep hQ.gr (q4a hgl HO1.o));have HR2:Hid (eV w2 w.heap.size vs ls):=qa (HR1.o.all (fun v l h=>aR.keepG h hQ.gr hgl));have HAL:=qa hAl;have HLE:=qa hle;clear ho hQ hAl hle;obtain⟨oa2,cap2,hv2⟩:=aR.slice HN2.o;subst hv2;have hba:=aB w2 (.cells #[.slice oa2 pl.length cap2] 39);have HX3:Hid (Sl (w2.alloc (.cells #[.slice oa2 pl.length cap2] 39)) (.slice (some ⟨w2.heap.size,0,none⟩) 1 1) [.slice oa2 pl.length cap2]):=qa (by simpa using fZ w2 #[.slice oa2 pl.length cap2] 39 (by simp));have HO3:=qa (HO2.o.up hba);have HP3:=qa (HP2.o.below hba);have HR3:Hid (eV (w2.alloc (.cells #[.slice oa2 pl.length cap2] 39)) w.heap.size (vs++[.slice oa2 pl.length cap2]) (ls++[pl])):=qa ((HR2.o.snoc HN2.o).all (fun v l h=>d4.up h hba));have HLEN:Hid (vs.length+[Value.slice oa2 pl.length cap2].length<=4294967296):=qa (by simp;omega);clear hba)
     |(at_builtin;refine bU rfl (.tmp 31) (.tmp 34) 22 rfl w.heap.size 39 (.slice none 0 0) 24 underlying22 (by kernel_rfl) rfl (by decide) _ vs rfl HO3.o (.slice (some ⟨w2.heap.size,0,none⟩) 1 1) [.slice oa2 pl.length cap2] rfl HX3.o (by intro u hu;simp only[jf]at hu;subst hu;rfl) HLEN.o HP3.o.gr.size ?_;intro v' w5 hown1 hg1 hk1;have HO5:=qa hown1;have HP5:=qa (HP3.o.far hg1 (fun q e=>(HO3.o.lt q e).1));have HR5:Hid (eV w5 w.heap.size (vs++[.slice oa2 pl.length cap2]) (ls++[pl])):=qa (HR3.o.all (fun v l h=>d4.keep h hg1 (y9 HO3.o h (by decide))));clear hown1 hg1 hk1))
    have h2l:=HAL.o.le;have h2p:=HAL.o.top;have hle:=HLE.o
    go_roundg (f0+1)
    case measure=>omega
    case rel=>
     refine⟨f0,_,_,z2,rfl,HO5.o,HR5.o,HP5.o,h2p,by omega,qa ?_⟩;by_cases hz2:z2.e=0
     ·obtain⟨e1,e2,e3⟩:=HAL.o.good hz2
      have h5:=qc2.o.resolve_left (fun h=>h e3);have h6:=qc4.o.resolve_right (fun h=>h.2 e3);rw[<-e1]at h5;rw[<-e1,<-e2]at h6;exact .inl ⟨hz2,by rw[e1,e2];exact HCN.o,by omega,by rw[lO,qj,qD];omega⟩
     have hw:=HAL.o.worse hz2;exact .inr ⟨hz2,by rw[<-HCN.o,q1o _ _ _ _ _ hw];exact hw,by simp,by rw[lO,qj,qD];omega⟩
theorem q4j{alt:PS->List Nd×PS}{w:World}{g lo:Nat}{s:ByteArray}{z:PS}(hA:q4i g s lo alt)(hlo:lo<=z.p)(hst:∀z,z.p<=(bys s).length->Stp (bys s) z (alt z).2)(hlen:∀z,z.p<=(bys s).length->(alt z).1.length+2*z.p<=2*(alt z).2.p+1)
  (h:cN w g s z) (hs:s.size<=1000000) (hz0:z.e=0) (hzp:z.p<=s.size):
  Calls prog 29 #[.pointer (some ⟨g,0,none⟩)] w (q1W (m3 4 (pP (bys s) alt ((bys s).length+1) [(lN (bys s) alt z).1] (lN (bys s) alt z).2).1,(pP (bys s) alt ((bys s).length+1) [(lN (bys s) alt z).1] (lN (bys s) alt z).2).2) g s z w):=by
 have hgl:=h.lt;have HP0:=qa (Qs.start h);have HCA:=qa (q5n hA hlo hst hlen h hs hz0 hzp);obtain⟨L,hL⟩:∃L,L=pP (bys s) alt (s.size+1) [(lN (bys s) alt z).1] (lN (bys s) alt z).2:=⟨_,rfl⟩;rw[bH,<-hL];have HL:=qa hL.symm;have qcp:Hid (∀W y,lo<=y.p->y.e=0->y.p<=s.size->cN W g s y->Calls prog 45 #[.pointer (some ⟨g,0,none⟩)] W (q1W (lN (bys s) alt y) g s y W)):=qa (fun W y hl h0 hp h=>q5n hA hl hst hlen h hs h0 hp);have q9e:Hid (∀W y,cN W g s y->Calls prog 46 #[.pointer (some ⟨g,0,none⟩),.int .u8 124] W (m8 (.bool (b7 (bys s) 124 y).1) g s (b7 (bys s) 124 y).2 W)):=qa (fun W y h=>oX h hs 124);have HM:Hid (∀W v (vs:List Value) (ls:List (List Nd)),w.heap.size<=W.heap.size->Own W w.heap.size 39 v vs->eV W w.heap.size vs ls->ls≠[]->l6 ls<=4000000->Calls prog 47 #[.int .i64 4,v] W (q4X w.heap.size (m3 4 ls) W)):=qa (fun W v vs ls hb ho hr hn hl=>q4h (k:=4) ho hr hb hn hl);generalize lN (bys s) alt z=C0 at*;clear h hL hA;go_enter func29,ntmps29
 go_wp2_with((with_reducible refine(HCA.o).mono ?_);rintro e w1 ⟨v1,l1,z1,rfl,ho,hQ,hAl,hle⟩;have HN1:Hid (aR w1 w.heap.size v1 l1):=qa ho;have HP1:=qa hQ;have HAL:=qa hAl;have HLE:=qa hle;clear ho hQ hAl hle;obtain⟨oa1,cap1,hv1⟩:=aR.slice HN1.o;subst hv1)
 have hba:=aB w1 (.cells #[.slice oa1 l1.length cap1] 39);have HO1:Hid (Own (w1.alloc (.cells #[.slice oa1 l1.length cap1] 39)) w.heap.size 39 (.slice (some ⟨w1.heap.size,0,none⟩) 1 1) [.slice oa1 l1.length cap1]):=qa (by simpa using cX w1 w.heap.size #[.slice oa1 l1.length cap1] 39 (by simp) HP1.o.gr.size);have HP2:=qa (HP1.o.below hba);have HR2:Hid (eV (w1.alloc (.cells #[.slice oa1 l1.length cap1] 39)) w.heap.size [.slice oa1 l1.length cap1] [l1]):=qa (((eV.nil w1 w.heap.size).snoc HN1.o).all (fun v l h=>d4.up h hba));have h1l:=HAL.o.le;have h1p:=HAL.o.top;have h1n:=HLE.o
 have q6c:(z1.e=0/\pP (bys s) alt (s.size+1) [l1] z1=L/\s.size+1<=s.size+1+z1.p)\/(z1.e≠0/\L.2.e≠0):=by
  by_cases hz1:z1.e=0
  ·obtain⟨e1,e2,-⟩:=HAL.o.good hz1
   exact .inl ⟨hz1,by rw[e1,e2];exact HL.o,by omega⟩
  have hw:=HAL.o.worse hz1;exact .inr ⟨hz1,by rw[<-HL.o,I3 _ _ _ _ _ hw];exact hw⟩
 have HST:=qa q6c;clear q6c HL HAL HLE HCA HN1 HP1 hba;generalize w1.alloc (.cells #[.slice oa1 l1.length cap1] 39)=w2 at*;generalize Value.slice (some ⟨w1.heap.size,0,none⟩) 1 1=kv1 at*
 go_loopg [3] (s.size+2) (fun gk kv wr=>∃(f:Nat) (vs:List Value) (ls:List (List Nd)) (y:PS),gk=f+1/\Own wr w.heap.size 39 kv vs/\eV wr w.heap.size vs ls/\Qs w wr g s y/\y.p<=s.size/\z.p<=y.p/\ls≠[]/\l6 ls+ls.length+2*z.p<=2*y.p+2/\Hid ((y.e=0/\pP (bys s) alt f ls y=L/\s.size+1<=f+y.p)\/(y.e≠0/\L.2.e≠0)))
 case atStart=>exact⟨s.size+1,_,[l1],z1,rfl,HO1.o,HR2.o,HP2.o,h1p,h1l,by simp,by simp[l6];omega,HST⟩
 case round=>
  clear HP0 HO1 HR2 HP2 HST h1l h1p h1n;obtain⟨f,vs,ls,y,hgk,hO,hRW,hP,hyp,hyl,hne,hsb,HY⟩:=hrel;have HO:=qa hO;have HP:=qa hP;have HRW:=qa hRW;have q6K:=hRW.1;clear hO hP hRW;obtain⟨oa,cap,b0,off0,hv,-,-⟩:=HO.o.sl;rw[q6K]at hv;subst hv;have HTY:=qa (fun W h=>q9e.o W y h);have HBD:=qa (yA 4 ls z.p y.p hsb hyl);have HSL:Hid (l6 ls<=4000000):=qa (by omega);have HMY:=qa (fun W h1 h2 h3=>HM.o W (.slice oa ls.length cap) vs ls h1 h2 h3 hne HSL.o);rcases HY.o with⟨h0,hCL,hf⟩|⟨h0,hLb⟩;rotate_left 1
  ·rw[m5 h0]at HTY
   have HAL:Hid (Al s.size z (m3 4 L.1,L.2) (m3 4 ls) y):=qa (Al.fault _ hLb h0 hyl hyp)
   exact ZmK3
  obtain⟨f0,rfl⟩:∃f0,f=f0+1:=⟨f-1,by omega⟩;rw[pP,fL]at hCL;cases hi:gE (bys s) 124 y with
  |false=>
   rw[hi]at hCL;rw[lR hi]at HTY;have HAL:Hid (Al s.size z (m3 4 L.1,L.2) (m3 4 ls) y):=qa (Al.same (by rw[<-hCL];rfl) hyl hyp);clear hCL hi
   exact ZmK3
  |true=>
   rw[hi]at hCL;rw[i8 hi]at HTY;have hlt:=(iG hi).2.1;rw[bH]at hlt;have HCN:Hid (pP (bys s) alt f0 (ls++[(lN (bys s) alt (bA y)).1]) (lN (bys s) alt (bA y)).2=L):=qa hCL;have HCY:=qa (fun W h=>qcp.o W (bA y) (by show lo<=y.p+1;omega) h0 hlt h);have hvl:vs.length<=2000000:=by rw[q6K];omega
   clear hCL hi
   go_wp2_with(first
    |((with_reducible refine(HTY.o _ HP.o.box).mono ?_);rintro e w1 ⟨rfl,hB,hg⟩;have HP1:=qa (HP.o.act hB hg);have HO1:=qa (HO.o.keep hg (q4a hgl HO.o));have HR1:Hid (eV w1 w.heap.size vs ls):=qa (HRW.o.all (fun v l h=>aR.keepG h hg hgl));clear hB hg)
    |((with_reducible refine((HCY.o _ HP1.o.box).mono ?_));rintro e w2 ⟨v2,pl,z2,rfl,ho,hQ,hAl,hle⟩;have HN2:Hid (aR w2 w.heap.size v2 pl):=qa (d4.mono ho HP1.o.gr.size);have HP2:=qa (HP1.o.act hQ.box hQ.gr);have HO2:=qa (HO1.o.keep hQ.gr (q4a hgl HO1.o));have HR2:Hid (eV w2 w.heap.size vs ls):=qa (HR1.o.all (fun v l h=>aR.keepG h hQ.gr hgl));have HAL:=qa hAl;have HLE:=qa hle;clear ho hQ hAl hle;obtain⟨oa2,cap2,hv2⟩:=aR.slice HN2.o;subst hv2;have hba:=aB w2 (.cells #[.slice oa2 pl.length cap2] 39);have HX3:Hid (Sl (w2.alloc (.cells #[.slice oa2 pl.length cap2] 39)) (.slice (some ⟨w2.heap.size,0,none⟩) 1 1) [.slice oa2 pl.length cap2]):=qa (by simpa using fZ w2 #[.slice oa2 pl.length cap2] 39 (by simp));have HO3:=qa (HO2.o.up hba);have HP3:=qa (HP2.o.below hba);have HR3:Hid (eV (w2.alloc (.cells #[.slice oa2 pl.length cap2] 39)) w.heap.size (vs++[.slice oa2 pl.length cap2]) (ls++[pl])):=qa ((HR2.o.snoc HN2.o).all (fun v l h=>d4.up h hba));have HLEN:Hid (vs.length+[Value.slice oa2 pl.length cap2].length<=4294967296):=qa (by simp;omega);clear hba)
    |(at_builtin;refine bU rfl (.tmp 9) (.tmp 12) 22 rfl w.heap.size 39 (.slice none 0 0) 24 underlying22 (by kernel_rfl) rfl (by decide) _ vs rfl HO3.o (.slice (some ⟨w2.heap.size,0,none⟩) 1 1) [.slice oa2 pl.length cap2] rfl HX3.o (by intro u hu;simp only[jf]at hu;subst hu;rfl) HLEN.o HP3.o.gr.size ?_;intro v' w5 hown1 hg1 hk1;have HO5:=qa hown1;have HP5:=qa (HP3.o.far hg1 (fun q e=>(HO3.o.lt q e).1));have HR5:Hid (eV w5 w.heap.size (vs++[.slice oa2 pl.length cap2]) (ls++[pl])):=qa (HR3.o.all (fun v l h=>d4.keep h hg1 (y9 HO3.o h (by decide))));clear hown1 hg1 hk1))
   have h2l:y.p+1<=z2.p:=HAL.o.le;have h2p:=HAL.o.top;have hle:pl.length+2*(y.p+1)<=2*z2.p+1:=HLE.o
   go_roundg (f0+1)
   case measure=>omega
   case rel=>
    refine⟨f0,_,_,z2,rfl,HO5.o,HR5.o,HP5.o,h2p,by omega,by simp,by rw[lO,qj,qD];omega,qa ?_⟩;by_cases hz2:z2.e=0
    ·obtain⟨e1,e2,-⟩:=HAL.o.good hz2
     exact .inl ⟨hz2,by rw[e1,e2];exact HCN.o,by omega⟩
    have hw:=HAL.o.worse hz2;exact .inr ⟨hz2,by rw[<-HCN.o,I3 _ _ _ _ _ hw];exact hw⟩
theorem q5o(g:Nat)(s:ByteArray)(hs:s.size<=1000000):∀f lo,s.size<=f+lo->q4i g s lo (mP (bys s) f)
 |0,lo,hf=>fun W z h h0 hl hz=>absurd hl (by omega)
 |f+1,lo,hf=>fun W z h h0 hl hz=>q4j (lo:=lo+1) (q5o g s hs f (lo+1) (by omega)) hl (fun z _=>sM (bys s) f z) (fun z _=>zI (bys s) f z) h hs h0 hz
def q2Y(y:List Nd×Nat×Nat)(w:World)(e:Ending)(w':World):Prop:=∃(v:Value) (c b:Nat),e=.returned (.tuple #[v,.int .i64 c,.int .i64 b])/\aR w' w.heap.size v y.1/\Below w.heap.size w w'/\(c=0↔y.2.1=0)
theorem q1X{s:ByteArray}{w:World}:Calls prog 13 #[.string s] w (q2Y (q0O (bys s)) w):=by
 obtain⟨R,hR⟩:∃R,R=q0O (bys s):=⟨_,rfl⟩;rw[<-hR];unfold q0O at hR;rw[bH]at hR;by_cases q82:512<s.size
 ·rw[qv q82]at hR
  have HR:=qa hR;clear hR;have hb:(s.size:Int)>512:=by omega
  go_enter func13,ntmps13;go_wp2;refine bodyPost_ret (v:=.tuple #[.slice none 0 0,.int .i64 3,.int .i64 512]) (by simp[results,results13,go_sem]) rfl ?_;rw[HR.o];exact⟨_,3,512,rfl,d4.nil 8 w w.heap.size 77,qn _ _,by simp⟩
 rw[qu q82]at hR;have hb:¬(s.size:Int)>512:=by omega
 have hs:s.size<=1000000:=by omega
 obtain⟨w1,hw1⟩:∃w1,w1=w.alloc (.cells #[.string s,.int .i64 0,.int .i64 0,.int .i64 0] 81):=⟨_,rfl⟩;have hb1:Below w.heap.size w w1:=by rw[hw1];exact aB w _
 have hs1:w1.heap.size=w.heap.size+1:=by rw[hw1];simp
 have hB1:cN w1 w.heap.size s ⟨0,0,0⟩:=⟨by
  rw[hw1];simpa using cX w w.heap.size #[.string s,.int .i64 0,.int .i64 0,.int .i64 0] 81 (by simp) (qb _)⟩
 have HA:=q4j (lo:=0) (q5o w.heap.size s hs s.size 0 (by omega)) (qb _) (fun z _=>sM (bys s) s.size z) (fun z _=>zI (bys s) s.size z) hB1 hs rfl (qd _);rw[show(m3 4 (pP (bys s) (mP (bys s) s.size) ((bys s).length+1) [(lN (bys s) (mP (bys s) s.size) ⟨0,0,0⟩).1] (lN (bys s) (mP (bys s) s.size) ⟨0,0,0⟩).2).1,(pP (bys s) (mP (bys s) s.size) ((bys s).length+1) [(lN (bys s) (mP (bys s) s.size) ⟨0,0,0⟩).1] (lN (bys s) (mP (bys s) s.size) ⟨0,0,0⟩).2).2)=mP (bys s) (s.size+1) ⟨0,0,0⟩from rfl]at HA;have HA:=qa HA;clear hB1;generalize mP (bys s) (s.size+1) ⟨0,0,0⟩=A at*;have HF:Hid (∀W z,cN W w.heap.size s z->Calls prog 30 #[.pointer (some ⟨w.heap.size,0,none⟩),.int .i64 15,.int .i64 z.p] W (m8 (.tuple #[]) w.heap.size s (b9 15 z.p z) W)):=qa (fun W z h=>vY h 15 z.p);have HW1:=qa hw1;rw[hw1]at HA;have HB1:=qa hb1;have HS1:=qa hs1;clear q82 hw1 hb1 hs1;go_enter func13,ntmps13
 go_upto_region 5 with((with_reducible refine(HA.o).mono ?_);rintro e w2 ⟨v,l,z,rfl,ho,hQ,hAl,hle⟩;rw[<-HW1.o]at ho hQ;have HO2:Hid (aR w2 (w.heap.size+1) v l):=qa (d4.mono ho (by rw[HS1.o];exact qb _));have HP2:=qa hQ.box;have HG2:=qa (HB1.o.grown hQ.gr (HB1.o.size) (fun k e=>by have:=qp e;omega));have HAL:=qa hAl;have HLE:=qa hle;obtain⟨oa,cap,hv⟩:=aR.slice HO2.o;subst hv;clear ho hQ hAl hle)
 have c1:=HP2.o.c1;have c2:=HP2.o.c2;have c3:=HP2.o.c3;have hzt:=HAL.o.top;have hll:=HLE.o;have hl2:l.length<=2000:=by simp at hll;omega
 obtain⟨z2,hz2⟩:∃z2,z2=if z.p<s.size then b9 15 z.p z else z:=⟨_,rfl⟩
 have hRz:R.2.1=0↔(z2.e=0/\l.length<=400):=by
  by_cases he:z.e=0
  ·obtain⟨e1,e2,-⟩:=HAL.o.good he
   have hnx:nxR (bys s) z=if z.p<s.size then some ((bys s).getD z.p 0)else none:=by unfold nxR;rw[bH];simp only[he,true_and]
   have hzz:(if(nxR (bys s) A.2).isSome then b9 15 A.2.p A.2 else A.2)=z2:=by
    rw[<-e1,hnx,hz2];split<;>rfl
   try simp only at hR
   rw[hzz,<-e2]at hR;rw[hR];by_cases h1:z2.e=0
   ·rw[qu (fun h=>h h1)]
    by_cases h2:400<l.length
    ·rw[qv h2];simp;omega
    rw[qu h2];simp;omega
   rw[qv h1];simp[h1]
  have hw:=HAL.o.worse he;have hzz:(if(nxR (bys s) A.2).isSome then b9 15 A.2.p A.2 else A.2)=A.2:=by rw[xP hw];rfl
  try simp only at hR
  rw[hzz,qv hw]at hR
  have h1:z2.e≠0:=by
   rw[hz2];split
   ·rw[oT he];exact he
   exact he
  rw[hR];simp[hw,h1]
 have hRl:R.1=if z2.e=0/\l.length<=400 then l else []:=by
  by_cases he:z.e=0
  ·obtain⟨e1,e2,-⟩:=HAL.o.good he
   have hnx:nxR (bys s) z=if z.p<s.size then some ((bys s).getD z.p 0)else none:=by unfold nxR;rw[bH];simp only[he,true_and]
   have hzz:(if(nxR (bys s) A.2).isSome then b9 15 A.2.p A.2 else A.2)=z2:=by
    rw[<-e1,hnx,hz2];split<;>rfl
   try simp only at hR
   rw[hzz,<-e2]at hR;rw[hR];by_cases h1:z2.e=0
   ·rw[qu (fun h=>h h1)]
    by_cases h2:400<l.length
    ·rw[qv h2,qu (by omega)]
    rw[qu h2,qv ⟨h1,by omega⟩]
   rw[qv h1,qu (fun h=>h1 h.1)]
  have hw:=HAL.o.worse he;have hzz:(if(nxR (bys s) A.2).isSome then b9 15 A.2.p A.2 else A.2)=A.2:=by rw[xP hw];rfl
  try simp only at hR
  rw[hzz,qv hw]at hR
  have h1:z2.e≠0:=by
   rw[hz2];split
   ·rw[oT he];exact he
   exact he
  rw[hR,qu (fun h=>h1 h.1)]
 have HRZ:=qa hRz;have HRL:=qa hRl;clear hR hRz hRl
 go_upto_if 21 with(fail)
 go_cut [] (fun wx=>cN wx w.heap.size s z2/\aR wx (w.heap.size+1) (.slice oa l.length cap) l/\Below w.heap.size w wx)
 case first=>
  by_cases hp:z.p<s.size
  ·have hpi:(z.p:Int)<(s.size:Int):=by omega
   rw[qv hp]at hz2;have HZ:=qa hz2;clear hz2
   go_wp2_with((with_reducible refine(HF.o _ _ HP2.o).mono ?_);rintro e w4 ⟨rfl,hB,hg⟩;have HP4:=qa hB;have HG4:=qa (HG2.o.grown hg (HG2.o.size) (fun k e=>by have:=qp e;omega));have HO4:Hid (aR w4 (w.heap.size+1) (.slice oa l.length cap) l):=qa (aR.keepG HO2.o hg (qU _));clear hB hg)
   go_meet
   case rel=>rw[HZ.o];exact⟨HP4.o,HO4.o,HG4.o⟩
  have hpi:¬(z.p:Int)<(s.size:Int):=by omega
  have hpd:decide ((z.p:Int)<(s.size:Int))=false:=qw hpi;rw[qu hp]at hz2;have HZ:=qa hz2;clear hz2;go_wp2
  go_meet
  case rel=>rw[HZ.o];exact⟨HP2.o,HO2.o,HG2.o⟩
 case rest=>
  have HC:=qa hcut;have d2:=HC.o.1.c2;have d3:=HC.o.1.c3;clear hcut hz2 c1 c2 c3;by_cases he:z2.e=0
  ·have heb:((z2.e:Int) != 0)=false:=by rw[he];rfl
   by_cases hl4:400<l.length
   ·have hbi:(l.length:Int)>400:=by omega
    go_wp2;refine bodyPost_ret (v:=.tuple #[.slice none 0 0,.int .i64 3,.int .i64 0]) (by simp[results,results13,go_sem]) rfl ?_;exact⟨_,3,0,rfl,by rw[HRL.o,qu (by omega)];exact d4.nil 8 wc w.heap.size 77,HC.o.2.2,by rw[HRZ.o];simp;omega⟩
   have hbi:¬(l.length:Int)>400:=by omega
   go_wp2;refine bodyPost_ret (v:=.tuple #[.slice oa l.length cap,.int .i64 0,.int .i64 0]) (by simp[results,results13,go_sem]) rfl ?_;exact⟨_,0,0,rfl,by rw[HRL.o,qv ⟨he,by omega⟩];exact d4.mono HC.o.2.1 (jc _),HC.o.2.2,by rw[HRZ.o];simp;omega⟩
  have heb:((z2.e:Int) != 0)=true:=by simpa using he
  go_wp2
  go_quiet (fail)
  go_wp2;refine bodyPost_ret (v:=.tuple #[.slice none 0 0,.int .i64 z2.e,.int .i64 z2.b]) (by simp[results,results13,go_sem]) rfl ?_;exact⟨_,z2.e,z2.b,rfl,by rw[HRL.o,qu (fun h=>he h.1)];exact d4.nil 8 _ w.heap.size 77,HC.o.2.2.trans ((aW _ _).mono HC.o.2.2.size),by rw[HRZ.o];simp[he]⟩
end Go.Cm
