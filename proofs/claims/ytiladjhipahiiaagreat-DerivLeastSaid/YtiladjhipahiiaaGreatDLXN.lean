/- Walks of functions and plain facts, joined and squeezed by a program. Conditions: as each says. -/
import Derived.Test.YtiladjhipahiiaaGreatDLXK
set_option maxHeartbeats 8000000
set_option maxRecDepth 100000
set_option linter.unusedSimpArgs false
open Go.Proofs.Tryz
namespace Go.Cm
open Go.RowKit Go.Proofs
theorem ZmN0{P:Prop}(h:P:=by
 (unfold aZ;simp only[pk])
 refine⟨?_,by exact True.intro⟩;unfold aF
 go_wp2_with(first|((with_reducible refine(HCR.o _ _ (HS.o.old HAW.o HTR.o)).mono ?_);rintro e w5 ⟨u2,rfl,hT,hb⟩;have HD2:=qa (HS.o.res hT);have HD1:=qa (HD1.o.up hb);have HS:=qa (HS.o.up hb);clear hT hb))
 refine⟨aJ HS.o.bel,?_⟩;unfold aF
 (unfold aZ;simp only[pk])
 refine⟨?_,by exact True.intro⟩;unfold aF;obtain⟨p1,n1,q1,hu1,-⟩:=HD1.o.form;obtain⟨p2,n2,q2,hu2,-⟩:=HD2.o.form;subst hu1;subst hu2;have HTW:Hid (bA (UA A0 w.heap.size (some gb)) (w5.alloc (.cells #[.int .i64 dk,.int .u64 da,.int .u64 db,.int .u64 dc,.int .u64 dd,.int .i64 dl,.int .i64 dh,.slice p1 n1 q1,.int .i64 ek,.int .u64 ea,.int .u64 eb,.int .u64 ec,.int .u64 ed,.int .i64 el,.int .i64 eh,.slice p2 n2 q2] 55)) (.slice (some ⟨w5.heap.size,0,none⟩) 2 2) (one (⟨dk,dn,da,db,dc,dd,dl,dh⟩,df) (one (⟨ek,en,ea,eb,ec,ed,el,eh⟩,ef) .nil))):=qa (HS.o.two (x:=⟨dk,dn,da,db,dc,dd,dl,dh⟩) (y:=⟨ek,en,ea,eb,ec,ed,el,eh⟩) HD1.o HD2.o);have HS:Hid (RwS w1 (w5.alloc (.cells #[.int .i64 dk,.int .u64 da,.int .u64 db,.int .u64 dc,.int .u64 dd,.int .i64 dl,.int .i64 dh,.slice p1 n1 q1,.int .i64 ek,.int .u64 ea,.int .u64 eb,.int .u64 ec,.int .u64 ed,.int .i64 el,.int .i64 eh,.slice p2 n2 q2] 55)) w.heap.size (some gb)):=qa (HS.o.up (aD _ _));go_wp2;refine⟨aJ HS.o.bel,?_⟩;generalize w5.alloc (.cells #[.int .i64 dk,.int .u64 da,.int .u64 db,.int .u64 dc,.int .u64 dd,.int .i64 dl,.int .i64 dh,.slice p1 n1 q1,.int .i64 ek,.int .u64 ea,.int .u64 eb,.int .u64 ec,.int .u64 ed,.int .i64 el,.int .i64 eh,.slice p2 n2 q2] 55)=w8 at*;unfold aF
 (unfold aZ;simp only[pk])
 refine⟨?_,by exact True.intro⟩;unfold aF
 go_wp2_with(first|((with_reducible refine(HCC.o _ _ _ HTW.o).mono ?_);rintro e w6 ⟨u3,rfl,hT,hb⟩;have HE:=qa (HS.o.res hT);have HS:=qa (HS.o.up hb);clear hT hb))
 refine⟨aJ HS.o.bel,?_⟩;unfold aF
 (unfold aZ;simp only[pk])
 refine⟨?_,by exact True.intro⟩;unfold aF
 go_wp2_with(first|(refine bT rfl (.tmp 5) (.tmp 19) rfl gb rfl ⟨fk,fn,fa,fb,fc,fd,fl,fh⟩ u3 HE.o.one rfl _ (HS.o.gb gb rfl).2.2 (show(8:Nat)=8 from rfl) ?_;intro w9 hbx hg;have HX9:=qa hbx;have HG9:=qa hg;clear hbx hg))
 have hend:=q0g HS.o HE.o HG9.o HX9.o;refine⟨aJ hend.1,?_⟩;unfold aF;unfold aZ;intro hz1 hz2;go_wp2
 go_meet
 case rel=>exact⟨gb,u3,rfl,HGL.o,HX9.o,hend.2.1,hend.2.2.1,hend.2.2.2⟩):P:=h
theorem ZmN1{P:Prop}(h:P:=by
 (unfold aZ;simp only[pk])
 refine⟨?_,by exact True.intro⟩;unfold aF
 go_wp2_with(first|((with_reducible refine(HCC.o _ _ _ HTW.o).mono ?_);rintro e w6 ⟨u3,rfl,hT,hb⟩;have HE:=qa (HS.o.res hT);have HS:=qa (HS.o.up hb);clear hT hb))
 refine⟨aJ HS.o.bel,?_⟩;unfold aF
 (unfold aZ;simp only[pk])
 refine⟨?_,by exact True.intro⟩;unfold aF
 go_wp2_with(first|(refine bT rfl (.tmp 5) (.tmp 19) rfl gb rfl ⟨fk,fn,fa,fb,fc,fd,fl,fh⟩ u3 HE.o.one rfl _ (HS.o.gb gb rfl).2.2 (show(8:Nat)=8 from rfl) ?_;intro w9 hbx hg;have HX9:=qa hbx;have HG9:=qa hg;clear hbx hg))
 have hend:=q0g HS.o HE.o HG9.o HX9.o;refine⟨aJ hend.1,?_⟩;unfold aF;unfold aZ;intro hz1 hz2;go_wp2
 go_meet
 case rel=>exact⟨gb,u3,rfl,HGL.o,HX9.o,hend.2.1,hend.2.2.1,hend.2.2.2⟩):P:=h
def qbT(c N:Nat):Prop:=∀(A:Nat->Prop) (W:World) (y:Nd) (v:Value) (j:Fo),1+szF j<=N->mW (y,j)->bA A W v j->Calls prog 40 #[.agg (tmA y v),.int .u8 (c:Int)] W (nR A (nQ c y j (eM c j)) W)
theorem qav(c N:Nat)(hby:qbT c N)(hN:N<=400):∀(k:Fo) {A:Nat->Prop} {w:World} {v:Value},szF k<=N->eI k->bA A w v k->Calls prog 73 #[v,.int .u8 (c:Int)] w (nR A (L4 k (eM c k)) w)
 |.nil,A,w,v,_,_,h=>by
  obtain⟨rs,oa,cap,b,off,rfl,-,-⟩:=h.walk;obtain⟨A0,hA0⟩:∃A0,A0=fun b=>A b/\b<w.heap.size:=⟨_,rfl⟩;have HA1:Hid (∀b,A0 b->A b/\b<w.heap.size):=qa (fun b hb=>by rw[hA0]at hb;exact hb);have HB1:=qa (aD w (.cells tm0 55));have HG1:=qa (dX w ⟨0,0,0,0,0,0,0,0⟩ (.slice none 0 0));have HS1:Hid (w.heap.size+1<=(w.alloc (.cells tm0 55)).heap.size):=qa (by simp);have HNO:Hid (∀W,Calls prog 48 #[] W (nR A0 iG W)):=qa (fun W=>q3p A0);simp only[cnt];clear h hA0;go_enter func73,ntmps73
  go_wp2_with(first
   |((with_reducible refine(HNO.o _).mono ?_);rintro e w6 ⟨u6,rfl,hT6,hb⟩;have HB6:=qa (HB1.o.trans (hb.mono HB1.o.size));have HG6:=qa (HG1.o.up hb);have HT6:Hid (bA (upA A0 (w.heap.size+1)) w6 u6 .nil):=qa (hT6.mono (fun b hb=>hb.imp id (qc HS1.o)));clear hb hT6)
   |(refine bT rfl (.tmp 4) (.tmp 9) rfl w.heap.size rfl noT u6 HT6.o.one rfl _ HG6.o (show(8:Nat)=8 from rfl) ?_;intro w7 hbx hg;have HX7:=qa hbx;have qcy:=qa hg;clear hbx hg))
  exact iY rfl rfl rfl HA1.o (qb _) HT6.o HB6.o qcy.o HX7.o
 |.cons x k r,A,w,v,hs,hg,h=>by
  have qcX:=qa (fun(A':Nat->Prop) (W:World) (v':Value) (hT:bA A' W v' r)=>qav c N hby hN r (by rw[szF]at hs;omega) (cC hg).2 hT);obtain⟨A0,hA0⟩:∃A0,A0=fun b=>A b/\b<w.heap.size:=⟨_,rfl⟩;have h0:=h.lt;rw[<-hA0]at h0;have HA1:Hid (∀b,A0 b->A b/\b<w.heap.size):=qa (fun b hb=>by rw[hA0]at hb;exact hb);obtain⟨rs,oa,cap,b,off,rfl,hd,hw⟩:=h0.walk;obtain⟨o1,c1,hsl,htl⟩:=h0.tail;obtain⟨y,oj,nj,cj,j,r',hre,ht,-,hcc⟩:=hw.next (i:=0) hw.rows (Nat.succ_pos _) (qn _ _);injection hre with e1 e2 e3;subst e1;subst e2;have HJ:Hid (cnt (.cons x k r)=cnt r+1):=qa rfl;rw[HJ.o]at hd hw hsl h h0⊢;have hm:=hd.len;have hgt:=cC hg;have qeQ:1+szF k+szF r<=400:=by rw[szF]at hs;omega
  have HTJ:=qa ht;have HTR:=qa htl;have HCW:Hid (∀q,q<8->w.cell? ⟨b,off+q,none⟩=some ((tmA x (.slice oj nj cj)).getD q undef)):=qa (by simpa using hcc);have HBK:=qa (hd.hblk (Nat.succ_pos _));have qew:∀W,(Instr.indexAt 50 (.slice oa (cnt r+1) cap) (.int .i64 0)).run prog W=.ok (.pointer (some ⟨b,off,none⟩)) W:=fun W=>by simpa using fE hd W 0 (Nat.succ_pos _)
  obtain⟨R,hR⟩:∃R,R=L4 (.cons x k r) (eM c (.cons x k r)):=⟨_,rfl⟩;rw[<-hR];have gd:=uR (c:=c) hgt.1.1 hgt.1.2.2 (fV c k hgt.1.2.2);have gr:=z9 r (eM c r) hgt.2 (fV c r hgt.2);have gc:=nE hgt.2;have ge:=nE (dJ gd (dJ gc gM));have sd:=B9 c x k (by omega);have sc:=L7 r;have se:=L7 (one (nQ c x k (eM c k)) (one (nZ r) .nil));have sr:=q4N r (eM c r);have sq:=q4O c r (by omega);rw[lR,lR,szF]at se;have hcr:=L6 r;have qjW:cnt r*(szF r+4)<=400*404:=Nat.mul_le_mul (by omega) (by omega);have HNL:=qa (fun(A':Nat->Prop) (W:World) (hT:bA A' W (.slice oj nj cj) k)=>q9h (A:=A') 401 (w:=W) (x:=x) (by omega) hT);have HBY:=qa (fun(A':Nat->Prop) (W:World) (hT:bA A' W (.slice oj nj cj) k)=>hby A' W x (.slice oj nj cj) k (by rw[szF]at hs;omega) hgt.1 hT);have HCR:=qa (fun(A':Nat->Prop) (W:World) (hT:bA A' W (.slice o1 (cnt r) c1) r)=>qbl hT (by omega));have HCC:=qa (fun(A':Nat->Prop) (W:World) (v':Value) (hT:bA A' W v' (one (nQ c x k (eM c k)) (one (nZ r) .nil)))=>qbl hT (by rw[lR,lR,szF];omega));have HAL:=qa (fun(A':Nat->Prop) (W:World) (v':Value) (hT:bA A' W v' (one (nZ (one (nQ c x k (eM c k)) (one (nZ r) .nil))) (one (L4 r (eM c r)) .nil)))=>qbS hT (dJ ge (dJ gr gM)).okT (by rw[lR,lR,szF];omega));have HR:Hid (R=if L1 x (tJ k)=true then q3j (one (nZ (one (nQ c x k (eM c k)) (one (nZ r) .nil))) (one (L4 r (eM c r)) .nil))else nZ (one (nQ c x k (eM c k)) (one (nZ r) .nil))):=qa hR;generalize q3j (one (nZ (one (nQ c x k (eM c k)) (one (nZ r) .nil))) (one (L4 r (eM c r)) .nil))=at4 at*;generalize nZ (one (nQ c x k (eM c k)) (one (nZ r) .nil))=ct3 at*;generalize nQ c x k (eM c k)=d1 at*;generalize nZ r=c2 at*;generalize L4 r (eM c r)=t2 at*;generalize L1 x (tJ k)=nb at*;obtain⟨⟨dk,dn,da,db,dc,dd,dl,dh⟩,df⟩:=d1;obtain⟨⟨ek,en,ea,eb,ec,ed,el,eh⟩,ef⟩:=c2;obtain⟨⟨fk,fn,fa,fb,fc,fd,fl,fh⟩,ff⟩:=ct3;obtain⟨⟨tk,tn,ta,tb,tc,td,tl,th⟩,tf⟩:=t2;obtain⟨⟨ak,an,aa,ab,ac,ad,al,ah⟩,af⟩:=at4;generalize cnt r=n at*;have HSL:=qa hsl;have hb1:=aD w (.cells tm0 55);have HB1:=qa hb1;have HS1:Hid (RwS ((w.alloc (.cells tm0 55)).drew) ((w.alloc (.cells tm0 55)).drew) w.heap.size none):=qa ⟨qn _ _,(dX w ⟨0,0,0,0,0,0,0,0⟩ (.slice none 0 0)).up (gQ (qn _ _)),by show w.heap.size+1<=(w.alloc (.cells tm0 55)).heap.size;simp,fun q e=>by cases e⟩;clear h h0 hd hw hcc ht htl hgt qeQ gd gr gc ge sd sc se sr sq hcr qjW hR hA0 e3 HJ hb1 hs hg;have q0:(((n:Int)+1)==0)=false:=by simp;omega
  obtain⟨kd,nn,a,b',c',d,lo,hi⟩:=x;go_enter func73,ntmps73
  go_upto_region 3 with(fail)
  have HAW:Hid (∀b,A0 b->b<(w.alloc (.cells tm0 55)).drew.heap.size):=qa (fun b hb=>by have h1:=(HA1.o b hb).2;have h2:=HB1.o.size;show b<(w.alloc (.cells tm0 55)).heap.size;omega);have HBD:Hid (Below w.heap.size w (w.alloc (.cells tm0 55)).drew):=qa (gQ HB1.o);have HTJ:=qa (HTJ.o.up HBD.o);have HTR:=qa (HTR.o.up HBD.o)
  go_cut [5] (fun x5 wx=>∃(gb:Nat) (u3:Value),x5=.pointer (some ⟨gb,0,none⟩)/\w.heap.size<gb/\kH wx gb (tmC ⟨fk,fn,fa,fb,fc,fd,fl,fh⟩ u3)/\bA (UA A0 w.heap.size (some gb)) wx u3 ff/\kH wx w.heap.size (tmC ⟨0,0,0,0,0,0,0,0⟩ (.slice none 0 0))/\Below (w.alloc (.cells tm0 55)).drew.heap.size (w.alloc (.cells tm0 55)).drew wx)
  case first=>
   refine hU (C:=fun w'=>∃x,w'=ext (w.alloc (.cells tm0 55)).drew x) (.q 0 (.q 1 (.q 2 (.q 3 (.q 5 (.q 6 (.br 4 (.br 7 (.br 8 (.br 9 (.br 10 (.br 11 .done .no) .no) (.br 10 (.br 9 (.br 11 .done .no) .no) .no)) (.br 10 (.br 8 (.br 9 (.br 11 .done .no) .no) .no) .no)) (.br 10 (.br 7 (.br 8 (.br 9 (.br 11 .done .no) .no) .no) .no) .no)) (.br 10 (.br 4 (.br 7 (.br 8 (.br 9 (.br 11 .done .no) .no) .no) .no) .no) .no)))))))) (by kernel_rfl) (by kernel_rfl) (aJ (qn _ _)) ?_;generalize (w.alloc (.cells tm0 55)).drew=w1 at*
   repeat((unfold aZ;simp only[pk]);first
    |(go_big_quiet_want;(with_reducible show Oper.quiet _ (Oper.mk _ (.slice _ _ _ _ _) _ _ _ _) _ _ _);refine xZ 50 (.tmp 15) (some _) none none rfl (.slice o1 n c1) (fun w' _=>HSL.o w') ?_;go_simp;go_big_quiet_on;refine wpQuiet_nil ?_)
    |(go_big_quiet_want;refine cB 55 8 _ rfl b off rfl (tmA ⟨kd,nn,a,b',c',d,lo,hi⟩ (.slice oj nj cj)) rfl (fun w' hw' q hq=>by obtain⟨y,rfl⟩:=hw';rw[(aE w1 y).cell (p:=⟨b,off+q,none⟩) (qe HBK.o HBD.o.size),HBD.o.cell (p:=⟨b,off+q,none⟩) HBK.o];exact HCW.o q hq) _ underlying55 rfl (by kernel_rfl) ?_;go_simp;go_big_quiet_on;refine wpQuiet_nil ?_)
    |(go_big_quiet_step (fail);refine wpQuiet_nil ?_))
   have HS:=HS1
   (unfold aZ;simp only[pk])
   refine⟨?_,?_⟩
   ·unfold aF
    go_wp2_with(first|((with_reducible refine(HBY.o _ _ (HS.o.old HAW.o HTJ.o)).mono ?_);rintro e w4 ⟨u1,rfl,hT,hb⟩;have HD1:=qa (HS.o.res hT);have HS:=qa (HS.o.up hb);clear hT hb))
    refine⟨aJ HS.o.bel,?_⟩;unfold aF
    (unfold aZ;simp only[pk])
    refine⟨?_,?_⟩
    ·unfold aF
     go_wp2_with(first|((with_reducible refine(HCR.o _ _ (HS.o.old HAW.o HTR.o)).mono ?_);rintro e w5 ⟨u2,rfl,hT,hb⟩;have HD2:=qa (HS.o.res hT);have HD1:=qa (HD1.o.up hb);have HS:=qa (HS.o.up hb);clear hT hb))
     refine⟨aJ HS.o.bel,?_⟩;unfold aF
     (unfold aZ;simp only[pk])
     refine⟨?_,?_⟩
     ·unfold aF
      obtain⟨p1,n1,q1,hu1,-⟩:=HD1.o.form;obtain⟨p2,n2,q2,hu2,-⟩:=HD2.o.form;subst hu1;subst hu2;have HTW:Hid (bA (UA A0 w.heap.size none) (w5.alloc (.cells #[.int .i64 dk,.int .u64 da,.int .u64 db,.int .u64 dc,.int .u64 dd,.int .i64 dl,.int .i64 dh,.slice p1 n1 q1,.int .i64 ek,.int .u64 ea,.int .u64 eb,.int .u64 ec,.int .u64 ed,.int .i64 el,.int .i64 eh,.slice p2 n2 q2] 55)) (.slice (some ⟨w5.heap.size,0,none⟩) 2 2) (one (⟨dk,dn,da,db,dc,dd,dl,dh⟩,df) (one (⟨ek,en,ea,eb,ec,ed,el,eh⟩,ef) .nil))):=qa (HS.o.two (x:=⟨dk,dn,da,db,dc,dd,dl,dh⟩) (y:=⟨ek,en,ea,eb,ec,ed,el,eh⟩) HD1.o HD2.o);have HS:Hid (RwS w1 (w5.alloc (.cells #[.int .i64 dk,.int .u64 da,.int .u64 db,.int .u64 dc,.int .u64 dd,.int .i64 dl,.int .i64 dh,.slice p1 n1 q1,.int .i64 ek,.int .u64 ea,.int .u64 eb,.int .u64 ec,.int .u64 ed,.int .i64 el,.int .i64 eh,.slice p2 n2 q2] 55)) w.heap.size none):=qa (HS.o.up (aD _ _));go_wp2;refine⟨aJ HS.o.bel,?_⟩;generalize w5.alloc (.cells #[.int .i64 dk,.int .u64 da,.int .u64 db,.int .u64 dc,.int .u64 dd,.int .i64 dl,.int .i64 dh,.slice p1 n1 q1,.int .i64 ek,.int .u64 ea,.int .u64 eb,.int .u64 ec,.int .u64 ed,.int .i64 el,.int .i64 eh,.slice p2 n2 q2] 55)=w8 at*;unfold aF
      (unfold aZ;simp only[pk])
      refine⟨?_,?_⟩
      ·unfold aF
       go_wp2_with(first|((with_reducible refine(HCC.o _ _ _ HTW.o).mono ?_);rintro e w6 ⟨u3,rfl,hT,hb⟩;have HE:=qa (HS.o.res hT);have HS:=qa (HS.o.up hb);clear hT hb))
       refine⟨aJ HS.o.bel,?_⟩;unfold aF
       (unfold aZ;simp only[pk])
       refine⟨?_,by exact True.intro⟩;unfold aF;have HS:Hid (RwS w1 (w6.alloc (.cells #[.int .i64 0,.int .u64 0,.int .u64 0,.int .u64 0,.int .u64 0,.int .i64 0,.int .i64 0,.slice none 0 0] 55)) w.heap.size (some w6.heap.size)):=qa HS.o.alloc;have HE:=qa (UA.alloc (o:=.cells #[.int .i64 0,.int .u64 0,.int .u64 0,.int .u64 0,.int .u64 0,.int .i64 0,.int .i64 0,.slice none 0 0] 55) HE.o);have HGL:Hid (w.heap.size<w6.heap.size):=qa (by have h1:=(HS.o.gb _ rfl).1;have h2:=HS.o.sz;omega);go_wp2;refine⟨aJ HS.o.bel,?_⟩;generalize w6.alloc (.cells #[.int .i64 0,.int .u64 0,.int .u64 0,.int .u64 0,.int .u64 0,.int .i64 0,.int .i64 0,.slice none 0 0] 55)=w7 at*;obtain⟨gb,hgb⟩:∃gb,gb=w6.heap.size:=⟨_,rfl⟩;rw[<-hgb]at HS HGL HE⊢;clear hgb;unfold aF
       (unfold aZ;simp only[pk])
       refine⟨?_,by exact True.intro⟩;unfold aF
       go_wp2_with(first|(refine bT rfl (.tmp 5) (.tmp 19) rfl gb rfl ⟨fk,fn,fa,fb,fc,fd,fl,fh⟩ u3 HE.o.one rfl _ (HS.o.gb gb rfl).2.2 (show(8:Nat)=8 from rfl) ?_;intro w9 hbx hg;have HX9:=qa hbx;have HG9:=qa hg;clear hbx hg))
       have hend:=q0g HS.o HE.o HG9.o HX9.o;refine⟨aJ hend.1,?_⟩;unfold aF;unfold aZ;intro hz1 hz2;go_wp2
       go_meet
       case rel=>exact⟨gb,u3,rfl,HGL.o,HX9.o,hend.2.1,hend.2.2.1,hend.2.2.2⟩
      (unfold aZ;simp only[pk])
      refine⟨?_,by exact True.intro⟩;unfold aF;have HS:Hid (RwS w1 (w8.alloc (.cells #[.int .i64 0,.int .u64 0,.int .u64 0,.int .u64 0,.int .u64 0,.int .i64 0,.int .i64 0,.slice none 0 0] 55)) w.heap.size (some w8.heap.size)):=qa HS.o.alloc;have HTW:=qa (UA.alloc (o:=.cells #[.int .i64 0,.int .u64 0,.int .u64 0,.int .u64 0,.int .u64 0,.int .i64 0,.int .i64 0,.slice none 0 0] 55) HTW.o);have HGL:Hid (w.heap.size<w8.heap.size):=qa (by have h1:=(HS.o.gb _ rfl).1;have h2:=HS.o.sz;omega);go_wp2;refine⟨aJ HS.o.bel,?_⟩;generalize w8.alloc (.cells #[.int .i64 0,.int .u64 0,.int .u64 0,.int .u64 0,.int .u64 0,.int .i64 0,.int .i64 0,.slice none 0 0] 55)=w7 at*;obtain⟨gb,hgb⟩:∃gb,gb=w8.heap.size:=⟨_,rfl⟩;rw[<-hgb]at HS HGL HTW⊢;clear hgb;unfold aF
      exact ZmN1
     (unfold aZ;simp only[pk])
     refine⟨?_,by exact True.intro⟩;unfold aF;have HS:Hid (RwS w1 (w5.alloc (.cells #[.int .i64 0,.int .u64 0,.int .u64 0,.int .u64 0,.int .u64 0,.int .i64 0,.int .i64 0,.slice none 0 0] 55)) w.heap.size (some w5.heap.size)):=qa HS.o.alloc;have HD1:=qa (UA.alloc (o:=.cells #[.int .i64 0,.int .u64 0,.int .u64 0,.int .u64 0,.int .u64 0,.int .i64 0,.int .i64 0,.slice none 0 0] 55) HD1.o);have HD2:=qa (UA.alloc (o:=.cells #[.int .i64 0,.int .u64 0,.int .u64 0,.int .u64 0,.int .u64 0,.int .i64 0,.int .i64 0,.slice none 0 0] 55) HD2.o);have HGL:Hid (w.heap.size<w5.heap.size):=qa (by have h1:=(HS.o.gb _ rfl).1;have h2:=HS.o.sz;omega);go_wp2;refine⟨aJ HS.o.bel,?_⟩;generalize w5.alloc (.cells #[.int .i64 0,.int .u64 0,.int .u64 0,.int .u64 0,.int .u64 0,.int .i64 0,.int .i64 0,.slice none 0 0] 55)=w7 at*;obtain⟨gb,hgb⟩:∃gb,gb=w5.heap.size:=⟨_,rfl⟩;rw[<-hgb]at HS HGL HD1 HD2⊢;clear hgb;unfold aF
     (unfold aZ;simp only[pk])
     refine⟨?_,by exact True.intro⟩;unfold aF;obtain⟨p1,n1,q1,hu1,-⟩:=HD1.o.form;obtain⟨p2,n2,q2,hu2,-⟩:=HD2.o.form;subst hu1;subst hu2;have HTW:Hid (bA (UA A0 w.heap.size (some gb)) (w7.alloc (.cells #[.int .i64 dk,.int .u64 da,.int .u64 db,.int .u64 dc,.int .u64 dd,.int .i64 dl,.int .i64 dh,.slice p1 n1 q1,.int .i64 ek,.int .u64 ea,.int .u64 eb,.int .u64 ec,.int .u64 ed,.int .i64 el,.int .i64 eh,.slice p2 n2 q2] 55)) (.slice (some ⟨w7.heap.size,0,none⟩) 2 2) (one (⟨dk,dn,da,db,dc,dd,dl,dh⟩,df) (one (⟨ek,en,ea,eb,ec,ed,el,eh⟩,ef) .nil))):=qa (HS.o.two (x:=⟨dk,dn,da,db,dc,dd,dl,dh⟩) (y:=⟨ek,en,ea,eb,ec,ed,el,eh⟩) HD1.o HD2.o);have HS:Hid (RwS w1 (w7.alloc (.cells #[.int .i64 dk,.int .u64 da,.int .u64 db,.int .u64 dc,.int .u64 dd,.int .i64 dl,.int .i64 dh,.slice p1 n1 q1,.int .i64 ek,.int .u64 ea,.int .u64 eb,.int .u64 ec,.int .u64 ed,.int .i64 el,.int .i64 eh,.slice p2 n2 q2] 55)) w.heap.size (some gb)):=qa (HS.o.up (aD _ _));go_wp2;refine⟨aJ HS.o.bel,?_⟩;generalize w7.alloc (.cells #[.int .i64 dk,.int .u64 da,.int .u64 db,.int .u64 dc,.int .u64 dd,.int .i64 dl,.int .i64 dh,.slice p1 n1 q1,.int .i64 ek,.int .u64 ea,.int .u64 eb,.int .u64 ec,.int .u64 ed,.int .i64 el,.int .i64 eh,.slice p2 n2 q2] 55)=w8 at*;unfold aF
     exact ZmN1
    (unfold aZ;simp only[pk])
    refine⟨?_,by exact True.intro⟩;unfold aF;have HS:Hid (RwS w1 (w4.alloc (.cells #[.int .i64 0,.int .u64 0,.int .u64 0,.int .u64 0,.int .u64 0,.int .i64 0,.int .i64 0,.slice none 0 0] 55)) w.heap.size (some w4.heap.size)):=qa HS.o.alloc;have HD1:=qa (UA.alloc (o:=.cells #[.int .i64 0,.int .u64 0,.int .u64 0,.int .u64 0,.int .u64 0,.int .i64 0,.int .i64 0,.slice none 0 0] 55) HD1.o);have HGL:Hid (w.heap.size<w4.heap.size):=qa (by have h1:=(HS.o.gb _ rfl).1;have h2:=HS.o.sz;omega);go_wp2;refine⟨aJ HS.o.bel,?_⟩;generalize w4.alloc (.cells #[.int .i64 0,.int .u64 0,.int .u64 0,.int .u64 0,.int .u64 0,.int .i64 0,.int .i64 0,.slice none 0 0] 55)=w7 at*;obtain⟨gb,hgb⟩:∃gb,gb=w4.heap.size:=⟨_,rfl⟩;rw[<-hgb]at HS HGL HD1⊢;clear hgb;unfold aF
    exact ZmN0
   (unfold aZ;simp only[pk])
   refine⟨?_,by exact True.intro⟩;unfold aF;have HS:Hid (RwS w1 (w1.alloc (.cells #[.int .i64 0,.int .u64 0,.int .u64 0,.int .u64 0,.int .u64 0,.int .i64 0,.int .i64 0,.slice none 0 0] 55)) w.heap.size (some w1.heap.size)):=qa HS.o.alloc;have HGL:Hid (w.heap.size<w1.heap.size):=qa (by have h1:=(HS.o.gb _ rfl).1;have h2:=HS.o.sz;omega);go_wp2;refine⟨aJ HS.o.bel,?_⟩;generalize w1.alloc (.cells #[.int .i64 0,.int .u64 0,.int .u64 0,.int .u64 0,.int .u64 0,.int .i64 0,.int .i64 0,.slice none 0 0] 55)=w7 at*;obtain⟨gb,hgb⟩:∃gb,gb=w1.heap.size:=⟨_,rfl⟩;rw[<-hgb]at HS HGL⊢;clear hgb;unfold aF
   (unfold aZ;simp only[pk])
   refine⟨?_,by exact True.intro⟩;unfold aF
   go_wp2_with(first|((with_reducible refine(HBY.o _ _ (HS.o.old HAW.o HTJ.o)).mono ?_);rintro e w4 ⟨u1,rfl,hT,hb⟩;have HD1:=qa (HS.o.res hT);have HS:=qa (HS.o.up hb);clear hT hb))
   refine⟨aJ HS.o.bel,?_⟩;unfold aF
   exact ZmN0
  case rest=>
   obtain⟨gb,u3,hx5,hgl,hbx,hT,qdZ,hbl⟩:=hcut;subst hx5;have HX:=qa hbx;have HE:Hid (bA (UA A0 w.heap.size none) wc u3 ff):=qa (hT.mono fun b hb=>⟨hb.1,fun e=>by cases e⟩);have qkT:Hid (w.heap.size+1<=(w.alloc (.cells tm0 55)).drew.heap.size):=qa (by show w.heap.size+1<=(w.alloc (.cells tm0 55)).heap.size;simp);have HS:Hid (RwS (w.alloc (.cells tm0 55)).drew wc w.heap.size none):=qa ⟨hbl,qdZ,qkT.o,fun q e=>by cases e⟩;have HBC:=qa (HBD.o.trans (hbl.mono HBD.o.size));have qgV:=qa (HTJ.o.up hbl);have qiG:=qa (HTR.o.up hbl);have qhs:Hid (∀q,q<8->wc.cell? ⟨b,off+q,none⟩=some ((tmA ⟨kd,nn,a,b',c',d,lo,hi⟩ (.slice oj nj cj)).getD q undef)):=qa (fun q hq=>by rw[HBC.o.cell (p:=⟨b,off+q,none⟩) HBK.o];exact HCW.o q hq);have HGT:Hid (w.heap.size<gb):=qa hgl;clear hbx hT qdZ hbl hgl HBY HCR HCC HS1 HTJ HTR;obtain⟨o3,n3,c3,hu3,-⟩:=HE.o.form;subst hu3;cases nb
   ·have HRF:Hid (R=(⟨fk,fn,fa,fb,fc,fd,fl,fh⟩,ff)):=qa (by rw[HR.o];rfl)
    clear HR HAL qcX
    go_wp2_with(first
     |(refine eA rfl (.tmp 21) rfl b off rfl kd nn a b' c' d lo hi (.slice oj nj cj) qhs.o ?_)
     |((with_reducible refine(HNL.o _ _ qgV.o).mono ?_);rintro e w5 ⟨rfl,hx⟩;have HS5:=qa (HS.o.up (aI hx));have HX5:=qa (HX.o.up (aI hx));have HE5:=qa (HE.o.up (aI hx));have HB5:=qa (HBC.o.trans ((aI hx).mono HBC.o.size));clear hx)
     |(refine dC rfl (.tmp 5) rfl gb rfl fk fn fa fb fc fd fl fh (.slice o3 n3 c3) HX5.o ?_)
     |(refine bT rfl (.tmp 4) (.tmp 31) rfl w.heap.size rfl ⟨fk,fn,fa,fb,fc,fd,fl,fh⟩ (.slice o3 n3 c3) rfl rfl _ HS5.o.box (show(8:Nat)=8 from rfl) ?_;intro w7 hbx hg;have HX7:=qa hbx;have qcy:=qa hg;clear hbx hg))
    rw[HRF.o];exact iY rfl rfl rfl HA1.o (qb _) (HE5.o.mono fun b hb=>hb.1) HB5.o qcy.o HX7.o
   have HRF:Hid (R=(⟨ak,an,aa,ab,ac,ad,al,ah⟩,af)):=qa (by rw[HR.o];rfl);clear HR
   go_upto_region 5 with(first
    |(refine eA rfl (.tmp 21) rfl b off rfl kd nn a b' c' d lo hi (.slice oj nj cj) qhs.o ?_)
    |((with_reducible refine(HNL.o _ _ qgV.o).mono ?_);rintro e w5 ⟨rfl,hx⟩;have HS5:=qa (HS.o.up (aI hx));have HX5:=qa (HX.o.up (aI hx));have HE5:=qa (HE.o.up (aI hx));have qiH:=qa (qiG.o.up (aI hx));have HB5:=qa (HBC.o.trans ((aI hx).mono HBC.o.size));clear hx))
   have hdr:=gQ (qn w5.heap.size w5);have HS6:=qa (HS5.o.up hdr);have HX6:=qa (HX5.o.up hdr);have HE6:=qa (HE5.o.up hdr);have qkP:=qa (qiH.o.up hdr);have HB6:=qa (HB5.o.trans (hdr.mono HB5.o.size));refine cL (C:=fun w'=>∃x,w'=ext w5.drew x) [0,1,2,3] [4,5,6] [7] (by kernel_rfl) (by kernel_rfl) (aJ (qn _ _)) ?_;clear hdr HS HX HE qiG HS5 HX5 HE5 qiH HB5 qgV qhs HBC;generalize w5.drew=w6 at*;have HGB:Hid (gb<w6.heap.size):=qa (HX6.o.lt gb rfl).2;simp only[pk]
   repeat(first
    |(go_big_quiet_want;(with_reducible show Oper.quiet _ (Oper.mk _ (.slice _ _ _ _ _) _ _ _ _) _ _ _);refine xZ 50 (.tmp 25) (some _) none none rfl (.slice o1 n c1) (fun w' _=>HSL.o w') ?_;go_simp;go_big_quiet_on)
    |(go_big_quiet_want;refine cB 55 8 _ rfl gb 0 rfl (tmA ⟨fk,fn,fa,fb,fc,fd,fl,fh⟩ (.slice o3 n3 c3)) rfl (fun w' hw' q hq=>by obtain⟨y,rfl⟩:=hw';rw[qI,(aE w6 y).cell (p:=⟨gb,q,none⟩) HGB.o,HX6.o.cell (show q<8 from hq),q7t]) _ underlying55 rfl (by kernel_rfl) ?_;go_simp;go_big_quiet_on)
    |go_big_quiet_step (fail))
   refine wpQuiet_nil ?_;unfold aF
   go_wp2_with(first|((with_reducible refine(qcX.o _ _ _ qkP.o).mono ?_);rintro e w7 ⟨u4,rfl,hT,hb⟩;have HT7:Hid (bA (UA A0 w.heap.size none) w7 u4 tf):=qa (hT.mono fun b hb'=>⟨hb'.imp id (qc (qc HS6.o.sz HS6.o.bel.size)),fun e=>by cases e⟩);have HS7:=qa (HS6.o.up hb);have HE7:=qa (HE6.o.up hb);have HB7:=qa (HB6.o.trans (hb.mono HB6.o.size));have HC7:=qa (hb);clear hT hb))
   refine⟨aJ HC7.o,?_⟩;unfold aF;obtain⟨o4,n4,c4,hu4,-⟩:=HT7.o.form;subst hu4;have HTW:Hid (bA (UA A0 w.heap.size none) (w7.alloc (.cells #[.int .i64 fk,.int .u64 fa,.int .u64 fb,.int .u64 fc,.int .u64 fd,.int .i64 fl,.int .i64 fh,.slice o3 n3 c3,.int .i64 tk,.int .u64 ta,.int .u64 tb,.int .u64 tc,.int .u64 td,.int .i64 tl,.int .i64 th,.slice o4 n4 c4] 55)) (.slice (some ⟨w7.heap.size,0,none⟩) 2 2) (one (⟨fk,fn,fa,fb,fc,fd,fl,fh⟩,ff) (one (⟨tk,tn,ta,tb,tc,td,tl,th⟩,tf) .nil))):=qa (HS7.o.two (x:=⟨fk,fn,fa,fb,fc,fd,fl,fh⟩) (y:=⟨tk,tn,ta,tb,tc,td,tl,th⟩) HE7.o HT7.o);have hb8:=aD w7 (.cells #[.int .i64 fk,.int .u64 fa,.int .u64 fb,.int .u64 fc,.int .u64 fd,.int .i64 fl,.int .i64 fh,.slice o3 n3 c3,.int .i64 tk,.int .u64 ta,.int .u64 tb,.int .u64 tc,.int .u64 td,.int .i64 tl,.int .i64 th,.slice o4 n4 c4] 55);have HS8:=qa (HS7.o.up hb8);have HB8:=qa (HB7.o.trans (hb8.mono HB7.o.size));have HC8:=qa (HC7.o.trans (hb8.mono HC7.o.size));clear hb8;go_wp2;refine⟨aJ HC8.o,?_⟩;unfold aF
   go_wp2_with(first|((with_reducible refine(HAL.o _ _ _ HTW.o).mono ?_);rintro e w9 ⟨u5,rfl,hT,hb⟩;have HT9:Hid (bA (upA A0 (w.heap.size+1)) w9 u5 af):=qa (hT.mono fun b hb'=>hb'.elim (fun h=>h.1) (fun h=>.inr (qc (qc HS8.o.sz HS8.o.bel.size) h)));have HS9:=qa (HS8.o.up hb);have HB9:=qa (HB8.o.trans (hb.mono HB8.o.size));have HC9:=qa (HC8.o.trans (hb.mono HC8.o.size));clear hT hb))
   refine⟨aJ HC9.o,?_⟩;unfold aF;unfold aF
   go_wp2_with(first|(refine bT rfl (.tmp 4) (.tmp 30) rfl w.heap.size rfl ⟨ak,an,aa,ab,ac,ad,al,ah⟩ u5 HT9.o.one rfl _ HS9.o.box (show(8:Nat)=8 from rfl) ?_;intro w10 hbx hg;have qeh:=qa hbx;have qhi:=qa hg;clear hbx hg))
   refine⟨trivial,?_⟩;unfold aF;go_wp2;rw[HRF.o];exact iY rfl rfl rfl HA1.o (qb _) HT9.o HB9.o qhi.o qeh.o
theorem RpS.call2{A0 A':Nat->Prop}{w W W':World}{x:Nd}{u u':Value}{k:Fo}{t:Tm}(h:RpS A0 w W x u k)(hT:bA (upA A' W.heap.size) W' u' t.2)(hA:∀b,A' b->A0 b\/w.heap.size+1+1<=b)(hb:Below W.heap.size W W'):RpR A0 w W' t u':=
 ⟨(h.up hb).bel,(h.up hb).box,hT.mono fun b hb=>hb.elim (hA b) (fun h2=>.inr (qc h.sz h2))⟩
theorem RpS.drew1{A0:Nat->Prop}{w W:World}{x:Nd}{u:Value}{k:Fo}(_h:RpS A0 w W x u k):Below W.heap.size W W.drew:=gQ (qn _ _)
theorem RpS.rws{A0:Nat->Prop}{w W:World}{x:Nd}{u:Value}{k:Fo}(h:RpS A0 w W x u k):RwS W W (w.heap.size+1) none:=⟨qn _ _,h.box,h.sz,fun q e=>by cases e⟩
theorem RpS.rpr{A0:Nat->Prop}{w W0 W:World}{x:Nd}{u v:Value}{k:Fo}{t:Tm}(hS:RpS A0 w W0 x u k)(h:RwS W0 W (w.heap.size+1) none)(hT:bA (UA A0 (w.heap.size+1) none) W v t.2):RpR A0 w W t v:=
 ⟨hS.bel.trans (h.bel.mono hS.bel.size),h.box,hT.mono fun _ hb=>hb.1⟩
theorem qca{n:Int}{k:Fo}(e1:n=1)(e2:n=cnt k):∃y j,k=.cons y j .nil:=by
 cases k with
 |nil=>simp only[cnt]at e2;omega
 |cons y j r=>
  cases r with
  |nil=>exact⟨y,j,rfl⟩
  |cons z q r=>simp only[cnt]at e2;omega
theorem qbm (c : Nat) (hc : c < 256) : ∀ N, N ≤ 400 → qbT c N := by
  intro N
  induction N with
  | zero => intro _ A W y v j h; omega
  | succ N ih =>
    intro hN A w x u k hs hg h
    have ih := ih (by omega)
    obtain ⟨A0, hA0⟩ : ∃ A0, A0 = fun b => A b ∧ b < w.heap.size := ⟨_, rfl⟩
    have h0 := h.lt
    rw [← hA0] at h0
    have HA1 : Hid (∀ b, A0 b → A b ∧ b < w.heap.size) := qa (fun b hb => by rw [hA0] at hb; exact hb)
    obtain ⟨o, n, cp, rfl, hn⟩ := h.form
    subst hn
    have HS := qa (RpS.new (x := x) h0)
    have HEM : Hid (∀ W, Calls prog 72 #[] W (nR A0 gL W)) := qa (fun W => q2n A0)
    have HNO : Hid (∀ W, Calls prog 48 #[] W (nR A0 iG W)) := qa (fun W => q3p A0)
    have HHA : Hid (∀ W, Calls prog 71 #[.agg #[.int .u64 x.a, .int .u64 x.b, .int .u64 x.c, .int .u64 x.d], .int .u8 c] W fun e w' => e = .returned (.bool (pB (dM x 0) c)) ∧ ∃ x, w' = ext W x) := qa (fun W => q25 (dM x 0) c hc)
    have qcX := qa (fun (W : World) (hT : bA A0 W (.slice o (cnt k) cp) k) => qav c N ih (by omega) k (by omega) hg.2.2 hT)
    obtain ⟨R, hR⟩ : ∃ R, R = nQ c x k (eM c k) := ⟨_, rfl⟩
    rw [← hR]
    have HR : Hid (R = nQ c x k (eM c k)) := qa hR
    unfold nQ at HR
    have hk1 : 5 ≤ x.kd → ∃ y j, k = .cons y j .nil := fun h5 => qca (hg.1.2.1 h5) hg.2.1
    have hkd := hg.1.1.1
    have HG := qa hg
    have HT0 := qa h0
    have HHI := qa hg.1.2.2
    have HOT := qa hg.1.1
    clear h h0 hA0 hR hg
    by_cases h1 : x.kd = 1
    · have HR1 : Hid (R = if pB (dM x 0) c = true then gL else iG) := qa (by rw [HR.o, qw h1])
      generalize pB (dM x 0) c = hv at *
      clear HR qcX hk1 HHI HOT HT0 HG ih
      obtain ⟨kd, nn, a, b, c', d, lo, hi⟩ := x
      simp only at h1
      subst h1
      cases hv
      · have HRF : Hid (R = (noT, .nil)) := qa HR1.o
        go_enter func40, ntmps40
        go_wp2_with (first
          | ((with_reducible refine (HHA.o _).mono ?_); rintro e w5 ⟨rfl, hx⟩; have HS := qa (HS.o.up (aI hx)); clear hx)
          | ((with_reducible refine (HNO.o _).mono ?_); rintro e w6 ⟨u6, rfl, hT6, hb⟩; have HC := qa (HS.o.call (t := iG) hT6 hb); clear hb hT6)
          | (refine bT rfl (.tmp 4) _ rfl (w.heap.size + 1) rfl noT u6 HC.o.tm.one rfl _ HC.o.box (show (8 : Nat) = 8 from rfl) ?_; intro w7 hbx hg; have HX7 := qa hbx; have qcy := qa hg; clear hbx hg))
        exact HC.o.ret HA1.o qcy.o HX7.o HRF.o rfl rfl rfl
      · have HRF : Hid (R = (emT, .nil)) := qa HR1.o
        go_enter func40, ntmps40
        go_wp2_with (first
          | ((with_reducible refine (HHA.o _).mono ?_); rintro e w5 ⟨rfl, hx⟩; have HS := qa (HS.o.up (aI hx)); clear hx)
          | ((with_reducible refine (HEM.o _).mono ?_); rintro e w6 ⟨u6, rfl, hT6, hb⟩; have HC := qa (HS.o.call (t := gL) hT6 hb); clear hb hT6)
          | (refine bT rfl (.tmp 4) _ rfl (w.heap.size + 1) rfl emT u6 HC.o.tm.one rfl _ HC.o.box (show (8 : Nat) = 8 from rfl) ?_; intro w7 hbx hg; have HX7 := qa hbx; have qcy := qa hg; clear hbx hg))
        exact HC.o.ret HA1.o qcy.o HX7.o HRF.o rfl rfl rfl
    · rw [qv h1] at HR
      by_cases h3 : x.kd = 3
      · rw [qw h3] at HR
        clear HHA hk1 HHI HOT ih HEM HNO HG HT0
        generalize L4 k (eM c k) = t at *
        obtain ⟨⟨tk, tn, ta, tb, tc, td, tl, th⟩, tf⟩ := t
        obtain ⟨kd, nn, a, b, c', d, lo, hi⟩ := x
        simp only at h3
        subst h3
        go_enter func40, ntmps40
        go_wp2_with (first
          | ((with_reducible refine (qcX.o _ HS.o.tm).mono ?_); rintro e w6 ⟨u6, rfl, hT6, hb⟩; have HC := qa (HS.o.call (t := (⟨tk, tn, ta, tb, tc, td, tl, th⟩, tf)) hT6 hb); clear hb hT6)
          | (refine bT rfl (.tmp 4) (.tmp 22) rfl (w.heap.size + 1) rfl ⟨tk, tn, ta, tb, tc, td, tl, th⟩ u6 HC.o.tm.one rfl _ HC.o.box (show (8 : Nat) = 8 from rfl) ?_; intro w7 hbx hg; have HX7 := qa hbx; have qcy := qa hg; clear hbx hg))
        exact HC.o.ret HA1.o qcy.o HX7.o HR.o rfl rfl rfl
      · rw [qv h3] at HR
        by_cases h4 : x.kd = 4
        · rw [qw h4] at HR
          have gd := fV c k HG.o.2.2
          have sd := q4O c k (by omega)
          obtain ⟨D, hD⟩ : ∃ D, D = eM c k := ⟨_, rfl⟩
          rw [← hD] at HR gd sd
          have HDC : Hid (cnt D ≤ 324400) := qa (qc (L6 D) sd)
          have qjB := qa (fun (A' : Nat → Prop) (W : World) (v' : Value) (hT : bA A' W v' D) => qbS hT gd.okT (by omega))
          have HV0 : Hid (iE .nil (eM c k) = D) := qa hD.symm
          have HGF : Hid (eI k) := qa HG.o.2.2
          have HSF : Hid (szF k ≤ N) := qa (by omega)
          have HIH := qa ih
          generalize q3j D = al at *
          obtain ⟨⟨ak, an, aa, ab, ac, ad, al', ah⟩, af⟩ := al
          have hb1 := aD w (.cells (tmA x (.slice o (cnt k) cp)) 55)
          have hsz : ((w.alloc (.cells (tmA x (.slice o (cnt k) cp)) 55)).alloc (.cells tm0 55)).heap.size = w.heap.size + 1 + 1 := by simp
          obtain ⟨rs, oa, cap, b, off, hv, hd, hw⟩ := HS.o.tm.walk
          injection hv with e1 e2 e3
          subst e1
          subst e3
          have HIX := qa (fE hd)
          have HW := qa hw
          have hm := hd.len
          have HR0 := qa hw.rows
          obtain ⟨kd, nn, a, b', c', d, lo, hi⟩ := x
          simp only at h4
          subst h4
          obtain ⟨W1, hW1⟩ : ∃ W1, W1 = (w.alloc (.cells (tmA ⟨4, nn, a, b', c', d, lo, hi⟩ (.slice o (cnt k) cp)) 55)).alloc (.cells tm0 55) := ⟨_, rfl⟩
          have HW1 : Hid (W1 = (w.alloc (.cells (tmA ⟨4, nn, a, b', c', d, lo, hi⟩ (.slice o (cnt k) cp)) 55)).alloc (.cells tm0 55)) := qa hW1
          rw [← hW1] at HS HW HR0 hsz
          have HSZ := qa hsz
          generalize cnt k = m at *
          clear h1 h3 hk1 HHI HOT ih HEM HNO HG HT0 hD gd sd hb1 hsz e2 hd hw hN hs qcX HHA hkd hc hW1
          go_enter func40, ntmps40
          go_wp2
          go_loopg [5, 28] m (fun gk ov iv wr => ∃ (i : Nat) (acc r : Fo), iv = .int .i64 i ∧ i ≤ m ∧ pF A0 wr W1.heap.size 55 ov acc ∧ Hid (iE acc (eM c r) = D) ∧ eI r ∧ szF r ≤ N ∧ cA A0 W1 (rs.drop i) r ∧ Below W1.heap.size W1 wr ∧ gk = m - i)
          case atStart => exact ⟨0, .nil, k, rfl, qd _, pF.nil _ _ _ _, HV0.o, HGF.o, HSF.o, HR0.o, by rw [HW1.o]; exact qn _ _, rfl⟩
          case round =>
            obtain ⟨i, acc, r, rfl, hi, hO, HV, hgr, hsr, hrr, hB, hgk⟩ := hrel
            have HB := qa hB
            have HO := qa hO
            have HGK := qa hgk
            have HRR := qa hrr
            have HGR := qa hgr
            have HSR := qa hsr
            have HAB : Hid (∀ b, A0 b → b < W1.heap.size) := qa (fun b hb => by have := (HA1.o b hb).2; have := HSZ.o; omega)
            clear hB hgk hrr hO hgr hsr HR0 HGF HSF HV0 HW1
            by_cases hlt : i < m
            · have qcB := fun W => HIX.o W i hlt
              obtain ⟨y, oj, nj, cj, j, r', hre, ht, hrr, hcc⟩ := HW.o.next HRR.o hlt HB.o
              subst hre
              have hgt := cC HGR.o
              have qhh := qa hgt.2
              have qgZ : Hid (szF r' ≤ N) := qa (by have := HSR.o; rw [szF] at this; omega)
              have HCW := qa hcc
              have qcF := qa hrr
              have HBX := qa (dX wr y (.slice oj nj cj))
              have hbn := aD wr (.cells (tmA y (.slice oj nj cj)) 55)
              have HBA := qa (HB.o.trans (hbn.mono HB.o.size))
              have HT := qa (ht.up HBA.o)
              have HO2 := qa (HO.o.up hbn)
              have HBY := qa (HIH.o A0 _ y (.slice oj nj cj) j (by have := HSR.o; rw [szF] at this; omega) hgt.1 HT.o)
              have HV2 : Hid (iE (iE acc (one (nQ c y j (eM c j)) .nil)) (eM c r') = D) := qa (by rw [i8, ← HV.o, eM]; rfl)
              generalize nQ c y j (eM c j) = d1 at *
              obtain ⟨⟨dk, dn, da, db, dc, dd, dl, dh⟩, df⟩ := d1
              have qdq : Hid (cnt acc + cnt (.cons ⟨dk, dn, da, db, dc, dd, dl, dh⟩ df .nil) ≤ 1000000000) := qa (by have h := HDC.o; rw [← HV2.o, gX, gX] at h; simp only [cnt, one] at *; omega)
              clear hrr hcc HIX HRR HB HO hbn ht hgt HGR HSR HV qjB HIH HT
              obtain ⟨ykd, yn, ya, yb, yc, yd, ylo, yhi⟩ := y
              go_wp2_with (first
                | (refine eA rfl (.tmp 30) rfl b (off + i * 8) rfl ykd yn ya yb yc yd ylo yhi (.slice oj nj cj) HCW.o ?_)
                | (refine dC rfl (.tmp 7) rfl wr.heap.size rfl ykd yn ya yb yc yd ylo yhi (.slice oj nj cj) HBX.o ?_)
                | ((with_reducible refine HBY.o.mono ?_); rintro e w6 ⟨u6, rfl, hT6, hb⟩; obtain ⟨p6, n6, k6, hu6, -⟩ := hT6.form; subst hu6; have hAF := HO2.o.after HAB.o HBA.o.size hT6
                   have hb2 := aD w6 (.cells (tmA ⟨dk, dn, da, db, dc, dd, dl, dh⟩ (.slice p6 n6 k6)) 55)
                   have HX := qa (xY w6 ⟨dk, dn, da, db, dc, dd, dl, dh⟩ (.slice p6 n6 k6))
                   have HN := qa (cA.single (x := ⟨dk, dn, da, db, dc, dd, dl, dh⟩) (hAF.up hb2))
                   have HO3 := qa ((HO2.o.up hb).up hb2)
                   have hB6 := HBA.o.trans (hb.mono HBA.o.size)
                   have HBB := qa (hB6.trans (hb2.mono hB6.size))
                   clear hb hT6 hAF hb2 hB6)
                | (at_builtin; refine fQ rfl (.tmp 32) (.tmp 36) rfl A0 W1.heap.size _ acc rfl HO3.o _ rfl _ _ HX.o HN.o qdq.o HBB.o.size ?_; intro v5 w5 hO hg hq hk5; have HO5 := qa hO; have HB5 := qa (HBB.o.grown hg HBB.o.size hq); clear hO hg hq hk5))
              go_roundg (m - (i + 1))
              case measure => have := HGK.o; omega
              case rel => exact ⟨i + 1, _, r', by go_num, by omega, HO5.o, HV2, qhh.o, qgZ.o, qcF.o, HB5.o, rfl⟩
            · have hr0 := HRR.o.done (by rw [HW.o.len]; omega)
              subst hr0
              have he : acc = D := by rw [← HV.o, eM, nI]
              have HTA := qa HO.o.tms
              rw [he] at HTA
              have HSE := qa (HS.o.up HB.o)
              have HA2 : Hid (∀ b, upA A0 W1.heap.size b → A0 b ∨ w.heap.size + 1 + 1 ≤ b) := qa (fun b hb => by rw [← HSZ.o]; exact hb)
              clear HV HS HB HO HIH HRR he
              go_wp2_with (first
                | ((with_reducible refine (qjB.o _ _ _ HTA.o).mono ?_); rintro e w6 ⟨u6, rfl, hT6, hb⟩; have HC := qa (HSE.o.call2 (t := (⟨ak, an, aa, ab, ac, ad, al', ah⟩, af)) hT6 HA2.o hb); clear hb hT6)
                | (refine bT rfl (.tmp 4) (.tmp 40) rfl (w.heap.size + 1) rfl ⟨ak, an, aa, ab, ac, ad, al', ah⟩ u6 HC.o.tm.one rfl _ HC.o.box (show (8 : Nat) = 8 from rfl) ?_; intro w7 hbx hg; have HX7 := qa hbx; have qcy := qa hg; clear hbx hg))
              exact HC.o.ret HA1.o qcy.o HX7.o HR.o rfl rfl rfl
        · rw [qv h4] at HR
          by_cases h5 : 5 ≤ x.kd
          · obtain ⟨y, j, rfl⟩ := hk1 h5
            have hc1 : cnt (.cons y j .nil) = 1 := rfl
            obtain ⟨rs, oa, cap, b, off, hv, hd, hw⟩ := HS.o.tm.walk
            rw [hc1] at HS hv hd hw
            injection hv with e1 e2 e3
            subst e1
            subst e3
            obtain ⟨z, oj, nj, cj, j', r', hre, ht, -, hcc⟩ := hw.next (i := 0) hw.rows Nat.one_pos (qn _ _)
            injection hre with e4 e5 e6
            subst e4
            subst e5
            have qew : ∀ W, (Instr.indexAt 50 (.slice o 1 cp) (.int .i64 0)).run prog W = .ok (.pointer (some ⟨b, off, none⟩)) W := fun W => by simpa using fE hd W 0 Nat.one_pos
            obtain ⟨W1, hW1⟩ : ∃ W1, W1 = (w.alloc (.cells (tmA x (.slice o 1 cp)) 55)).alloc (.cells tm0 55) := ⟨_, rfl⟩
            have HCW : Hid (∀ q, q < 8 → W1.cell? ⟨b, off + q, none⟩ = some ((tmA y (.slice oj nj cj)).getD q undef)) := qa (by rw [hW1]; intro q hq; have h := hcc q hq; rw [Nat.zero_mul, jF] at h; exact h)
            have HTJ : Hid (bA A0 W1 (.slice oj nj cj) j) := qa (by rw [hW1]; exact ht)
            have HBK : Hid (b < W1.heap.size) := qa (by rw [hW1]; exact hd.hblk Nat.one_pos)
            have hgy : mW (y, j) := (cC HG.o.2.2).1
            have hsy : 1 + szF j ≤ N := by rw [szF, szF] at hs; omega
            have HBY := qa (fun (A' : Nat → Prop) (W : World) (hT : bA A' W (.slice oj nj cj) j) => ih A' W y (.slice oj nj cj) j hsy hgy hT)
            have hsd := B9 c y j (by omega)
            have hss := q1e (y, j)
            have hsr := fun lo hi => q8n (y, j) lo hi
            have hsj : szT (y, j) ≤ 400 := by show 1 + szF j ≤ 400; omega
            have HST := qa (fun (A' : Nat → Prop) (W : World) (hT : bA A' W (.slice oj nj cj) j) => qau (x := y) hT)
            have HRP := qa (fun (A' : Nat → Prop) (W : World) (lo hi : Int) (hT : bA A' W (.slice oj nj cj) j) => qc9 (x := y) lo hi hT)
            have HCC := qa (fun (A' : Nat → Prop) (W : World) (v' : Value) (t : Tm) (ht : szT t ≤ 401) (hT : bA A' W v' (one (nQ c y j (eM c j)) (one t .nil))) => qbl hT (by rw [lR, lR, szF]; omega))
            have HR2 : Hid (R = if x.kd = 5 ∨ x.kd = 6 then nZ (one (nQ c y j (eM c j)) (one (oE (y, j)) .nil)) else if x.kd = 7 then nQ c y j (eM c j)
              else if x.kd = 8 ∧ x.hi ≠ 0 then nZ (one (nQ c y j (eM c j)) (one (T4 (y, j) (gE x.lo) (gE x.hi)) .nil)) else iG) := qa HR.o
            have HSS : Hid (szT (oE (y, j)) ≤ 401) := qa (by omega)
            have HSR : Hid (∀ lo hi, szT (T4 (y, j) lo hi) ≤ 401) := qa (fun lo hi => by have := hsr lo hi; omega)
            generalize nQ c y j (eM c j) = d1 at *
            generalize oE (y, j) = st at *
            obtain ⟨⟨dk, dn, da, db, dc, dd, dl, dh⟩, df⟩ := d1
            have h1' : x.kd ≠ 1 := h1
            clear hk1 qcX hd hw hcc ht hgy hsy ih HHA HG HT0 hs hsd hss hsr hsj HEM e2 e6 HR
            simp only [cnt] at *
            by_cases h7 : x.kd = 7
            · rw [qv (by omega), qw h7] at HR2
              obtain ⟨kd, nn, a, b', c', d, lo, hi⟩ := x
              simp only at h7
              subst h7
              subst hW1
              go_enter func40, ntmps40
              go_wp2_with (first
                | (refine eA rfl (.tmp 61) rfl b off rfl _ _ _ _ _ _ _ _ (.slice oj nj cj) HCW.o ?_)
                | ((with_reducible refine (HBY.o _ _ HTJ.o).mono ?_); rintro e w6 ⟨u6, rfl, hT6, hb⟩; have HC := qa (HS.o.call (t := (⟨dk, dn, da, db, dc, dd, dl, dh⟩, df)) hT6 hb); clear hb hT6)
                | (refine bT rfl (.tmp 4) (.tmp 64) rfl (w.heap.size + 1) rfl ⟨dk, dn, da, db, dc, dd, dl, dh⟩ u6 HC.o.tm.one rfl _ HC.o.box (show (8 : Nat) = 8 from rfl) ?_; intro w7 hbx hg; have HX7 := qa hbx; have qcy := qa hg; clear hbx hg))
              exact HC.o.ret HA1.o qcy.o HX7.o HR2.o rfl rfl rfl
            · by_cases h56 : x.kd = 5 ∨ x.kd = 6
              · rw [qw h56] at HR2
                have HCS := qa (fun (A' : Nat → Prop) (W : World) (v' : Value) hT => HCC.o A' W v' st HSS.o hT)
                clear HCC HRP HSR HSS HNO
                generalize nZ (one (⟨dk, dn, da, db, dc, dd, dl, dh⟩, df) (one st .nil)) = ct at *
                obtain ⟨⟨sk, sn, sa, sb, sc, sd, sl, sh⟩, sf⟩ := st
                obtain ⟨⟨tk, tn, ta, tb, tc, td, tl, th⟩, tf⟩ := ct
                obtain ⟨kd, nn, a, b', c', d, lo, hi⟩ := x
                simp only at h56
                have q1 : (kd == 1) = false := beq_eq_false_iff_ne.2 (by omega)
                have q3 : (kd == 3) = false := beq_eq_false_iff_ne.2 (by omega)
                have q4 : (kd == 4) = false := beq_eq_false_iff_ne.2 (by omega)
                have q56 : (kd == 5) = true ∨ ((kd == 5) = false ∧ (kd == 6) = true) := h56.elim (fun e => .inl (by rw [e]; rfl)) (fun e => .inr (by rw [e]; exact ⟨rfl, rfl⟩))
                clear h1 h3 h4 h5 h7 hkd hc1 h1' HHI HOT hN h56
                subst hW1
                rcases q56 with q5 | ⟨q5, q6⟩
                all_goals
                  go_enter func40, ntmps40
                  go_upto_region 17 with (fail)
                  have hdr := HS.o.drew1
                  have HS6 := qa (HS.o.up hdr)
                  have qfz := qa (HTJ.o.up hdr)
                  have qhB := qa (qe HBK.o hdr.size)
                  have qhp := qa (fun q hq => (hdr.cell (p := ⟨b, off + q, none⟩) HBK.o).trans (HCW.o q hq))
                  refine cL (C := fun w' => ∃ x, w' = ext ((w.alloc (.cells (tmA ⟨kd, nn, a, b', c', d, lo, hi⟩ (.slice o 1 cp)) 55)).alloc (.cells tm0 55)).drew x) [0, 1, 2, 3, 4, 6, 7, 8, 9] [5, 10, 11, 12] [13] (by kernel_rfl) (by kernel_rfl) (aJ (qn _ _)) ?_
                  clear hdr HS HTJ HBK HCW
                  generalize ((w.alloc (.cells (tmA ⟨kd, nn, a, b', c', d, lo, hi⟩ (.slice o 1 cp)) 55)).alloc (.cells tm0 55)).drew = w6 at *
                  have HR6 := qa HS6.o.rws
                  have c7 : w6.cell? ⟨w.heap.size, 7, none⟩ = some (.slice o 1 cp) := HS6.o.tb.cell (i := 7) (show (7 : Nat) < 8 by decide)
                  have n7 : w.heap.size < w6.heap.size := (HS6.o.tb.lt _ rfl).2
                  simp only [pk]
                  repeat (first
                    | (go_big_quiet_want; refine cB 55 8 _ rfl b off rfl (tmA y (.slice oj nj cj)) rfl (fun w' hw' q hq => by obtain ⟨z, rfl⟩ := hw'; rw [(aE w6 z).cell (p := ⟨b, off + q, none⟩) qhB.o]; exact qhp.o q hq) _ underlying55 rfl (by kernel_rfl) ?_; go_simp; go_big_quiet_on)
                    | go_big_quiet_step (fail))
                  refine wpQuiet_nil ?_
                  have HAW : Hid (∀ b, A0 b → b < w6.heap.size) := qa (fun b hb => Nat.lt_trans (HA1.o b hb).2 n7)
                  unfold aF
                  go_wp2_with (first | ((with_reducible refine (HBY.o _ _ (HR6.o.old HAW.o qfz.o)).mono ?_); rintro e w7 ⟨u1, rfl, hT, hb⟩; have HD1 := qa (HR6.o.res hT); have HR7 := qa (HR6.o.up hb); clear hT hb))
                  refine ⟨aJ HR7.o.bel, ?_⟩
                  unfold aF
                  go_wp2_with (first | ((with_reducible refine (HST.o _ _ (HR7.o.old HAW.o qfz.o)).mono ?_); rintro e w8 ⟨u2, rfl, hT, hb⟩; have HD2 := qa (HR7.o.res hT); have HD1 := qa (HD1.o.up hb); have HR8 := qa (HR7.o.up hb); clear hT hb))
                  refine ⟨aJ HR8.o.bel, ?_⟩
                  unfold aF
                  obtain ⟨p1, n1, k1, hu1, -⟩ := HD1.o.form
                  obtain ⟨p2, n2, k2, hu2, -⟩ := HD2.o.form
                  subst hu1
                  subst hu2
                  have HTW : Hid (bA (UA A0 (w.heap.size + 1) none) (w8.alloc (.cells #[.int .i64 dk, .int .u64 da, .int .u64 db, .int .u64 dc, .int .u64 dd, .int .i64 dl, .int .i64 dh, .slice p1 n1 k1, .int .i64 sk, .int .u64 sa, .int .u64 sb, .int .u64 sc, .int .u64 sd, .int .i64 sl, .int .i64 sh, .slice p2 n2 k2] 55)) (.slice (some ⟨w8.heap.size, 0, none⟩) 2 2) (one (⟨dk, dn, da, db, dc, dd, dl, dh⟩, df) (one (⟨sk, sn, sa, sb, sc, sd, sl, sh⟩, sf) .nil))) := qa (HR8.o.two (x := ⟨dk, dn, da, db, dc, dd, dl, dh⟩) (y := ⟨sk, sn, sa, sb, sc, sd, sl, sh⟩) HD1.o HD2.o)
                  have HR9 : Hid (RwS w6 (w8.alloc (.cells #[.int .i64 dk, .int .u64 da, .int .u64 db, .int .u64 dc, .int .u64 dd, .int .i64 dl, .int .i64 dh, .slice p1 n1 k1, .int .i64 sk, .int .u64 sa, .int .u64 sb, .int .u64 sc, .int .u64 sd, .int .i64 sl, .int .i64 sh, .slice p2 n2 k2] 55)) (w.heap.size + 1) none) := qa (HR8.o.up (aD _ _))
                  go_wp2
                  refine ⟨aJ HR9.o.bel, ?_⟩
                  generalize (w8.alloc (.cells #[.int .i64 dk, .int .u64 da, .int .u64 db, .int .u64 dc, .int .u64 dd, .int .i64 dl, .int .i64 dh, .slice p1 n1 k1, .int .i64 sk, .int .u64 sa, .int .u64 sb, .int .u64 sc, .int .u64 sd, .int .i64 sl, .int .i64 sh, .slice p2 n2 k2] 55)) = w9 at *
                  unfold aF
                  go_wp2_with (first | ((with_reducible refine (HCS.o _ _ _ HTW.o).mono ?_); rintro e w10 ⟨u3, rfl, hT, hb⟩; have HE := qa (HR9.o.res hT); have qfH := qa (HR9.o.up hb); clear hT hb))
                  refine ⟨aJ qfH.o.bel, ?_⟩
                  unfold aF
                  have HC := qa (HS6.o.rpr (t := (⟨tk, tn, ta, tb, tc, td, tl, th⟩, tf)) qfH.o HE.o)
                  unfold aF
                  go_wp2_with (first | (refine bT rfl (.tmp 4) (.tmp 56) rfl (w.heap.size + 1) rfl ⟨tk, tn, ta, tb, tc, td, tl, th⟩ u3 HC.o.tm.one rfl _ HC.o.box (show (8 : Nat) = 8 from rfl) ?_; intro w11 hbx hg; have HX7 := qa hbx; have qcy := qa hg; clear hbx hg))
                  refine ⟨trivial, ?_⟩
                  unfold aF
                  go_wp2
                  exact HC.o.ret HA1.o qcy.o HX7.o HR2.o rfl rfl rfl
              · rw [qv h56, qv h7] at HR2
                by_cases h8 : x.kd = 8 ∧ x.hi ≠ 0
                · rw [qw h8] at HR2
                  have HLO : Hid (∀ W, Calls prog 78 #[.int .i64 x.lo] W fun e w' => e = .returned (.int .i64 (gE x.lo)) ∧ ∃ x, w' = ext W x) := qa (fun W => q8v x.lo (by have := HOT.o.2.2.2.1; omega))
                  have HHC : Hid (∀ W, Calls prog 78 #[.int .i64 x.hi] W fun e w' => e = .returned (.int .i64 (gE x.hi)) ∧ ∃ x, w' = ext W x) := qa (fun W => q8v x.hi (by have := HOT.o.2.2.2.2; omega))
                  have HCS := qa (fun (A' : Nat → Prop) (W : World) (v' : Value) hT => HCC.o A' W v' (T4 (y, j) (gE x.lo) (gE x.hi)) (HSR.o _ _) hT)
                  have HST := qa (fun (A' : Nat → Prop) (W : World) hT => HRP.o A' W (gE x.lo) (gE x.hi) hT)
                  clear HCC HRP HSR HSS HNO
                  generalize nZ (one (⟨dk, dn, da, db, dc, dd, dl, dh⟩, df) (one (T4 (y, j) (gE x.lo) (gE x.hi)) .nil)) = ct at *
                  generalize T4 (y, j) (gE x.lo) (gE x.hi) = rt at *
                  generalize gE x.lo = l1 at *
                  generalize gE x.hi = l2 at *
                  obtain ⟨⟨sk, sn, sa, sb, sc, sd, sl, sh⟩, sf⟩ := rt
                  obtain ⟨⟨tk, tn, ta, tb, tc, td, tl, th⟩, tf⟩ := ct
                  obtain ⟨kd, nn, a, b', c', d, lo, hi⟩ := x
                  simp only at h8 h1 h3 h4 h56 h7 HLO HHC
                  have q1 : (kd == 1) = false := beq_eq_false_iff_ne.2 (by omega)
                  have q3 : (kd == 3) = false := beq_eq_false_iff_ne.2 (by omega)
                  have q4 : (kd == 4) = false := beq_eq_false_iff_ne.2 (by omega)
                  have q5 : (kd == 5) = false := beq_eq_false_iff_ne.2 (by omega)
                  have q6 : (kd == 6) = false := beq_eq_false_iff_ne.2 (by omega)
                  have q7 : (kd == 7) = false := beq_eq_false_iff_ne.2 (by omega)
                  have q8 : (kd == 8) = true := a7.2 h8.1
                  have qh : (hi == 0) = false := beq_eq_false_iff_ne.2 h8.2
                  clear h1 h3 h4 h5 h7 hkd hc1 h1' HHI HOT hN h56 h8
                  subst hW1
                  go_enter func40, ntmps40
                  go_upto_region 22 with (fail)
                  have hdr := HS.o.drew1
                  have HS6 := qa (HS.o.up hdr)
                  have qfz := qa (HTJ.o.up hdr)
                  have qhB := qa (qe HBK.o hdr.size)
                  have qhp := qa (fun q hq => (hdr.cell (p := ⟨b, off + q, none⟩) HBK.o).trans (HCW.o q hq))
                  refine cL (C := fun w' => ∃ x, w' = ext ((w.alloc (.cells (tmA ⟨kd, nn, a, b', c', d, lo, hi⟩ (.slice o 1 cp)) 55)).alloc (.cells tm0 55)).drew x) [0, 1, 2, 3, 4, 6, 7, 8, 9, 10, 11, 13, 14] [5, 12, 15, 16, 17, 18] [19] (by kernel_rfl) (by kernel_rfl) (aJ (qn _ _)) ?_
                  clear hdr HS HTJ HBK HCW
                  generalize ((w.alloc (.cells (tmA ⟨kd, nn, a, b', c', d, lo, hi⟩ (.slice o 1 cp)) 55)).alloc (.cells tm0 55)).drew = w6 at *
                  have HR6 := qa HS6.o.rws
                  have c7 : w6.cell? ⟨w.heap.size, 7, none⟩ = some (.slice o 1 cp) := HS6.o.tb.cell (i := 7) (show (7 : Nat) < 8 by decide)
                  have c5 : w6.cell? ⟨w.heap.size, 5, none⟩ = some (.int .i64 lo) := HS6.o.tb.cell (i := 5) (show (5 : Nat) < 8 by decide)
                  have c6 : w6.cell? ⟨w.heap.size, 6, none⟩ = some (.int .i64 hi) := HS6.o.tb.cell (i := 6) (show (6 : Nat) < 8 by decide)
                  have n7 : w.heap.size < w6.heap.size := (HS6.o.tb.lt _ rfl).2
                  simp only [pk]
                  repeat (first
                    | (go_big_quiet_want; refine cB 55 8 _ rfl b off rfl (tmA y (.slice oj nj cj)) rfl (fun w' hw' q hq => by obtain ⟨z, rfl⟩ := hw'; rw [(aE w6 z).cell (p := ⟨b, off + q, none⟩) qhB.o]; exact qhp.o q hq) _ underlying55 rfl (by kernel_rfl) ?_; go_simp; go_big_quiet_on)
                    | go_big_quiet_step (fail))
                  refine wpQuiet_nil ?_
                  have HAW : Hid (∀ b, A0 b → b < w6.heap.size) := qa (fun b hb => Nat.lt_trans (HA1.o b hb).2 n7)
                  unfold aF
                  go_wp2_with (first | ((with_reducible refine (HBY.o _ _ (HR6.o.old HAW.o qfz.o)).mono ?_); rintro e w7 ⟨u1, rfl, hT, hb⟩; have HD1 := qa (HR6.o.res hT); have HR7 := qa (HR6.o.up hb); clear hT hb))
                  refine ⟨aJ HR7.o.bel, ?_⟩
                  unfold aF
                  go_wp2_with (first | ((with_reducible refine (HLO.o _).mono ?_); rintro e w71 ⟨rfl, hx⟩; have qiR := qa (HR7.o.up (aI hx)); have HD1 := qa (HD1.o.up (aI hx)); clear hx))
                  refine ⟨aJ qiR.o.bel, ?_⟩
                  unfold aF
                  go_wp2_with (first | ((with_reducible refine (HHC.o _).mono ?_); rintro e w72 ⟨rfl, hx⟩; have qg7 := qa (qiR.o.up (aI hx)); have HD1 := qa (HD1.o.up (aI hx)); clear hx))
                  refine ⟨aJ qg7.o.bel, ?_⟩
                  unfold aF
                  go_wp2_with (first | ((with_reducible refine (HST.o _ _ (qg7.o.old HAW.o qfz.o)).mono ?_); rintro e w8 ⟨u2, rfl, hT, hb⟩; have HD2 := qa (qg7.o.res hT); have HD1 := qa (HD1.o.up hb); have HR8 := qa (qg7.o.up hb); clear hT hb))
                  refine ⟨aJ HR8.o.bel, ?_⟩
                  unfold aF
                  obtain ⟨p1, n1, k1, hu1, -⟩ := HD1.o.form
                  obtain ⟨p2, n2, k2, hu2, -⟩ := HD2.o.form
                  subst hu1
                  subst hu2
                  have HTW : Hid (bA (UA A0 (w.heap.size + 1) none) (w8.alloc (.cells #[.int .i64 dk, .int .u64 da, .int .u64 db, .int .u64 dc, .int .u64 dd, .int .i64 dl, .int .i64 dh, .slice p1 n1 k1, .int .i64 sk, .int .u64 sa, .int .u64 sb, .int .u64 sc, .int .u64 sd, .int .i64 sl, .int .i64 sh, .slice p2 n2 k2] 55)) (.slice (some ⟨w8.heap.size, 0, none⟩) 2 2) (one (⟨dk, dn, da, db, dc, dd, dl, dh⟩, df) (one (⟨sk, sn, sa, sb, sc, sd, sl, sh⟩, sf) .nil))) := qa (HR8.o.two (x := ⟨dk, dn, da, db, dc, dd, dl, dh⟩) (y := ⟨sk, sn, sa, sb, sc, sd, sl, sh⟩) HD1.o HD2.o)
                  have HR9 : Hid (RwS w6 (w8.alloc (.cells #[.int .i64 dk, .int .u64 da, .int .u64 db, .int .u64 dc, .int .u64 dd, .int .i64 dl, .int .i64 dh, .slice p1 n1 k1, .int .i64 sk, .int .u64 sa, .int .u64 sb, .int .u64 sc, .int .u64 sd, .int .i64 sl, .int .i64 sh, .slice p2 n2 k2] 55)) (w.heap.size + 1) none) := qa (HR8.o.up (aD _ _))
                  go_wp2
                  refine ⟨aJ HR9.o.bel, ?_⟩
                  generalize (w8.alloc (.cells #[.int .i64 dk, .int .u64 da, .int .u64 db, .int .u64 dc, .int .u64 dd, .int .i64 dl, .int .i64 dh, .slice p1 n1 k1, .int .i64 sk, .int .u64 sa, .int .u64 sb, .int .u64 sc, .int .u64 sd, .int .i64 sl, .int .i64 sh, .slice p2 n2 k2] 55)) = w9 at *
                  unfold aF
                  go_wp2_with (first | ((with_reducible refine (HCS.o _ _ _ HTW.o).mono ?_); rintro e w10 ⟨u3, rfl, hT, hb⟩; have HE := qa (HR9.o.res hT); have qfH := qa (HR9.o.up hb); clear hT hb))
                  refine ⟨aJ qfH.o.bel, ?_⟩
                  unfold aF
                  have HC := qa (HS6.o.rpr (t := (⟨tk, tn, ta, tb, tc, td, tl, th⟩, tf)) qfH.o HE.o)
                  unfold aF
                  go_wp2_with (first | (refine bT rfl (.tmp 4) (.tmp 88) rfl (w.heap.size + 1) rfl ⟨tk, tn, ta, tb, tc, td, tl, th⟩ u3 HC.o.tm.one rfl _ HC.o.box (show (8 : Nat) = 8 from rfl) ?_; intro w11 hbx hg; have HX7 := qa hbx; have qcy := qa hg; clear hbx hg))
                  refine ⟨trivial, ?_⟩
                  unfold aF
                  go_wp2
                  exact HC.o.ret HA1.o qcy.o HX7.o HR2.o rfl rfl rfl
                · rw [qv h8] at HR2
                  clear HCC HRP HSR HSS HBY HST
                  have hk8 := hkd
                  obtain ⟨kd, nn, a, b', c', d, lo, hi⟩ := x
                  simp only at h8 h1 h3 h4 h56 h7 hk8 h5
                  have h88 : kd = 8 := by omega
                  have hh0 : hi = 0 := by omega
                  have q1 : (kd == 1) = false := beq_eq_false_iff_ne.2 (by omega)
                  have q3 : (kd == 3) = false := beq_eq_false_iff_ne.2 (by omega)
                  have q4 : (kd == 4) = false := beq_eq_false_iff_ne.2 (by omega)
                  have q5 : (kd == 5) = false := beq_eq_false_iff_ne.2 (by omega)
                  have q6 : (kd == 6) = false := beq_eq_false_iff_ne.2 (by omega)
                  have q7 : (kd == 7) = false := beq_eq_false_iff_ne.2 (by omega)
                  have q8 : (kd == 8) = true := a7.2 h88
                  have qh : (hi == 0) = true := a7.2 hh0
                  clear h1 h3 h4 h5 h7 hkd hc1 h1' HHI HOT hN h56 h8 h88 hh0 hk8
                  subst hW1
                  go_enter func40, ntmps40
                  go_wp2_with (first
                    | ((with_reducible refine (HNO.o _).mono ?_); rintro e w6 ⟨u6, rfl, hT6, hb⟩; have HC := qa (HS.o.call (t := iG) hT6 hb); clear hb hT6)
                    | (refine bT rfl (.tmp 4) (.tmp 89) rfl (w.heap.size + 1) rfl noT u6 HC.o.tm.one rfl _ HC.o.box (show (8 : Nat) = 8 from rfl) ?_; intro w7 hbx hg; have HX7 := qa hbx; have qcy := qa hg; clear hbx hg))
                  exact HC.o.ret HA1.o qcy.o HX7.o HR2.o rfl rfl rfl
          · have HR2 : Hid (R = iG) := qa (by rw [HR.o, qv (by omega), qv (by omega), qv (by omega)])
            clear qcX HHA hk1 HHI HOT ih HEM HG HT0 HR
            have hk8 := hkd
            obtain ⟨kd, nn, a, b', c', d, lo, hi⟩ := x
            simp only at h1 h3 h4 h5 hk8
            have h22 : kd = 2 := by omega
            have q1 : (kd == 1) = false := beq_eq_false_iff_ne.2 (by omega)
            have q3 : (kd == 3) = false := beq_eq_false_iff_ne.2 (by omega)
            have q4 : (kd == 4) = false := beq_eq_false_iff_ne.2 (by omega)
            have q5 : (kd == 5) = false := beq_eq_false_iff_ne.2 (by omega)
            have q6 : (kd == 6) = false := beq_eq_false_iff_ne.2 (by omega)
            have q7 : (kd == 7) = false := beq_eq_false_iff_ne.2 (by omega)
            have q8 : (kd == 8) = false := beq_eq_false_iff_ne.2 (by omega)
            clear h1 h3 h4 h5 hkd hk8 h22 hN hs
            go_enter func40, ntmps40
            go_wp2_with (first
              | ((with_reducible refine (HNO.o _).mono ?_); rintro e w6 ⟨u6, rfl, hT6, hb⟩; have HC := qa (HS.o.call (t := iG) hT6 hb); clear hb hT6)
              | (refine bT rfl (.tmp 4) (.tmp 89) rfl (w.heap.size + 1) rfl noT u6 HC.o.tm.one rfl _ HC.o.box (show (8 : Nat) = 8 from rfl) ?_; intro w7 hbx hg; have HX7 := qa hbx; have qcy := qa hg; clear hbx hg))
            exact HC.o.ret HA1.o qcy.o HX7.o HR2.o rfl rfl rfl
def q8z(t:Tm)(n:Nat)(w:World)(e:Ending)(w':World):Prop:=∃u,e=.returned (.tuple #[.agg (tmA t.1 u),.int .i64 (n:Int)])/\bA (upA (fun _=>False) w.heap.size) w' u t.2/\Below w.heap.size w w'
structure TdS(w W:World)(x:Nd)(u:Value)(acc:Fo):Prop where
 bel:Below w.heap.size w W
 res:kH W w.heap.size (tmC ⟨0,0,0,0,0,0,0,0⟩ (.slice none 0 0))
 box:kH W (w.heap.size+1+1) (tmC x u)
 own:pF (fun _=>False) W (w.heap.size+1+1+1) 55 u acc
 sz:w.heap.size+1+1+1<=W.heap.size
theorem TdS.up{w W W':World}{x:Nd}{u:Value}{acc:Fo}(h:TdS w W x u acc)(hb:Below W.heap.size W W'):TdS w W' x u acc:=
 ⟨h.bel.trans (hb.mono h.bel.size),h.res.up hb,h.box.up hb,h.own.up hb,qc h.sz hb.size⟩
theorem TdS.push{w W W':World}{x:Nd}{u v:Value}{acc g:Fo}(h:TdS w W x u acc)(hO:pF (fun _=>False) W' (w.heap.size+1+1+1) 55 v (iE acc g))(hg:W.grownBy W' u.ownBlock)(hq:∀q,u.ownBlock=some q->w.heap.size+1+1+1<=q):
  kH W' (w.heap.size+1+1) (tmC x u)/\TdS w (W'.setCell ⟨w.heap.size+1+1,7,none⟩ v) x v (iE acc g):=by
 have h1:=h.box.keep hg (.inr (fun e=>by have:=hq _ e.symm;simp only at this;omega));have h2:=h.res.keep hg (.inr (fun e=>by have:=hq _ e.symm;simp only at this;omega));obtain⟨h3,h4⟩:=h1.store 7 v;have hb:=h.bel.grown hg h.bel.size (fun q e=>qc (by omega) (hq q e));refine⟨h1,hb.grown h4 hb.size (by rintro q ⟨⟩;omega),h2.keep h4 (.inr (fun e=>?_)),h3,hO.keep h4 (fun q e=>?_),qc (qc h.sz hg.size) h4.size⟩
 ·have:=qr (show some w.heap.size=some (w.heap.size+1+1)from e)
  omega
 injection e with e;subst e;exact⟨fun e2=>by have:=(hO.lt _ e2).1;omega,fun hb=>hb.elim id (fun hb=>by omega)⟩
theorem TdS.ret{fn:Func}{tmps:Array Value}{w W W':World}{ds:List Deferred}{s b n:Nat}{x:Nd}{u:Value}{acc:Fo}(h:TdS w W x u acc)(hg:W.grownBy W' (some w.heap.size))(hB:kH W' w.heap.size (tmC x u))
  (hf:fn.results=#[.cell s 55,.tmp b]) (ha:tmps.getD s undef=.pointer (some ⟨w.heap.size,0,none⟩)) (hb:tmps.getD b undef=.int .i64 n) (hd:ds=[]):bodyPost prog fn (q8z (x,acc) n w) .ret ⟨tmps,ds⟩ W':=by
 have ho:pF (fun _=>False) W' (w.heap.size+1+1+1) 55 u acc:=h.own.keep hg (fun q e=>by
  injection e with e;subst e;exact⟨fun e2=>by have:=(h.own.lt _ e2).1;omega,fun hb=>hb.elim id (fun hb=>by omega)⟩)
 exact bS hf ha hb hd hB.load ⟨u,rfl,ho.tms.mono (fun b hb=>hb.imp id (fun h=>by omega)),h.bel.grown hg h.bel.size (by rintro q ⟨⟩;exact qb _)⟩
theorem q7v (N : Nat) : ∀ (w : World) (v : Value) (l post : List Nd) (x : Nd) (k : Fo), (bO k).length < N → bE w v l → l.length ≤ 400 → l = x :: (bO k ++ post) → x.n = cnt k → wf k →
    Calls prog 49 #[v] w (q8z (x, k) (1 + (bO k).length) w) := by
  induction N with
  | zero => intro w v l post x k h; omega
  | succ N ih =>
  intro w v l post x k hN h hl hd0 hn hk
  have HIH := qa ih
  have HAT := qa h
  obtain ⟨oa, cap, b, off, rfl, hd, hc⟩ := h.open
  obtain ⟨hi, hx, hd1⟩ := gS (d := zN) (i := 0) (l := l) hd0
  have hix : ∀ W : World, (Instr.indexAt 42 (.slice oa l.length cap) (.int .i64 0)).run prog W = .ok (.pointer (some ⟨b, off, none⟩)) W := fun (W : World) => by
    have := fG hd W .i64 0 (by omega) (by omega)
    simpa using this
  have hb := hd.hblk (by omega)
  have hck := r0 k
  have hlk : 1 + (bO k).length + post.length = l.length := by
    have := j0 List.length hd1
    simp only [j4, qj] at this; omega
  have hc0 := hc 0 hi
  rw [hx] at hc0
  have HD := qa hd1
  have HK := qa hk
  obtain ⟨T, hT⟩ : ∃ T : Nat, T = 1 + (bO k).length := ⟨_, rfl⟩
  rw [← hT]
  have HTT := qa hT
  obtain ⟨xk, xn, xa, xb, xc, xd, xl, xh⟩ := x
  change xn = _ at hn
  subst hn
  have HCE : Hid (∀ c', c' < 8 → (w.alloc (.cells tm0 55)).cell? ⟨b, off + c', none⟩ = some ((#[.int .i64 xk, .int .i64 (cnt k), .int .u64 xa, .int .u64 xb, .int .u64 xc, .int .u64 xd, .int .i64 xl, .int .i64 xh] : Array Value).getD c' undef)) := qa (fun c' h => by
    have := hc0 c' h
    rw [wN, Nat.zero_mul, jF] at this
    rw [(aD w (.cells tm0 55)).cell (p := ⟨b, off + c', none⟩) hb]; exact this)
  clear ih h hd hc hx hd0 hd1 hk hc0
  go_enter func49, ntmps49
  go_wp2_with (refine aH rfl 98 _ rfl b off 8 rfl _ _ HCE.o rfl underlying98 rfl (by kernel_rfl) ?_)
  have h1 := aD w (.cells tm0 55)
  have h2 := aD (w.alloc (.cells tm0 55)) (.cells #[.int .i64 xk, .int .i64 (cnt k), .int .u64 xa, .int .u64 xb, .int .u64 xc, .int .u64 xd, .int .i64 xl, .int .i64 xh] 98)
  have h3 := aD ((w.alloc (.cells tm0 55)).alloc (.cells #[.int .i64 xk, .int .i64 (cnt k), .int .u64 xa, .int .u64 xb, .int .u64 xc, .int .u64 xd, .int .i64 xl, .int .i64 xh] 98)) (.cells (tmA ⟨xk, cnt k, xa, xb, xc, xd, xl, xh⟩ (.slice none 0 0)) 55)
  have h4 := dX ((w.alloc (.cells tm0 55)).alloc (.cells #[.int .i64 xk, .int .i64 (cnt k), .int .u64 xa, .int .u64 xb, .int .u64 xc, .int .u64 xd, .int .i64 xl, .int .i64 xh] 98)) ⟨xk, cnt k, xa, xb, xc, xd, xl, xh⟩ (.slice none 0 0)
  rw [show ((w.alloc (.cells tm0 55)).alloc (.cells #[.int .i64 xk, .int .i64 (cnt k), .int .u64 xa, .int .u64 xb, .int .u64 xc, .int .u64 xd, .int .i64 xl, .int .i64 xh] 98)).heap.size = w.heap.size + 1 + 1 by simp] at h4
  have HS0 : Hid (TdS w (((w.alloc (.cells tm0 55)).alloc (.cells #[.int .i64 xk, .int .i64 (cnt k), .int .u64 xa, .int .u64 xb, .int .u64 xc, .int .u64 xd, .int .i64 xl, .int .i64 xh] 98)).alloc (.cells (tmA ⟨xk, cnt k, xa, xb, xc, xd, xl, xh⟩ (.slice none 0 0)) 55)) ⟨xk, cnt k, xa, xb, xc, xd, xl, xh⟩ (.slice none 0 0) .nil) :=
    qa ⟨h1.trans ((h2.trans (h3.mono h2.size)).mono h1.size), ((dX w ⟨0, 0, 0, 0, 0, 0, 0, 0⟩ (.slice none 0 0)).up h2).up h3, h4, pF.nil _ _ _ _, by simp⟩
  clear h1 h2 h3 h4
  go_loopg [6, 23] (cnt k) (fun gk av jv wr => ∃ (j at_ : Nat) (acc r : Fo) (u : Value), jv = .int .i64 j ∧ av = .int .i64 at_ ∧ at_ + (bO r).length + post.length = l.length ∧ j + cnt r = cnt k ∧ l.drop at_ = bO r ++ post ∧ wf r ∧ Hid (iE acc r = k) ∧ (bO r).length ≤ (bO k).length ∧ cnt acc ≤ 400 ∧ TdS w wr ⟨xk, cnt k, xa, xb, xc, xd, xl, xh⟩ u acc ∧ gk = cnt r)
  case atStart => exact ⟨0, 1, .nil, k, _, rfl, rfl, by omega, by omega, HD.o, HK.o, qa rfl, qb _, qd _, HS0.o, rfl⟩
  case round =>
    obtain ⟨j, at_, acc, r, u, rfl, rfl, qdC, hj, hdr, hwr, HV, hrk, hac, hS, hgk⟩ := hrel
    have HS := qa hS
    have HGK := qa hgk
    obtain ⟨o1, n1, c1, hu1, -⟩ := hS.own.tms.form
    subst hu1
    clear hS hgk HS0
    cases r with
    | nil =>
      have hje : j = cnt k := by simpa [cnt] using hj
      clear hT
      have hae : at_ = T := by rw [HTT.o]; simp only [bO, qO] at qdC; omega
      have qg6 : acc = k := by rw [← HV.o, nI]
      subst qg6
      subst hae
      subst hje
      clear hdr hwr hj HV HTT
      go_wp2_with (first
        | (refine dC rfl (.tmp 5) rfl (w.heap.size + 1 + 1) rfl xk _ xa xb xc xd xl xh (.slice o1 n1 c1) HS.o.box ?_)
        | (refine bT rfl (.tmp 2) (.tmp 42) rfl w.heap.size rfl ⟨xk, (cnt acc : Int), xa, xb, xc, xd, xl, xh⟩ (.slice o1 n1 c1) rfl rfl _ HS.o.res (show (8 : Nat) = 8 from rfl) ?_; intro w7 hbx hg; have HX7 := qa hbx; have qcy := qa hg; clear hbx hg))
      all_goals exact HS.o.ret qcy.o HX7.o rfl rfl rfl rfl
    | cons y ky r' =>
      simp only [cnt] at hj
      simp only [bO, jm, qk] at hdr
      simp only [bO, qA, qj] at qdC hrk
      obtain ⟨hy1, hy2, hy3⟩ := hwr
      obtain ⟨-, -, qdd⟩ := gS (d := zN) hdr
      have HDR : Hid (l.drop (at_ + 1 + (bO ky).length) = bO r' ++ post) := qa (uE qdd)
      obtain ⟨u, hsl, hnu⟩ := (HAT.o.up HS.o.bel).high at_ (by omega)
      have HCL := qa (HIH.o wr u _ (bO r' ++ post) y ky (by omega) hnu (by rw [j4]; omega) hdr hy1 hy2)
      have HW3 := qa hy3
      have HV2 : Hid (iE (iE acc (.cons y ky .nil)) r' = k) := qa (by rw [i8]; exact HV.o)
      have HAC : Hid (cnt acc + cnt (.cons y ky .nil) ≤ 400) := qa (by have h := j0 cnt HV2.o; rw [gX, gX] at h; omega)
      clear hdr qdd hy1 hy2 hy3 hnu HV
      obtain ⟨ykd, yn, ya, yb, yc, yd, ylo, yhi⟩ := y
      go_wp2_with (first
        | ((with_reducible refine HCL.o.mono ?_); rintro e w6 ⟨u6, rfl, hT6, hb⟩; obtain ⟨p6, n6, k6, hu6, -⟩ := hT6.form; subst hu6
           have hAF := HS.o.own.after (fun b hb => hb.elim) HS.o.sz hT6
           have hb1 := aD w6 (.cells (tmA ⟨ykd, yn, ya, yb, yc, yd, ylo, yhi⟩ (.slice p6 n6 k6)) 55)
           have hb2 := aD (w6.alloc (.cells (tmA ⟨ykd, yn, ya, yb, yc, yd, ylo, yhi⟩ (.slice p6 n6 k6)) 55)) (.cells (tmA ⟨ykd, yn, ya, yb, yc, yd, ylo, yhi⟩ (.slice p6 n6 k6)) 55)
           have HBX := qa (dX w6 ⟨ykd, yn, ya, yb, yc, yd, ylo, yhi⟩ (.slice p6 n6 k6))
           have hX := xY (w6.alloc (.cells (tmA ⟨ykd, yn, ya, yb, yc, yd, ylo, yhi⟩ (.slice p6 n6 k6)) 55)) ⟨ykd, yn, ya, yb, yc, yd, ylo, yhi⟩ (.slice p6 n6 k6)
           rw [show (w6.alloc (.cells (tmA ⟨ykd, yn, ya, yb, yc, yd, ylo, yhi⟩ (.slice p6 n6 k6)) 55)).heap.size = w6.heap.size + 1 by simp] at hX
           have HX := qa hX
           have HN := qa (cA.single (x := ⟨ykd, yn, ya, yb, yc, yd, ylo, yhi⟩) ((hAF.up hb1).up hb2))
           have HS6 := qa (HS.o.up hb)
           have HS7 := qa ((HS6.o.up hb1).up hb2)
           have c7 : w6.cell? ⟨w.heap.size + 1 + 1, 7, none⟩ = some (.slice o1 n1 c1) := HS6.o.box.cell (i := 7) (show (7 : Nat) < 8 by decide)
           have n7 : w.heap.size + 1 + 1 < w6.heap.size := (HS6.o.box.lt _ rfl).2
           clear hb hT6 hAF hb1 hb2 hX)
        | (refine dC rfl (.tmp 7) rfl w6.heap.size rfl ykd yn ya yb yc yd ylo yhi (.slice p6 n6 k6) HBX.o ?_)
        | (at_builtin; refine fQ rfl (.tmp 33) (.tmp 35) rfl (fun _ => False) (w.heap.size + 1 + 1 + 1) _ acc rfl HS7.o.own _ rfl _ _ HX.o HN.o (qc HAC.o (by decide)) HS7.o.sz ?_; intro v5 w5 hO hg hq hk5; obtain ⟨o5, n5, c5, hv5, -⟩ := hO.tms.form; subst hv5; have HP := qa (HS7.o.push hO hg hq); have c75 : w5.cell? ⟨w.heap.size + 1 + 1, 7, none⟩ = some (.slice o1 n1 c1) := HP.o.1.cell (i := 7) (show (7 : Nat) < 8 by decide); have f75 : w5.frozen? ⟨w.heap.size + 1 + 1, 7, none⟩ = false := HP.o.1.free 7; have n75 : w.heap.size + 1 + 1 < w5.heap.size := (HP.o.1.lt _ rfl).2; clear hO hg hq hk5))
      go_roundg (cnt r')
      case measure => have := HGK.o; simp only [cnt] at this; omega
      case rel => exact ⟨j + 1, at_ + 1 + (bO ky).length, _, r', _, by go_num, by go_num, by omega, by omega, HDR.o, HW3.o, HV2, by omega, by rw [gX]; exact HAC.o, HP.o.2, rfl⟩
def q5g(l:List Nd)(w:World)(e:Ending)(w':World):Prop:=∃v,e=.returned v/\bE w' v l/\Below w.heap.size w w'
theorem qaw{A:Nat->Prop}:∀(N:Nat) {w:World} {x:Nd} {u:Value} {k:Fo},szF k<N->N<=400000->x.n=cnt k->wf k->bA A w u k->
  Calls prog 44 #[.agg (tmA x u)] w (q5g (x::bO k) w):=by
 intro N
 induction N with
 |zero=>intro w x u k h;omega
 |succ N ih=>
  intro w x u k hn hM hxn hwk h;obtain⟨rs,oa,cap,b,off,rfl,hd,hw⟩:=h.walk;have HIX:=qa (fE hd);have HW:=qa hw;have hm:=hd.len;have hck:=L6 k;obtain⟨R,hR⟩:∃R,R=x::bO k:=⟨_,rfl⟩;rw[<-hR];have HR0:Hid (cA A w (rs.drop 0) k):=qa hw.rows;have HV0:Hid ([x]++bO k=R):=qa hR.symm;have HSZ:Hid (R.length<=400001):=qa (by rw[hR,qA,<-sC];omega);have HWF:=qa hwk;have HN:=qa hn;have IH:Hid (∀(W:World) (y:Nd) (v:Value) (j:Fo),szF j<N->y.n=cnt j->wf j->bA A W v j->Calls prog 44 #[.agg (tmA y v)] W (q5g (y::bO j) W)):=qa (fun W y v j hj hy hwj hT=>ih hj (by omega) hy hwj hT);obtain⟨kd,nn,a,b',c,d,lo,hi⟩:=x;change nn=_ at hxn;subst hxn;generalize hmm:cnt k=m at*;clear hd hw h ih hR hn hwk;have hb1:=aD w (.cells (tmA ⟨kd,m,a,b',c,d,lo,hi⟩ (.slice oa m cap)) 55);have hb2:=aD (w.alloc (.cells (tmA ⟨kd,m,a,b',c,d,lo,hi⟩ (.slice oa m cap)) 55)) (.cells #[.int .i64 kd,.int .i64 m,.int .u64 a,.int .u64 b',.int .u64 c,.int .u64 d,.int .i64 lo,.int .i64 hi] 98);have HB0:=qa (hb1.trans (hb2.mono hb1.size));have hO:=oU 8 (w.alloc (.cells (tmA ⟨kd,m,a,b',c,d,lo,hi⟩ (.slice oa m cap)) 55)) w.heap.size #[.int .i64 kd,.int .i64 m,.int .u64 a,.int .u64 b',.int .u64 c,.int .u64 d,.int .i64 lo,.int .i64 hi] 98 ([⟨kd,m,a,b',c,d,lo,hi⟩].map ndC) rfl (by simp[ndC]) (show(1:Nat)<=4294967296 by decide) hb1.size;rw[show(w.alloc (.cells (tmA ⟨kd,m,a,b',c,d,lo,hi⟩ (.slice oa m cap)) 55)).heap.size=w.heap.size+1 by simp]at hO;have HO0:=qa hO;clear hb1 hb2 hO;go_enter func44,ntmps44;go_wp2
  go_loopg [3,22] m (fun gk ov iv wr=>∃(i:Nat) (acc:List Nd) (r:Fo),iv=.int .i64 i/\i<=m/\eL 8 wr w.heap.size 98 ov (acc.map ndC)/\Hid (acc++bO r=R)/\wf r/\szF r<=N/\cA A w (rs.drop i) r/\Below w.heap.size w wr/\gk=m-i)
  case atStart=>exact⟨0,_,k,rfl,qd _,HO0.o,HV0.o,HWF.o,by have:=HN.o;omega,HR0.o,HB0.o,rfl⟩
  case round=>
   obtain⟨i,acc,r,rfl,hi,hO,HV,hwr,hsr,hrr,hB,hgk⟩:=hrel;have HB:=qa hB;have HO:=qa hO;have HGK:=qa hgk;have HRR:=qa hrr;clear hB hgk hrr hO HR0 HV0 HB0 HO0;by_cases hlt:i<m
   ·have qcB:=fun W=>HIX.o W i hlt
    obtain⟨y,oj,nj,cj,j,r',hre,ht,hrr,hcc⟩:=HW.o.next HRR.o hlt HB.o;subst hre;obtain⟨hw1,hw2,hw3⟩:=hwr;have HW3:=qa hw3;have HSR:Hid (szF r'<=N):=qa (by rw[szF]at hsr;omega);have HCW:=qa hcc;have qcF:=qa hrr;have HBX:=qa (dX wr y (.slice oj nj cj));have hbn:=aD wr (.cells (tmA y (.slice oj nj cj)) 55);have HBA:=qa (HB.o.trans (hbn.mono HB.o.size));have HT:=qa (ht.up HBA.o);have HO2:=qa (HO.o.up hbn);have HCL:=qa (IH.o _ y (.slice oj nj cj) j (by rw[szF]at hsr;omega) hw1 hw2 HT.o);have HV2:Hid ((acc++(y::bO j))++bO r'=R):=qa (by rw[<-HV.o,bO];simp);have HL:Hid (acc.length+(y::bO j).length<=1000000000):=qa (by have h:=j0 List.length HV2.o;have:=HSZ.o;rw[qj,qj]at h;omega);obtain⟨nl,hnl⟩:∃nl,nl=y::bO j:=⟨_,rfl⟩;rw[<-hnl]at HV2 HL HCL;clear hrr hcc HIX HRR HB HO hbn ht hw1 hw2 hw3 HV IH HT hnl hsr;obtain⟨ykd,yn,ya,yb,yc,yd,ylo,yhi⟩:=y
    go_wp2_with(first
     |(refine eA rfl (.tmp 24) rfl b (off+i*8) rfl ykd yn ya yb yc yd ylo yhi (.slice oj nj cj) HCW.o ?_)
     |(refine dC rfl (.tmp 5) rfl wr.heap.size rfl ykd yn ya yb yc yd ylo yhi (.slice oj nj cj) HBX.o ?_)
     |((with_reducible refine HCL.o.mono ?_);rintro e w6 ⟨u6,rfl,hN6,hb⟩;have HN6:=qa hN6;have HB6:=qa (HBA.o.trans (hb.mono HBA.o.size));have HO6:=qa (HO2.o.up hb);clear hb hN6)
     |(at_builtin;refine eP 8 rfl (.tmp 26) (.tmp 28) 42 rfl w.heap.size 98 (.agg #[.int .i64 0,.int .i64 0,.int .u64 0,.int .u64 0,.int .u64 0,.int .u64 0,.int .i64 0,.int .i64 0]) 64 underlying42 (by kernel_rfl) rfl (by decide) (by decide) _ (acc.map ndC) rfl HO6.o u6 (nl.map ndC) rfl HN6.o (q7l _) (q7m _) (by rw[qB,qB];exact HL.o) HB6.o.size ?_;intro v5 w5 hO hg hk5;have HO5:Hid (eL 8 w5 w.heap.size 98 v5 ((acc++nl).map ndC)):=qa (by rw[qH];exact hO);have HB5:=qa (HB6.o.grown hg HB6.o.size (fun q e=>(HO6.o.lt q e).1));clear hO hg hk5))
    go_roundg (m-(i+1))
    case measure=>have:=HGK.o;omega
    case rel=>exact⟨i+1,_,r',by go_num,by omega,HO5.o,HV2,HW3.o,HSR.o,qcF.o,HB5.o,rfl⟩
   have hr0:=HRR.o.done (by rw[HW.o.len];omega);subst hr0;have hE:acc=R:=by rw[<-HV.o,bO,j7]
   subst hE;clear HV hwr hsr;go_wp2;go_ret;exact⟨_,rfl,HO.o.sl,HB.o⟩
noncomputable def gvT(l:List Nd):Tm:=if Chk l then hdT (kD l)else iG
def q8A(t:Tm)(q:Bool)(w:World)(e:Ending)(w':World):Prop:=∃u,e=.returned (.tuple #[.agg (tmA t.1 u),.bool q])/\bA (upA (fun _=>False) w.heap.size) w' u t.2/\Below w.heap.size w w'
theorem q5h{fn:Func}{tmps:Array Value}{w W W':World}{ds:List Deferred}{s b:Nat}{q:Bool}{x:Nd}{u:Value}{k:Fo}(hT:bA (upA (fun _=>False) (w.heap.size+1)) W u k)(hb:Below w.heap.size w W)(hg:W.grownBy W' (some w.heap.size))(hB:kH W' w.heap.size (tmC x u))
  (hf:fn.results=#[.cell s 55,.tmp b]) (ha:tmps.getD s undef=.pointer (some ⟨w.heap.size,0,none⟩)) (hbb:tmps.getD b undef=.bool q) (hd:ds=[]):bodyPost prog fn (q8A (x,k) q w) .ret ⟨tmps,ds⟩ W':=by
 refine bS hf ha hbb hd hB.load ⟨u,rfl,(hT.keep hg.size (fun b hb hlt=>hg.block b hlt ?_)).mono (fun b hb=>hb.imp id (fun h=>by omega)),hb.grown hg hb.size (by rintro q ⟨⟩;exact qb _)⟩;intro e;injection e with e;rcases hb with h|h
 ·exact h
 omega
theorem q1n {w : World} {v : Value} {l : List Nd} (h : bE w v l) : Calls prog 17 #[v] w (q8A (gvT l) (decide (Chk l)) w) := by
  have HB1 := qa (aD w (.cells tm0 55))
  have HG1 := qa (dX w ⟨0, 0, 0, 0, 0, 0, 0, 0⟩ (.slice none 0 0))
  have HS1 : Hid (w.heap.size + 1 ≤ (w.alloc (.cells tm0 55)).heap.size) := qa (by simp)
  have HN := qa h
  by_cases hc : Chk l
  · obtain ⟨x, k, h1, h2, h3, -, -, h6⟩ := oV hc
    have HCK := qa (fun W (hW : bE W v l) => by have := q1V hW; rw [oZ hc] at this; exact this)
    have HTD := qa (fun W (hW : bE W v l) => q7v 400 W v l [] x k h6 hW (by have := j0 List.length h1; simp only [qA] at this; omega) (by rw [h1, j7]) h2 h3)
    have HR : Hid (gvT l = (x, k)) := qa (by unfold gvT; rw [qw hc, h1, fN x k h2 h3]; rfl)
    have HQ : Hid (decide (Chk l) = true) := qa (by simp [hc])
    generalize 1 + (bO k).length = T at *
    rw [HR.o, HQ.o]
    obtain ⟨kd, nn, a, b', c, d, lo, hi⟩ := x
    clear h hc h1 h2 h3 h6 HR HQ
    go_enter func17, ntmps17
    go_wp2_with (first
      | ((with_reducible refine (HCK.o _ (HN.o.up HB1.o)).mono ?_); rintro e w5 ⟨rfl, hx⟩; have HB5 := qa (HB1.o.trans ((aI hx).mono HB1.o.size)); have HG5 := qa (HG1.o.up (aI hx)); have HS5 := qa (qc HS1.o (aI hx).size); clear hx)
      | ((with_reducible refine (HTD.o _ (HN.o.up HB5.o)).mono ?_); rintro e w6 ⟨u6, rfl, hT6, hb⟩; obtain ⟨p6, n6, k6, hu6, -⟩ := hT6.form; subst hu6
         have ha := aD w6 (.cells (tmA ⟨kd, nn, a, b', c, d, lo, hi⟩ (.slice p6 n6 k6)) 55)
         have HT6 : Hid (bA (upA (fun _ => False) (w.heap.size + 1)) (w6.alloc (.cells (tmA ⟨kd, nn, a, b', c, d, lo, hi⟩ (.slice p6 n6 k6)) 55)) (.slice p6 n6 k6) k) := qa ((hT6.mono fun b hb => hb.imp id (qc HS5.o)).up ha)
         have HX6 := qa (dX w6 ⟨kd, nn, a, b', c, d, lo, hi⟩ (.slice p6 n6 k6))
         have hb6 := HB5.o.trans (hb.mono HB5.o.size)
         have HB6 := qa (hb6.trans (ha.mono hb6.size)); have HG6 := qa ((HG5.o.up hb).up ha); clear hT6 hb ha hb6)
      | (refine dC rfl (.tmp 4) rfl w6.heap.size rfl kd nn a b' c d lo hi (.slice p6 n6 k6) HX6.o ?_)
      | (refine bT rfl (.tmp 2) (.tmp 15) rfl w.heap.size rfl ⟨kd, nn, a, b', c, d, lo, hi⟩ (.slice p6 n6 k6) rfl rfl _ HG6.o (show (8 : Nat) = 8 from rfl) ?_; intro w7 hbx hg; have HX7 := qa hbx; have qcy := qa hg; clear hbx hg))
    all_goals exact q5h HT6.o HB6.o qcy.o HX7.o rfl rfl rfl rfl
  · have HCK := qa (fun W (hW : bE W v l) => by have := q1V hW; rw [p3 hc] at this; exact this)
    have HNO : Hid (∀ W, Calls prog 48 #[] W (nR (fun _ => False) iG W)) := qa (fun W => q3p _)
    have HR : Hid (gvT l = (noT, .nil)) := qa (by unfold gvT; rw [qv hc]; rfl)
    have HQ : Hid (decide (Chk l) = false) := qa (by simp [hc])
    rw [HR.o, HQ.o]
    clear h hc HR HQ
    go_enter func17, ntmps17
    go_wp2_with (first
      | ((with_reducible refine (HCK.o _ (HN.o.up HB1.o)).mono ?_); rintro e w5 ⟨rfl, hx⟩; have HB5 := qa (HB1.o.trans ((aI hx).mono HB1.o.size)); have HG5 := qa (HG1.o.up (aI hx)); have HS5 := qa (qc HS1.o (aI hx).size); clear hx)
      | ((with_reducible refine (HNO.o _).mono ?_); rintro e w6 ⟨u6, rfl, hT6, hb⟩; have HB6 := qa (HB5.o.trans (hb.mono HB5.o.size)); have HG6 := qa (HG5.o.up hb); have HT6 : Hid (bA (upA (fun _ => False) (w.heap.size + 1)) w6 u6 .nil) := qa (hT6.mono (fun b hb => hb.imp id (qc HS5.o))); clear hb hT6)
      | (refine bT rfl (.tmp 2) (.tmp 9) rfl w.heap.size rfl noT u6 HT6.o.one rfl _ HG6.o (show (8 : Nat) = 8 from rfl) ?_; intro w7 hbx hg; have HX7 := qa hbx; have qcy := qa hg; clear hbx hg))
    all_goals exact q5h HT6.o HB6.o qcy.o HX7.o rfl rfl rfl rfl
noncomputable def q9i(c:Nat)(l:List Nd):List Nd:=
 if Chk l then(if kG (nQ c (gvT l).1 (gvT l).2 (eM c (gvT l).2)).1=true\/400<szT (nQ c (gvT l).1 (gvT l).2 (eM c (gvT l).2))then []else(nQ c (gvT l).1 (gvT l).2 (eM c (gvT l).2)).1::bO (nQ c (gvT l).1 (gvT l).2 (eM c (gvT l).2)).2)else []
theorem vF(w:World):bE w (.slice none 0 0) []:=(eL.nil 8 w 0 0).sl
theorem q5i {w : World} {v : Value} {l : List Nd} (c : Nat) (hcb : c < 256) (h : bE w v l) (hq : ∀ x ∈ l, NdQ x) : Calls prog 15 #[v, .int .u8 (c : Int)] w (q5g (q9i c l) w) := by
  have HN := qa h
  have HGV := qa (fun W (hW : bE W v l) => q1n hW)
  obtain ⟨R, hR⟩ : ∃ R, R = q9i c l := ⟨_, rfl⟩
  rw [← hR]
  unfold q9i at hR
  by_cases hc : Chk l
  · obtain ⟨x, k, h1, h2, h3⟩ := vB hc hq
    have hl := hc.2.1
    have hkl : szF k < 400 := by
      obtain ⟨x', k', h1', -, -, -, -, h6⟩ := oV hc
      rw [sC]
      have := j0 List.length h1
      have h7 := j0 List.length h1'
      simp only [qA] at this h7
      omega
    have hg : gvT l = (x, k) := by unfold gvT; rw [qw hc, h2]; rfl
    rw [hg, show decide (Chk l) = true by simp [hc]] at HGV
    rw [qw hc, hg] at hR
    simp only at hR
    have HBY := qa (fun (A' : Nat → Prop) (W : World) (u : Value) (hT : bA A' W u k) => qbm c hcb 400 (qb _) A' W x u k (by omega) h3 hT)
    have hgd := uR (c := c) h3.1 h3.2.2 (fV c k h3.2.2)
    have hsd := B9 c x k (by omega)
    generalize nQ c x k (eM c k) = t at *
    obtain ⟨⟨dk, dn, da, db, dc, dd, dl, dh⟩, df⟩ := t
    have hst : szT (⟨dk, dn, da, db, dc, dd, dl, dh⟩, df) = 1 + szF df := rfl
    rw [hst] at hR hsd
    have HSZ := qa (fun (A' : Nat → Prop) (W : World) (u : Value) (hT : bA A' W u df) => q5b (A := A') 400000 (w := W) (x := ⟨dk, dn, da, db, dc, dd, dl, dh⟩) (u := u) (by omega) (by decide) hT)
    have HDD := qa (fun (W : World) (u : Value) => M4 (w := W) ⟨dk, dn, da, db, dc, dd, dl, dh⟩ u)
    have HLD := qa (fun (A' : Nat → Prop) (W : World) (u : Value) (hT : bA A' W u df) => qaw (A := A') 400000 (w := W) (x := ⟨dk, dn, da, db, dc, dd, dl, dh⟩) (u := u) (k := df) (by omega) (by decide) hgd.2.1 hgd.2.2.2 hT)
    simp only at hR
    generalize kG ⟨dk, dn, da, db, dc, dd, dl, dh⟩ = q at *
    generalize (⟨dk, dn, da, db, dc, dd, dl, dh⟩ :: bO df : List Nd) = nl at *
    obtain ⟨kd, nn, a, b', c', d, lo, hi⟩ := x
    have HR := qa hR
    generalize hS : 1 + szF df = S at *
    clear h hc h1 h2 h3 hl hkl hg hgd hst hR hS
    by_cases hs4 : 400 < S
    all_goals
      have HS4 := qa hs4
      cases q
      all_goals
        go_enter func15, ntmps15
        go_wp2_with (first
          | ((with_reducible refine (HGV.o _ HN.o).mono ?_); rintro e w6 ⟨u6, rfl, hT6, hb⟩; obtain ⟨p6, n6, k6, hu6, -⟩ := hT6.form; subst hu6
             have ha := aD w6 (.cells (tmA ⟨kd, nn, a, b', c', d, lo, hi⟩ (.slice p6 n6 k6)) 55)
             have HT6 := qa (hT6.up ha)
             have HX6 := qa (dX w6 ⟨kd, nn, a, b', c', d, lo, hi⟩ (.slice p6 n6 k6))
             have HB6 := qa (hb.trans (ha.mono hb.size)); clear hT6 hb ha)
          | (refine dC rfl (.tmp 5) rfl w6.heap.size rfl kd nn a b' c' d lo hi (.slice p6 n6 k6) HX6.o ?_)
          | ((with_reducible refine (HBY.o _ _ _ HT6.o).mono ?_); rintro e w7 ⟨u7, rfl, hT7, hb⟩; obtain ⟨p7, n7, k7, hu7, -⟩ := hT7.form; subst hu7
             have ha := aD w7 (.cells (tmA ⟨dk, dn, da, db, dc, dd, dl, dh⟩ (.slice p7 n7 k7)) 55)
             have HT7 := qa (hT7.up ha)
             have HX7 := qa (dX w7 ⟨dk, dn, da, db, dc, dd, dl, dh⟩ (.slice p7 n7 k7))
             have HB7 := qa (HB6.o.trans ((hb.trans (ha.mono hb.size)).mono HB6.o.size)); clear hT7 hb ha)
          | (refine dC rfl (.tmp 7) rfl w7.heap.size rfl dk dn da db dc dd dl dh (.slice p7 n7 k7) HX7.o ?_)
          | ((with_reducible refine (HDD.o _ _).mono ?_); rintro e w8 ⟨rfl, hx⟩; have HX7 := qa (HX7.o.up (aI hx)); have HT7 := qa (HT7.o.up (aI hx)); have HB7 := qa (HB7.o.trans ((aI hx).mono HB7.o.size)); have c0 : w8.cell? ⟨w7.heap.size, 0, none⟩ = some (.int .i64 dk) := HX7.o.cell (i := 0) (show (0 : Nat) < 8 by decide); have c1 : w8.cell? ⟨w7.heap.size, 1, none⟩ = some (.int .u64 da) := HX7.o.cell (i := 1) (show (1 : Nat) < 8 by decide); have c2 : w8.cell? ⟨w7.heap.size, 2, none⟩ = some (.int .u64 db) := HX7.o.cell (i := 2) (show (2 : Nat) < 8 by decide); have c3 : w8.cell? ⟨w7.heap.size, 3, none⟩ = some (.int .u64 dc) := HX7.o.cell (i := 3) (show (3 : Nat) < 8 by decide); have c4 : w8.cell? ⟨w7.heap.size, 4, none⟩ = some (.int .u64 dd) := HX7.o.cell (i := 4) (show (4 : Nat) < 8 by decide); have c5 : w8.cell? ⟨w7.heap.size, 5, none⟩ = some (.int .i64 dl) := HX7.o.cell (i := 5) (show (5 : Nat) < 8 by decide); have c6 : w8.cell? ⟨w7.heap.size, 6, none⟩ = some (.int .i64 dh) := HX7.o.cell (i := 6) (show (6 : Nat) < 8 by decide); have c7 : w8.cell? ⟨w7.heap.size, 7, none⟩ = some (.slice p7 n7 k7) := HX7.o.cell (i := 7) (show (7 : Nat) < 8 by decide); clear hx)
          | ((with_reducible refine (HSZ.o _ _ _ HT7.o).mono ?_); rintro e w9 ⟨rfl, hx⟩; have HX7 := qa (HX7.o.up (aI hx)); have HT7 := qa (HT7.o.up (aI hx)); have HB7 := qa (HB7.o.trans ((aI hx).mono HB7.o.size)); clear hx)
          | ((with_reducible refine (HLD.o _ _ _ HT7.o).mono ?_); rintro e w10 ⟨u10, rfl, hN, hb⟩; have qen := qa hN; have HB7 := qa (HB7.o.trans (hb.mono HB7.o.size)); clear hb hN))
        all_goals (go_ret; rw [HR.o]; first
          | (rw [qw (show (true = true ∨ 400 < S) from .inl rfl)]; exact ⟨_, rfl, vF _, HB7.o⟩)
          | (rw [qw (show (True ∨ 400 < S) from .inl True.intro)]; exact ⟨_, rfl, vF _, HB7.o⟩)
          | (rw [qw (show (false = true ∨ 400 < S) from .inr HS4.o)]; exact ⟨_, rfl, vF _, HB7.o⟩)
          | (rw [qv (show ¬ (false = true ∨ 400 < S) from fun h => h.elim (fun e => by cases e) HS4.o)]; exact ⟨_, rfl, qen.o, HB7.o⟩))
  · rw [show decide (Chk l) = false by simp [hc], show gvT l = (noT, .nil) by unfold gvT; rw [qv hc]; rfl] at HGV
    rw [qv hc] at hR
    have HR := qa hR
    clear h hc hR hq
    go_enter func15, ntmps15
    go_wp2_with (first
      | ((with_reducible refine (HGV.o _ HN.o).mono ?_); rintro e w6 ⟨u6, rfl, hT6, hb⟩; obtain ⟨p6, n6, k6, hu6, -⟩ := hT6.form; subst hu6
         have ha := aD w6 (.cells (tmA noT (.slice p6 n6 k6)) 55)
         have HB6 := qa (hb.trans (ha.mono hb.size)); clear hT6 hb ha))
    go_ret
    rw [HR.o]
    exact ⟨_, rfl, vF _, HB6.o⟩
end Go.Cm
