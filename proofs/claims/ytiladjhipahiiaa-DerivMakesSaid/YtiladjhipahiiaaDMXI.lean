/- Walks of functions and plain facts, joined and squeezed by a program. Conditions: as each says. -/
import Derived.Test.YtiladjhipahiiaaDMXH
set_option maxHeartbeats 8000000
set_option maxRecDepth 100000
set_option linter.unusedSimpArgs false
open Go.Proofs.Try
namespace Go.Cm
open Go.RowKit Go.Proofs
theorem ZmI0{P:Prop}(h:P:=by
 go_wp2;refine aH [0,1,2,3,4,5,6,7,8,9,10,11,12,13,14,15,16,17,18,19,20] [] [21,22] (by kernel_rfl) (by kernel_rfl) ?_;simp only[pk]
 repeat(go_big_quiet_step (fail))
 refine wpQuiet_nil ?_;unfold aD;unfold aD;go_wp2;refine⟨trivial,?_⟩;unfold aD;go_wp2;refine⟨trivial,?_⟩;unfold aD;go_wp2
 go_roundg (N-(j+1))
 case measure=>omega
 case rel=>
  have h1:=HST.o true;have h2:=q6r.o true (by simp);exact⟨j+1,upd G' i j true,by go_num,by omega,h1.1.up (aG _),h2.1,h2.2,(HW.o.grown h1.2 HW.o.size (fun k hk=>by cases hk;exact q6u)).trans ((aG _).mono (by simpa using HW.o.size)),rfl⟩):P:=h
theorem ZmI1{P:Prop}(h:P:=by
 go_wp2;refine aH [0,1,2,3,4,5,6,7,8,9,10,11,12,13,14,15,16,17,18,19,20] [] [21,22] (by kernel_rfl) (by kernel_rfl) ?_;simp only[pk]
 repeat(go_big_quiet_step (fail))
 refine wpQuiet_nil ?_;unfold aD;unfold aD;go_wp2;refine⟨trivial,?_⟩;unfold aD;go_wp2;refine⟨trivial,?_⟩;unfold aD;go_wp2
 go_roundg (N-(k+1))
 case measure=>omega
 case rel=>
  have h1:=HST.o true;exact⟨k+1,upd G i k true,by go_num,by omega,h1.1.up (aG _),q6r.o true (by simp),(HW.o.grown h1.2 HW.o.size (fun k hk=>by cases hk;exact q6u)).trans ((aG _).mono (by simpa using HW.o.size)),rfl⟩):P:=h
theorem ZmI2{P:Prop}(h:P:=by
 rintro(h1|⟨h1,h2|⟨h3,h2⟩⟩)
 ·exact .inl h1
 ·exact .inr ⟨h1,.inl h2⟩
 exact .inr ⟨h1,.inr ⟨by omega,h2⟩⟩):P:=h
theorem eP{w:World}{oa:Option Addr}{b off len cap:Nat}(h:Hd w oa len cap b off):
  ∀(W:World) (i:Nat),i<len->(Instr.indexAt 119 (.slice oa len cap) (.int .i64 i)).run prog W=.ok (.pointer (some ⟨b,off+i,none⟩)) W:=fun W i hi=>by
 have:=aZ (P:=prog) 119 118 underlying119 (by kernel_rfl) h W .i64 i (by omega) (by omega);simpa using this
theorem eB{w:World}{oa:Option Addr}{b off len cap:Nat}(h:Hd w oa len cap b off):
  ∀(W:World) (i:Nat),i<len->(Instr.indexAt 118 (.slice oa len cap) (.int .i64 i)).run prog W=.ok (.pointer (some ⟨b,off+i,none⟩)) W:=fun W i hi=>by
 have:=aZ (P:=prog) 118 4 underlying118 (by kernel_rfl) h W .i64 i (by omega) (by omega);simpa using this
theorem zL{w:World}{va vb:Value}{N:Nat}{A B:Nat->Nat->Bool}(ha:fW w va N A)(hb:fW w vb N B)(h0:0<N)(hN:N<=100000):
  Calls prog 79 #[va,vb] w fun e w'=>∃u,e=.returned u/\(∃G,gR w' w.heap.size u N G/\∀p q,p<N->q<N->(G p q=true↔A p q=true\/B p q=true))/\Below w.heap.size w w':=by
 have HG:=qa (sQ (w:=w) hN);obtain⟨oa,ca,ba,fa,rfl,hda,hra⟩:=ha.open;obtain⟨ob,cb,bb,fb,rfl,hdb,hrb⟩:=hb.open;have qbp:=eP hda;have qbo:=eP hdb;have hba:=hda.hblk h0;have hbb:=hdb.hblk h0;have HRA:=qa hra;have HRB:=qa hrb;clear ha hb hda hdb hra hrb;go_enter func79,ntmps79
 go_upto_region 2 with((with_reducible go_at_call 75);refine HG.o.mono ?_;rintro en w1 ⟨u,rfl,ho,hb⟩;obtain⟨g,cap,rfl,hgb,hd⟩:=ho.form h0;have HO1:=qa ho;have HB1:=qa hb;have HD:=qa hd;clear ho hb hd)
 have q6P:=eP HD.o;simp only[qH]at q6P;go_wp2
 go_loopg [6] N (fun gk iv wr=>∃(i:Nat) (G:Nat->Nat->Bool),iv=.int .i64 i/\i<=N/\gR wr w.heap.size (.slice (some ⟨g,0,none⟩) N cap) N G/\(∀p q,p<i->q<N->(G p q=true↔A p q=true\/B p q=true))/\Below w.heap.size w wr/\gk=N-i)
 case atStart=>exact⟨0,_,rfl,qd _,HO1.o,fun p q hp _=>absurd hp (qB p),HB1.o,rfl⟩
 case round=>
  obtain⟨i,G,rfl,hi,ho,hg,hbl,rfl⟩:=hrel;have HO:=qa ho;have HW:=qa hbl;have HGS:=qa hg;clear hbl hg ho HO1 HB1;by_cases hlt:i<N
  ·obtain⟨oai,cai,bai,fai,hca,q79,q7Z⟩:=HRA.o i hlt
   obtain⟨obi,cbi,bbi,fbi,hcb,q78,q7X⟩:=HRB.o i hlt;have q8W:=eB q79;have q8V:=eB q78;have q95:=q79.hblk h0;have q94:=q78.hblk h0;have HCA:=qa hca;have HCB:=qa hcb;have q9w:=qa q7Z;have q9v:=qa q7X;clear hca hcb q7Z q7X q79 q78;go_wp2;have HOO:=HO;have HWO:=HW;clear HO HW;generalize wr=wo at*
   go_loopg [7] N (fun gk jv wr=>∃(j:Nat) (G:Nat->Nat->Bool),jv=.int .i64 j/\j<=N/\gR wr w.heap.size (.slice (some ⟨g,0,none⟩) N cap) N G/\(∀p q,p<i->q<N->(G p q=true↔A p q=true\/B p q=true))/\(∀q,q<j->(G i q=true↔A i q=true\/B i q=true))/\Below w.heap.size w wr/\gk=N-j)
   case atStart=>exact⟨0,G,rfl,qd _,HOO.o,HGS.o,fun q hq=>absurd hq (qB q),HWO.o,rfl⟩
   case round=>
    obtain⟨j,G',rfl,hj,ho,hg,hgi,hbl,rfl⟩:=hrel;have HO:=qa ho;have HW:=qa hbl;have HG1:=qa hg;have HG2:=qa hgi;clear hg hgi hbl HOO HWO;by_cases q6d:j<N
    ·obtain⟨bp,cp,hcr,hdp,hgw,hbp,hq⟩:=ho.at hlt
     obtain⟨hcq,hfq,hst⟩:=hq j q6d;have hbw:=hdp.hblk h0;have q6M:=eB hdp;simp only[qH]at q6M;have xa:=(HW.o.cell (p:=⟨ba,fa+i,none⟩) hba).trans HCA.o;have xb:=(HW.o.cell (p:=⟨bb,fb+i,none⟩) hbb).trans HCB.o;have ya:=(HW.o.cell (p:=⟨bai,fai+j,none⟩) q95).trans (q9w.o j q6d);have yb:=(HW.o.cell (p:=⟨bbi,fbi+j,none⟩) q94).trans (q9v.o j q6d);have hws:=HW.o.size;have la:ba<wr.heap.size:=by omega
     have lb:bb<wr.heap.size:=by omega
     have lai:bai<wr.heap.size:=by omega
     have lbi:bbi<wr.heap.size:=by omega
     have HST:=qa hst;have q6u:w.heap.size<=bp:=hbp;have n1:ba≠bp:=by omega
     have n2:bb≠bp:=by omega
     obtain⟨x,hx⟩:∃x,x=A i j:=⟨_,rfl⟩;obtain⟨y,hy⟩:∃y,y=B i j:=⟨_,rfl⟩;have HX:=qa hx;have HY:=qa hy;rw[<-hx]at ya;rw[<-hy]at yb
     have q6r:Hid (∀(b:Bool),(b=true↔x=true\/y=true)->(∀p q,p<i->q<N->(upd G' i j b p q=true↔A p q=true\/B p q=true))/\(∀q,q<j+1->(upd G' i j b i q=true↔A i q=true\/B i q=true))):=qa (fun b hb=>by
      refine⟨fun p q hp hq=>?_,fun q hq=>?_⟩
      ·unfold upd;rw[qu (fun e=>by omega)];exact HG1.o p q hp hq
      unfold upd;by_cases hqj:q=j
      ·rw[qv ⟨rfl,hqj⟩,hqj,<-HX.o,<-HY.o];exact hb
      rw[qu (fun e=>hqj e.2)];exact HG2.o q (by omega))
     clear ho hq hdp hst hx hy;cases x with
     |true=>
      exact ZmI0
     |false=>
      cases y with
      |true=>
       exact ZmI0
      |false=>
       go_wp2;refine aH [0,1,2,3,4,5,6,7,8,9,10,11,12,13,14,15,16,17,18,19,20] [] [21,22] (by kernel_rfl) (by kernel_rfl) ?_;simp only[pk]
       repeat(go_big_quiet_step (fail))
       refine wpQuiet_nil ?_;unfold aD;unfold aD;go_wp2;refine⟨trivial,?_⟩;unfold aD;go_wp2;refine⟨trivial,?_⟩;unfold aD;go_wp2
       go_roundg (N-(j+1))
       case measure=>omega
       case rel=>
        have h1:=HST.o false;have h2:=q6r.o false (by simp);exact⟨j+1,upd G' i j false,by go_num,by omega,h1.1.up (aG _),h2.1,h2.2,(HW.o.grown h1.2 HW.o.size (fun k hk=>by cases hk;exact q6u)).trans ((aG _).mono (by simpa using HW.o.size)),rfl⟩
    go_wp2
    go_roundg (N-(i+1))
    case measure=>omega
    case rel=>
     refine⟨i+1,G',by go_num,by omega,HO.o,fun p q hp hq=>?_,HW.o,rfl⟩;by_cases hpi:p=i
     ·rw[hpi];exact HG2.o q (by omega)
     exact HG1.o p q (by omega) hq
  have hie:i=N:=by omega
  subst hie;go_wp2;go_ret;exact⟨_,rfl,⟨G,HO.o,HGS.o⟩,HW.o⟩
def Th(A B:Nat->Nat->Bool)(N i j k p r:Nat):Prop:=(p<i/\∃q,q<N/\A p q=true/\B q r=true)\/(p=i/\((∃q,q<j/\A i q=true/\B q r=true)\/(r<k/\A i j=true/\B j r=true)))
def ThI(A B G:Nat->Nat->Bool)(N i j k:Nat):Prop:=∀p r,p<N->r<N->(G p r=true↔Th A B N i j k p r)
theorem q0Y(A B:Nat->Nat->Bool)(N:Nat):ThI A B (fun _ _=>false) N 0 0 0:=fun p r _ _=>⟨fun h=>(by cases h),fun h=>by
 rcases h with⟨h,_⟩|⟨_,⟨q,h,_⟩|⟨h,_⟩⟩<;>omega⟩
theorem q3M{A B G:Nat->Nat->Bool}{N i j k:Nat}(h:ThI A B G N i j k)(hi:i<N)(hk:k<N)(ha:A i j=true)(b:Bool)(hb:b=true↔G i k=true\/B j k=true):ThI A B (upd G i k b) N i j (k+1):=fun p r hp hr=>by
 unfold upd;by_cases hpr:p=i/\r=k
 ·rw[qv hpr,hb,h i k hi hk]
  obtain⟨rfl,rfl⟩:=hpr;unfold Th
  constructor
  ·rintro(h1|h1)
   ·rcases h1 with⟨h1,h2⟩|⟨_,h2|⟨h1,h2⟩⟩
    ·exact .inl ⟨h1,h2⟩
    ·exact .inr ⟨rfl,.inl h2⟩
    omega
   exact .inr ⟨rfl,.inr ⟨by omega,ha,h1⟩⟩
  rintro(⟨h1,h2⟩|⟨_,h2|⟨h1,h2,h3⟩⟩)
  ·exact .inl (.inl ⟨h1,h2⟩)
  ·exact .inl (.inr ⟨rfl,.inl h2⟩)
  exact .inr h3
 rw[qu hpr,h p r hp hr];unfold Th
 constructor
 ·exact ZmI2
 exact ZmI2
theorem q1O{A B G:Nat->Nat->Bool}{N i j k:Nat}(h:ThI A B G N i j k)(hk:k=N\/A i j=false):ThI A B G N i (j+1) 0:=fun p r hp hr=>by
 rw[h p r hp hr];unfold Th
 constructor
 ·rintro(h1|⟨h1,⟨q,h2,h3⟩|⟨h3,h2⟩⟩)
  ·exact .inl h1
  ·exact .inr ⟨h1,.inl ⟨q,by omega,h3⟩⟩
  exact .inr ⟨h1,.inl ⟨j,by omega,h2⟩⟩
 rintro(h1|⟨h1,⟨q,h2,h3⟩|⟨h3,_⟩⟩)
 ·exact .inl h1
 ·by_cases hq:q=j
  ·subst hq
   rcases hk with hk|hk
   ·exact .inr ⟨h1,.inr ⟨by omega,h3⟩⟩
   rw[hk]at h3;cases h3.1
  exact .inr ⟨h1,.inl ⟨q,by omega,h3⟩⟩
 omega
theorem q2w{A B G:Nat->Nat->Bool}{N i:Nat}(h:ThI A B G N i N 0):ThI A B G N (i+1) 0 0:=fun p r hp hr=>by
 rw[h p r hp hr];unfold Th
 constructor
 ·rintro(⟨h1,h2⟩|⟨h1,h2|⟨h3,_⟩⟩)
  ·exact .inl ⟨by omega,h2⟩
  ·exact .inl ⟨by omega,h1▸h2⟩
  omega
 rintro(⟨h1,h2⟩|⟨h1,⟨q,h2,_⟩|⟨h2,_⟩⟩)
 ·by_cases hpi:p=i
  ·exact .inr ⟨hpi,.inl (hpi▸h2)⟩
  exact .inl ⟨by omega,h2⟩
 ·omega
 omega
theorem q3N{w:World}{va vb:Value}{N:Nat}{A B:Nat->Nat->Bool}(ha:fW w va N A)(hb:fW w vb N B)(h0:0<N)(hN:N<=100000):
  Calls prog 78 #[va,vb] w fun e w'=>∃u,e=.returned u/\(∃G,fW w' u N G/\∀p r,p<N->r<N->(G p r=true↔∃q,q<N/\A p q=true/\B q r=true))/\Below w.heap.size w w':=by
 have HG:=qa (sQ (w:=w) hN);obtain⟨oa,ca,ba,fa,rfl,hda,hra⟩:=ha.open;obtain⟨ob,cb,bb,fb,rfl,hdb,hrb⟩:=hb.open;have qbp:=eP hda;have qbo:=eP hdb;have hba:=hda.hblk h0;have hbb:=hdb.hblk h0;have HRA:=qa hra;have HRB:=qa hrb;have qbY:=qa (q0Y A B N);clear ha hb hda hdb hra hrb;go_enter func78,ntmps78
 go_upto_region 2 with((with_reducible go_at_call 75);refine HG.o.mono ?_;rintro en w1 ⟨u,rfl,ho,hb⟩;obtain⟨g,cap,rfl,hgb,hd⟩:=ho.form h0;have HO1:=qa ho;have HB1:=qa hb;have HD:=qa hd;clear ho hb hd)
 have q6P:=eP HD.o;simp only[qH]at q6P;go_wp2
 go_loopg [6] N (fun gk iv wr=>∃(i:Nat) (G:Nat->Nat->Bool),iv=.int .i64 i/\i<=N/\gR wr w.heap.size (.slice (some ⟨g,0,none⟩) N cap) N G/\ThI A B G N i 0 0/\Below w.heap.size w wr/\gk=N-i)
 case atStart=>exact⟨0,_,rfl,qd _,HO1.o,qbY.o,HB1.o,rfl⟩
 case round=>
  obtain⟨i,G,rfl,hi,ho,hg,hbl,rfl⟩:=hrel;have HO:=qa ho;have HW:=qa hbl;have HGS:=qa hg;clear hbl hg ho HO1 HB1;by_cases hlt:i<N
  ·obtain⟨oai,cai,bai,fai,hca,q79,q7Z⟩:=HRA.o i hlt
   have q8W:=eB q79;have q95:=q79.hblk h0;have HCA:=qa hca;have q9w:=qa q7Z;clear hca q7Z q79;go_wp2;have HOO:=HO;have HWO:=HW;clear HO HW;generalize wr=wo at*
   go_loopg [7] N (fun gk jv wr=>∃(j:Nat) (G:Nat->Nat->Bool),jv=.int .i64 j/\j<=N/\gR wr w.heap.size (.slice (some ⟨g,0,none⟩) N cap) N G/\ThI A B G N i j 0/\Below w.heap.size w wr/\gk=N-j)
   case atStart=>exact⟨0,G,rfl,qd _,HOO.o,HGS.o,HWO.o,rfl⟩
   case round=>
    obtain⟨j,G,rfl,hj,ho,hg,hbl,rfl⟩:=hrel;have HO:=qa ho;have HW:=qa hbl;have HGS:=qa hg;clear hg hbl HOO HWO ho;by_cases q6d:j<N
    ·obtain⟨obi,cbi,bbi,fbi,hcb,q78,q7X⟩:=HRB.o j q6d
     have q8V:=eB q78;have q94:=q78.hblk h0;have HCB:=qa hcb;have q9v:=qa q7X;clear hcb q7X q78;obtain⟨z,hz⟩:∃z,z=A i j:=⟨_,rfl⟩;have HZ:=qa hz;have HZC:Hid (w.cell? ⟨bai,fai+j,none⟩=some (.bool z)):=qa (by rw[hz];exact q9w.o j q6d);clear hz;go_wp2;have HOO:=HO;have HWO:=HW;clear HO HW;generalize wr=wo2 at*
     go_loopg [8] N (fun gk kv wr=>∃(k:Nat) (G:Nat->Nat->Bool),kv=.int .i64 k/\k<=N/\gR wr w.heap.size (.slice (some ⟨g,0,none⟩) N cap) N G/\ThI A B G N i j k/\Below w.heap.size w wr/\gk=N-k)
     case atStart=>exact⟨0,G,rfl,qd _,HOO.o,HGS.o,HWO.o,rfl⟩
     case round=>
      obtain⟨k,G,rfl,hk,ho,hg,hbl,rfl⟩:=hrel;have HO:=qa ho;have HW:=qa hbl;have HGS:=qa hg;clear hg hbl HOO HWO;have hws:=HW.o.size;by_cases q71:k<N
      ·have xa:=(HW.o.cell (p:=⟨ba,fa+i,none⟩) hba).trans HCA.o
       have ya:=(HW.o.cell (p:=⟨bai,fai+j,none⟩) q95).trans HZC.o;have la:ba<wr.heap.size:=by omega
       have lai:bai<wr.heap.size:=by omega
       cases z with
       |false=>
        have HTN:=qa (q1O HGS.o (.inr HZ.o.symm));clear ho;go_wp2
        go_roundg (N-(j+1))
        case measure=>omega
        case rel=>exact⟨j+1,G,by go_num,by omega,HO.o,HTN.o,HW.o,rfl⟩
       |true=>
        obtain⟨bp,cp,hcr,hdp,hgw,hbp,hq⟩:=ho.at hlt;obtain⟨hcq,hfq,hst⟩:=hq k q71;have hbw:=hdp.hblk h0;have q6M:=eB hdp;simp only[qH]at q6M;have xb:=(HW.o.cell (p:=⟨bb,fb+j,none⟩) hbb).trans HCB.o;have yb:=(HW.o.cell (p:=⟨bbi,fbi+k,none⟩) q94).trans (q9v.o k q71);have lb:bb<wr.heap.size:=by omega
        have lbi:bbi<wr.heap.size:=by omega
        have HST:=qa hst;have q6u:w.heap.size<=bp:=hbp;have q6r:=qa (fun(b:Bool) (hb:b=true↔G i k=true\/B j k=true)=>q3M HGS.o hlt q71 HZ.o.symm b hb);obtain⟨x,hx⟩:∃x,x=G i k:=⟨_,rfl⟩;obtain⟨y,hy⟩:∃y,y=B j k:=⟨_,rfl⟩;rw[<-hx]at hcq;rw[<-hy]at yb;rw[<-hx,<-hy]at q6r;clear ho hq hdp hst hx hy;cases x with
        |true=>
         exact ZmI1
        |false=>
         cases y with
         |true=>
          exact ZmI1
         |false=>
          go_wp2;refine aH [0,1,2,3,4,5,6,7,8,9,10,11,12,13,14,15,16,17,18,19,20] [] [21,22] (by kernel_rfl) (by kernel_rfl) ?_;simp only[pk]
          repeat(go_big_quiet_step (fail))
          refine wpQuiet_nil ?_;unfold aD;unfold aD;go_wp2;refine⟨trivial,?_⟩;unfold aD;go_wp2;refine⟨trivial,?_⟩;unfold aD;go_wp2
          go_roundg (N-(k+1))
          case measure=>omega
          case rel=>
           have h1:=HST.o false;exact⟨k+1,upd G i k false,by go_num,by omega,h1.1.up (aG _),q6r.o false (by simp),(HW.o.grown h1.2 HW.o.size (fun k hk=>by cases hk;exact q6u)).trans ((aG _).mono (by simpa using HW.o.size)),rfl⟩
      have hke:k=N:=by omega
      subst hke;have HTN:=qa (q1O HGS.o (.inl rfl));clear ho;go_wp2
      go_roundg (k-(j+1))
      case measure=>omega
      case rel=>exact⟨j+1,G,by go_num,by omega,HO.o,HTN.o,HW.o,rfl⟩
    have hje:j=N:=by omega
    subst hje;have HTN:=qa (q2w HGS.o);go_wp2
    go_roundg (j-(i+1))
    case measure=>omega
    case rel=>exact⟨i+1,G,by go_num,by omega,HO.o,HTN.o,HW.o,rfl⟩
  have hie:i=N:=by omega
  subst hie;go_wp2;go_ret;refine⟨_,rfl,⟨G,HO.o.read,fun p r hp hr=>(HGS.o p r hp hr).trans ?_⟩,HW.o⟩;unfold Th
  constructor
  ·rintro(⟨-,h⟩|⟨h,-⟩)
   ·exact h
   omega
  intro h;exact .inl ⟨hp,h⟩
end Go.Cm
