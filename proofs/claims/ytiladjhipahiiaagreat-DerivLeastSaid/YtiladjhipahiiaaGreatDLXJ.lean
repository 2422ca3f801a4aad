/- Walks of functions and plain facts, joined and squeezed by a program. Conditions: as each says. -/
import Derived.Test.YtiladjhipahiiaaGreatDLXH
set_option maxHeartbeats 8000000
set_option maxRecDepth 100000
set_option linter.unusedSimpArgs false
open Go.Proofs.Tryz
namespace Go.Cm
open Go.RowKit Go.Proofs
theorem ZmJ0{P:Prop}(h:P:=by
 go_wp2_with((with_reducible refine(HF2.o _ _ H8.o.box).mono ?_);rintro e w9 ⟨rfl,hB,hg⟩;have H9:=qa (H8.o.act hB hg);clear hB hg)
 go_ret2
 rw[HRR.o];exact H9.o.ret rfl):P:=h
theorem q6o(s:ByteArray)(z:PS)(he:z.e=0)(n:Nat)(hn:n=((bys s).getD z.p 0).toNat):(¬z.p<s.size/\okD ((nxR (bys s) z).getD 0) 10=false)\/(z.p<s.size/\n<48/\okD ((nxR (bys s) z).getD 0) 10=false)\/
  (z.p<s.size/\48<=n/\57<n/\okD ((nxR (bys s) z).getD 0) 10=false)\/(z.p<s.size/\48<=n/\n<=57/\okD ((nxR (bys s) z).getD 0) 10=true/\(dgR ((nxR (bys s) z).getD 0)).toNat=n-48):=by
 have hx:nxR (bys s) z=if z.p<s.size then some ((bys s).getD z.p 0)else none:=by unfold nxR;rw[cH];simp only[he,true_and]
 by_cases hp:z.p<s.size
 ·rw[qw hp]at hx
  rw[hx];simp only[qN];generalize (bys s).getD z.p 0=c at*;by_cases h1:n<48
  ·refine .inr (.inl ⟨hp,h1,?_⟩)
   unfold okD dgR;rw[qv (by omega),qv (by omega)];simp
  by_cases h2:n<=57
  ·refine .inr (.inr (.inr ⟨hp,by omega,h2,?_,?_⟩))
   ·unfold okD dgR
    rw[qw (by omega)];simp;omega
   unfold dgR;rw[qw (by omega)];omega
  refine .inr (.inr (.inl ⟨hp,by omega,by omega,?_⟩));unfold okD dgR;rw[qv (by omega)];split
  ·simp;omega
  simp
 rw[qv hp]at hx;rw[hx];exact .inl ⟨hp,q2s 10⟩
theorem qbY{w:World}{g:Nat}{s:ByteArray}{z:PS}(h:dY w g s z)(hs:s.size<=1000000)(he:z.e=0):
  Calls prog 97 #[.pointer (some ⟨g,0,none⟩)] w (sM (.int .i64 ((sT (bys s) z).1:Nat)) g s (sT (bys s) z).2 w):=by
 have hg:=h.lt;obtain⟨n,hn⟩:∃n,n=((bys s).getD z.p 0).toNat:=⟨_,rfl⟩;obtain⟨m,hm⟩:∃m,m=((bys s).getD (z.p+1) 0).toNat:=⟨_,rfl⟩;have hw1:=q6o s z he n hn;have hw2:=q6o s (bZ z) he m hm;rw[show(bZ z).p=z.p+1 from rfl]at hw2;have HI1:Hid (z.p<s.size->∀W,(Instr.index 9 (.string s) (.int .i64 (z.p:Int))).run prog W=.ok (.int .u8 (n:Nat)) W):=qa (fun hp W=>by rw[hn];exact iU (P:=prog) 9 (by kernel_rfl) hp W);have HI2:Hid (z.p+1<s.size->∀W,(Instr.index 9 (.string s) (.int .i64 ((z.p:Int)+1))).run prog W=.ok (.int .u8 (m:Nat)) W):=qa (fun hp W=>by rw[hm];exact iU (P:=prog) 9 (by kernel_rfl) hp W);obtain⟨R,hR⟩:∃R,R=sT (bys s) z:=⟨_,rfl⟩;rw[<-hR];unfold sT at hR;simp only at hR;have HF:Hid (∀W,dY W g s z->Calls prog 39 #[.pointer (some ⟨g,0,none⟩),.int .i64 15,.int .i64 z.p] W (sM (.tuple #[]) g s (bV 15 z.p z) W)):=qa (fun W h=>W2 h 15 z.p);have c0:=h.c0;have c1:=h.c1;have f1:=h.free 1;clear hn hm;have HQ:=qa (Qs.start h);clear h;have HV:Hid (48<=n->((n-48:Nat):Int)=(n:Int)-48):=qa (fun h=>by omega);have HV2:Hid (48<=n->48<=m->((10*(n-48)+(m-48):Nat):Int)=10*((n:Int)-48)+((m:Int)-48)):=qa (fun h h2=>by omega);rcases hw1 with⟨hp,hk⟩|⟨hp,h1,hk⟩|⟨hp,h1,h2,hk⟩|⟨hp,h1,h2,hk,hd⟩;rotate_left 3
 ·have hix:=HI1.o hp
  have hpi:(z.p:Int)<(s.size:Int):=by omega
  have i1:(n:Int)≥48:=by omega
  have i2:(n:Int)<=57:=by omega
  rcases hw2 with⟨hp2,hk2⟩|⟨hp2,h12,hk2⟩|⟨hp2,h12,h22,hk2⟩|⟨hp2,h12,h22,hk2,hd2⟩;rotate_left 3
  ·have qff:=HI2.o hp2
   have hp3:(z.p:Int)+1<(s.size:Int):=by omega
   have k1:(m:Int)≥48:=by omega
   have k2:(m:Int)<=57:=by omega
   have HR:Hid (R=(10*(n-48)+(m-48),bZ (bZ z))):=qa (by rw[hR,hk,hk2,<-hd,<-hd2];rfl);clear hR hk hk2 hd hd2;go_enter func97,ntmps97;go_wp2;refine wp_loop_rounds 3 ?_
   iterate 2
    rw[rounds_succ];go_wp2
    go_quiet (fail)
    go_wp2
    go_quiet (fail)
    go_wp2
   rw[rounds_succ];go_wp2
   go_quiet (fail)
   go_wp2;go_ret;rw[HR.o];refine Qs.ret ?_ ?_
   ·repeat(first|exact HQ.o|refine Qs.dr ?_ _|refine Qs.inc2 ?_|refine Qs.inc ?_)
   rw[HV2.o h1 h12];rfl
  all_goals
   have HR:Hid (R=(n-48,bZ z)):=qa (by rw[hR,hk,hk2,<-hd];rfl);clear hR hk hk2 hd
   first
    |have hp3:decide ((z.p:Int)+1<(s.size:Int))=false:=qx (by omega)
    |(have qff:=HI2.o hp2;have hp3:(z.p:Int)+1<(s.size:Int):=(by omega);first|(have k1:decide ((48:Int)<=(m:Int))=false:=qx (by omega))|(have k1:(m:Int)≥48:=(by omega);have k2:decide ((m:Int)<=57)=false:=qx (by omega)))
   go_enter func97,ntmps97;go_wp2;refine wp_loop_rounds 3 ?_;rw[rounds_succ];go_wp2
   go_quiet (fail)
   go_wp2
   go_quiet (fail)
   go_wp2;rw[rounds_succ];go_wp2
   go_quiet (fail)
   go_wp2;go_ret;rw[HR.o];refine Qs.ret ?_ ?_
   ·repeat(first|exact HQ.o|refine Qs.dr ?_ _|refine Qs.inc ?_)
   rw[HV.o h1];rfl
 all_goals
  have HR:Hid (R=(0,bV 15 z.p z)):=qa (by rw[hR,hk];rfl);clear hR hk hw2
  first
   |have hp3:¬(z.p:Int)<(s.size:Int):=by omega
   |(have hix:=HI1.o hp;have hp3:(z.p:Int)<(s.size:Int):=(by omega);first|(have k1:decide ((48:Int)<=(n:Int))=false:=qx (by omega))|(have k1:(n:Int)≥48:=(by omega);have k2:decide ((n:Int)<=57)=false:=qx (by omega)))
  go_enter func97,ntmps97;go_wp2;refine wp_loop_rounds 3 ?_;rw[rounds_succ];go_wp2
  go_quiet (fail)
  go_wp2_with((with_reducible refine(HF.o _ (HQ.o.dr _).box).mono ?_);rintro e w1 ⟨rfl,hB,hg⟩;have H1:=qa ((HQ.o.dr _).act hB hg);clear hB hg)
  go_ret;rw[HR.o];exact H1.o.ret rfl
theorem q6p{s:eZ}{z:PS}{c:UInt8}(hc:c≠0):lU s c z=decide ((nxR s z).getD 0=c):=by
 unfold lU;cases h:nxR s z with
 |none=>simp[hc.symm]
 |some d=>simp
theorem qci{w:World}{g:Nat}{s:ByteArray}{z:PS}{c:UInt8}(h:dY w g s z)(hs:s.size<=1000000)(hc:nxR (bys s) z=some c):
  Calls prog 90 #[.pointer (some ⟨g,0,none⟩)] w (sM (.tuple #[.int .i64 (yM (bys s) z).1.lo,.int .i64 (yM (bys s) z).1.hi]) g s (yM (bys s) z).2 w):=by
 obtain⟨hz0,hzp,-⟩:=k9 hc;rw[cH]at hzp;have c1:=h.c1;have f1:=h.free 1;have hgl:=h.lt;have HS:=qa (Qs.start h).inc;have HN1:Hid (∀W,dY W g s (bZ z)->Calls prog 97 #[.pointer (some ⟨g,0,none⟩)] W (sM (.int .i64 ((sT (bys s) (bZ z)).1:Nat)) g s (sT (bys s) (bZ z)).2 W)):=qa (fun W h=>qbY h hs hz0);obtain⟨R,hR⟩:∃R,R=yM (bys s) z:=⟨_,rfl⟩;rw[<-hR];unfold yM yL at hR;simp only at hR;generalize sT (bys s) (bZ z)=N1 at*;obtain⟨n,z1⟩:=N1;have HT1:Hid (∀W,dY W g s z1->Calls prog 69 #[.pointer (some ⟨g,0,none⟩),.int .u8 44] W (sM (.bool (bU (bys s) 44 z1).1) g s (bU (bys s) 44 z1).2 W)):=qa (fun W h=>xK h hs 44);have htt:=fun h=>nW (s:=bys s) (c:=44) (z:=z1) h;have htk:=kU (bys s) 44 z1;simp only at hR HN1;generalize bU (bys s) 44 z1=T1 at*;obtain⟨bt,zt⟩:=T1
 have hze:bt=true->zt.e=0:=by
  intro hb;cases hi:lU (bys s) 44 z1 with
  |false=>rw[hi]at htk;have:=j0 Prod.fst htk;rw[hb]at this;cases this
  |true=>rw[hi]at htk;have:=j0 Prod.snd htk;rw[show zt=bZ z1 from this];exact(htt hi).1
 have HX1:Hid (∀W,dY W g s zt->Calls prog 84 #[.pointer (some ⟨g,0,none⟩),.int .u8 125] W fun e w'=>e=.returned (.bool (decide ((nxR (bys s) zt).getD 0=125)))/\∃x,w'=ext W x):=qa (fun W h=>by rw[<-q6p (by decide)];exact isQ h 125);have HN2:Hid (∀W,bt=true->dY W g s zt->Calls prog 97 #[.pointer (some ⟨g,0,none⟩)] W (sM (.int .i64 ((sT (bys s) zt).1:Nat)) g s (sT (bys s) zt).2 W)):=qa (fun W hb h=>qbY h hs (hze hb));simp only at hR HT1;generalize hch:(nxR (bys s) zt).getD 0=ch at*;generalize sT (bys s) zt=N2 at*;obtain⟨m,zm⟩:=N2;simp only at hR HN2;clear hz0 hc h htt htk hze hch
 obtain⟨hi,zh,qhK,hRw⟩:∃(hi:Int) (zh:PS),((bt=false/\hi=n/\zh=zt)\/(bt=true/\ch=125/\hi= -1/\zh=zt)\/(bt=true/\ch≠125/\hi=m/\zh=zm))/\
   R=(⟨8,0,0,0,0,0,n,hi⟩,if q9j n hi then(if(bU (bys s) 125 zh).1 then(bU (bys s) 125 zh).2 else bV 15 (bU (bys s) 125 zh).2.p (bU (bys s) 125 zh).2)else bV 18 z.p (if(bU (bys s) 125 zh).1 then(bU (bys s) 125 zh).2 else bV 15 (bU (bys s) 125 zh).2.p (bU (bys s) 125 zh).2)):=by
  cases bt
  ·exact⟨n,zt,.inl ⟨rfl,rfl,rfl⟩,hR⟩
  by_cases hch:ch=125
  ·rw[qw rfl,qw hch]at hR
   exact⟨-1,zt,.inr (.inl ⟨rfl,hch,rfl,rfl⟩),hR⟩
  rw[qw rfl,qv hch]at hR;exact⟨m,zm,.inr (.inr ⟨rfl,hch,rfl,rfl⟩),hR⟩
 clear hR;have HT2:Hid (∀W,dY W g s zh->Calls prog 69 #[.pointer (some ⟨g,0,none⟩),.int .u8 125] W (sM (.bool (bU (bys s) 125 zh).1) g s (bU (bys s) 125 zh).2 W)):=qa (fun W h=>xK h hs 125);generalize bU (bys s) 125 zh=T2 at*;obtain⟨b2,z4⟩:=T2;simp only at hRw HT2;have HF1:Hid (∀W,dY W g s z4->Calls prog 39 #[.pointer (some ⟨g,0,none⟩),.int .i64 15,.int .i64 z4.p] W (sM (.tuple #[]) g s (bV 15 z4.p z4) W)):=qa (fun W h=>W2 h 15 z4.p);have HF2:Hid (∀W y,dY W g s y->Calls prog 39 #[.pointer (some ⟨g,0,none⟩),.int .i64 18,.int .i64 z.p] W (sM (.tuple #[]) g s (bV 18 z.p y) W)):=qa (fun W y h=>W2 h 18 z.p);obtain⟨z5,hz5⟩:∃z5,z5=if b2 then z4 else bV 15 z4.p z4:=⟨_,rfl⟩
 rw[<-hz5]at hRw;have HR:=qa hRw;have HZ5:=qa hz5;have qgS:=qa qhK;clear hRw hz5 qhK;go_enter func90,ntmps90
 go_upto_if 23 with(first
  |((with_reducible refine(HN1.o _ HS.o.box).mono ?_);rintro e w1 ⟨rfl,hB,hg⟩;have H1:=qa (HS.o.act hB hg);clear hB hg)
  |((with_reducible refine(HT1.o _ H1.o.box).mono ?_);rintro e w2 ⟨rfl,hB,hg⟩;have H2:=qa (H1.o.act hB hg);clear hB hg))
 go_cut [6] (fun x wx=>x=.int .i64 hi/\Qs w wx g s zh)
 case first=>
  rcases qgS.o with⟨rfl,rfl,rfl⟩|⟨rfl,hch,rfl,rfl⟩|⟨rfl,hch,rfl,rfl⟩
  ·go_wp2
   go_meet
   case rel=>exact⟨rfl,H2.o⟩
  ·rw[qz hch]at HX1
   go_wp2_with((with_reducible refine(HX1.o _ H2.o.box).mono ?_);rintro e w3 ⟨rfl,hx⟩;have H3:=qa (H2.o.ext hx);clear hx)
   go_meet
   case rel=>exact⟨rfl,H3.o⟩
  rw[qx hch]at HX1
  go_wp2_with(first
   |((with_reducible refine(HX1.o _ H2.o.box).mono ?_);rintro e w3 ⟨rfl,hx⟩;have H3:=qa (H2.o.ext hx);clear hx)
   |((with_reducible refine(HN2.o _ (by trivial) H3.o.box).mono ?_);rintro e w4 ⟨rfl,hB,hg⟩;have H4:=qa (H3.o.act hB hg);clear hB hg))
  go_meet
  case rel=>exact⟨rfl,H4.o⟩
 case rest=>
  obtain⟨rfl,hQ⟩:=hcut;have H5:=qa hQ;clear hQ HX1 HN2
  go_upto_if 31 with((with_reducible refine(HT2.o _ H5.o.box).mono ?_);rintro e w6 ⟨rfl,hB,hg⟩;have H6:=qa (H5.o.act hB hg);clear hB hg)
  go_cut [] (fun wx=>Qs w wx g s z5)
  case first=>
   cases b2 with
   |true=>
    go_wp2
    go_meet
    case rel=>rw[HZ5.o];exact H6.o
   |false=>
    have c6:=H6.o.box.c1
    go_wp2_with((with_reducible refine(HF1.o _ H6.o.box).mono ?_);rintro e w7 ⟨rfl,hB,hg⟩;have H7:=qa (H6.o.act hB hg);clear hB hg)
    go_meet
    case rel=>rw[HZ5.o];exact H7.o
  case rest=>
   have H8:=qa hcut;clear hcut;have HFR:Hid (q9j n hi=true->R=(⟨8,0,0,0,0,0,n,hi⟩,z5)):=qa (fun h=>by rw[HR.o,qw h]);have HFB:Hid (q9j n hi=false->R=(⟨8,0,0,0,0,0,n,hi⟩,bV 18 z.p z5)):=qa (fun h=>by rw[HR.o,qv (by rw[h];decide)]);have HCN:Hid (q9j n hi=(decide ((n:Int)<=30)&&(decide (hi= -1)||(decide ((n:Int)<=hi)&&decide (hi<=30))))):=qa (by unfold q9j;rw[qz (show(0:Int)<=(n:Int) by omega)];rfl);have HHI:Hid (-1<=hi):=qa (by rcases qgS.o with⟨-,h,-⟩|⟨-,-,h,-⟩|⟨-,-,h,-⟩<;>omega);clear HR qgS;generalize q9j n hi=cb at*;have hh:=HHI.o;by_cases hcb:cb=true
   ·have HRR:=qa (HFR.o hcb)
    have hc:=HCN.o;rw[hcb]at hc;replace hc:=hc.symm;simp only[qK,Bool.or_eq_true,jn]at hc;obtain⟨a1,a2⟩:=hc;have b1:decide ((30:Int)<(n:Int))=false:=qx (by omega);have b1':¬30<n:=by omega
    have b2:decide ((30:Int)<hi)=false:=qx (by omega);by_cases a3:hi= -1
    ·have b3:decide ((0:Int)<=hi)=false:=qx (by omega)
     clear HCN HHI HFR HFB hh a1 a2 a3 hcb;go_wp2
     go_ret2
     rw[HRR.o];exact H8.o.ret rfl
    have b3:decide ((0:Int)<=hi)=true:=qz (by omega);have b4:decide (hi<(n:Int))=false:=qx (by omega);clear HCN HHI HFR HFB hh a1 a2 a3 hcb;go_wp2
    go_ret2
    rw[HRR.o];exact H8.o.ret rfl
   have hcf:cb=false:=by simpa using hcb
   have HRR:=qa (HFB.o hcf);have hc:=HCN.o;rw[hcf]at hc;replace hc:=hc.symm;simp only[Bool.and_eq_false_iff,Bool.or_eq_false_iff,qt]at hc;by_cases a1:(30:Int)<(n:Int)
   ·have a1':30<n:=by omega
    clear HCN HHI HFR HFB hh hc hcb hcf
    exact ZmJ0
   have b1:decide ((30:Int)<(n:Int))=false:=qx a1;have b1':¬30<n:=by omega
   by_cases a2:(30:Int)<hi
   ·clear HCN HHI HFR HFB hh hc hcb hcf a1
    exact ZmJ0
   have b2:decide ((30:Int)<hi)=false:=qx a2;have b3:decide ((0:Int)<=hi)=true:=qz (by omega);have b4:decide (hi<(n:Int))=true:=qz (by omega);have b3':(0:Int)<=hi:=jc b3;have b4':hi<(n:Int):=jc b4;clear HCN HHI HFR HFB hh hc hcb hcf a1 a2
   exact ZmJ0
end Go.Cm
