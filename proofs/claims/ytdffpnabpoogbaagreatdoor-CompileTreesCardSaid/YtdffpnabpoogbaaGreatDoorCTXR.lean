/- Walks of functions and plain facts, joined and squeezed by a program. Conditions: as each says. -/
import Derived.Test.YtdffpnabpoogbaaGreatDoorCTXO
set_option maxHeartbeats 8000000
set_option maxRecDepth 100000
set_option linter.unusedSimpArgs false
open Go.Proofs.Tryz
namespace Go.Cm
open Go.RowKit Go.Proofs
theorem ZmR0{P:Prop}(h:P:=by
 repeat(first
  |(go_big_quiet_want;refine bH _ rfl p rfl _ (fun w' hw=>by obtain⟨y,rfl⟩:=hw;exact HX8.o.up (aB ⟨_,rfl⟩)) ?_;go_simp;go_big_quiet_on)
  |(go_big_quiet_want;refine bH _ rfl p2 rfl _ (fun w' hw=>by obtain⟨y,rfl⟩:=hw;exact HY8.o.up (aB ⟨_,rfl⟩)) ?_;go_simp;go_big_quiet_on)
  |go_big_quiet_step ((go_at_call 134;first|(with_reducible exact bY (HBC.o _))|(with_reducible exact bY (qdt.o _)))))
 refine wpQuiet_nil ?_;intro x9;obtain⟨w9,qbM⟩:∃w9,w9=ext w8 x9:=⟨_,rfl⟩;rw[<-qbM];have hw9:∃y,w9=ext w8 y:=⟨x9,qbM⟩;clear qbM;have HC9:=qa (HC8.o.ext hw9);have HX9:=qa (HX8.o.up (aB hw9));have HY9:=qa (HY8.o.up (aB hw9));clear hw9
 go_wp2_with(first
  |((with_reducible refine(qgd.o _ _ _ HC9.o.box).mono ?_);rintro e w10 ⟨rfl,hB,hg⟩;have qbU:=qa (HC9.o.act hB hg);clear hB hg)
  |(refine aQ rfl _ rfl q rfl _ qbU.o.set ?_)
  |(refine aF rfl _ _ rfl b rfl _ _ rfl qbU.o.res ?_;intro w11 hB2 hg2;have qdf:=qa hB2;have qem:=qa (qbU.o.fin hB2 hg2);clear hB2 hg2))
 refine bG (s:=4) (ad:=⟨b,0,none⟩) (x:=cD a) rfl rfl rfl qdf.o.load ?_;exact⟨_,_,rfl,HA.o,qem.o,HAL.o⟩):P:=h
theorem ZmR1{P:Prop}(h:P:=by refine bG (s:=4) (ad:=⟨b,0,none⟩) (x:=cD a2) rfl rfl rfl HC7.o.load ?_;exact⟨_,_,rfl,HA2.o,HQ7.o,HAL.o⟩):P:=h
theorem ZmR2{P:Prop}(h:P:=by
 repeat(go_big_quiet_step ((go_at_call 87;(with_reducible exact bY (qer.o _ (HE1.o.box.up (aD _ _)))))))
 refine wpQuiet_nil ?_;intro w2 hw2;have HE2:=qa (HE1.o.ext hw2);have c12:=HE2.o.box.c1;clear hw2 c0 c1 hg1
 go_wp2_with(first
  |((with_reducible refine(HF.o _ HE2.o.box).mono ?_);rintro e w3 ⟨rfl,hB,hg⟩;have HE3:=qa (HE2.o.act hB hg);clear hB hg)
  |(refine aF rfl _ _ rfl w.heap.size rfl _ 0 HZV.o HE3.o.set ?_;intro w4 hB2 hg2;have HE4:=qa (HE3.o.store hB2 hg2);clear hB2 hg2))
 refine aX (s:=2) (b:=3) (ad:=⟨w.heap.size,0,none⟩) (x:=cD 0) (y:=.bool false) rfl rfl rfl rfl HE4.o.set.load ?_;exact⟨0,false,_,rfl,HL0.o,HE4.o.qs,Al.fault _ HR.o HPF.o.2.2 HPF.o.1 HPF.o.2.1⟩):P:=h
theorem ZmR3{P:Prop}(h:P:=by
 have hr' := hr.symm
 clear hr HHB HR3 HXR qbK
 go_wp2_with (first
   | ((with_reducible refine (HH1.o _).mono ?_); rintro e w2 ⟨rfl, hx⟩; have HE2 := qa (HE0.o.ext hx); have c22 := HE2.o.box.c0; clear hx)
   | ((with_reducible refine (HH2.o _).mono ?_); rintro e w3 ⟨rfl, hx⟩; have HE3 := qa (HE2.o.ext hx); clear hx))
 go_meet
 case rel => exact ⟨by rw [HB2.o], HE3.o⟩):P:=h
theorem ZmR4{P:Prop}(h:P:=by
 go_wp2_with((with_reducible refine(HF2.o _ _ H8.o.box).mono ?_);rintro e w9 ⟨rfl,hB,hg⟩;have H9:=qa (H8.o.act hB hg);clear hB hg)
 go_ret2
 rw[HRR.o];exact H9.o.ret rfl):P:=h
theorem ZmR5{P:Prop}(h:P:=by refine bG (s:=4) (ad:=⟨b,0,none⟩) (x:=cD a) rfl rfl rfl HC9.o.load ?_;exact⟨_,_,rfl,HA.o,HQ9.o,HAL.o⟩):P:=h
structure dX(w:World)(g:Nat)(s:ByteArray)(z:PS):Prop where
 own:Own w g 95 (.slice (some ⟨g,0,none⟩) 4 4) [.string s,.int .i64 z.p,.int .i64 z.e,.int .i64 z.b]
section
variable {w : World} {g : Nat} {s : ByteArray} {z : PS}
theorem dX.up{w':World}(h:dX w g s z)(hb:Below w.heap.size w w'):dX w' g s z:=⟨h.own.up hb⟩
theorem dX.lt(h:dX w g s z):g<w.heap.size:=(h.own.lt g rfl).2
theorem dX.c0(h:dX w g s z):w.cell? ⟨g,0,none⟩=some (.string s):=h.own.cell (by simp)
theorem dX.c1(h:dX w g s z):w.cell? ⟨g,1,none⟩=some (.int .i64 z.p):=h.own.cell (by simp)
theorem dX.c2(h:dX w g s z):w.cell? ⟨g,2,none⟩=some (.int .i64 z.e):=h.own.cell (by simp)
theorem dX.c3(h:dX w g s z):w.cell? ⟨g,3,none⟩=some (.int .i64 z.b):=h.own.cell (by simp)
theorem dX.free(h:dX w g s z)(c:Nat):w.frozen? ⟨g,c,none⟩=false:=h.own.free c
theorem dX.set1(h:dX w g s z)(r:Nat):dX (w.setCell ⟨g,1,none⟩ (.int .i64 r)) g s ⟨r,z.e,z.b⟩/\w.grownBy (w.setCell ⟨g,1,none⟩ (.int .i64 r)) (some g):=⟨⟨(h.own.store 1 _).1⟩,(h.own.store 1 _).2⟩
end
theorem dX.set23{w:World}{g:Nat}{s:ByteArray}{z:PS}(h:dX w g s z)(e b:Nat):dX ((w.setCell ⟨g,2,none⟩ (.int .i64 e)).setCell ⟨g,3,none⟩ (.int .i64 b)) g s ⟨z.p,e,b⟩/\w.grownBy ((w.setCell ⟨g,2,none⟩ (.int .i64 e)).setCell ⟨g,3,none⟩ (.int .i64 b)) (some g):=by
 have h1:=h.own.store 2 (.int .i64 e);have h2:=h1.1.store 3 (.int .i64 b);exact⟨⟨h2.1⟩,aC h1.2 h2.2⟩
theorem K2{w:World}{g:Nat}{s:ByteArray}{z:PS}(h:dX w g s z)(e a:Nat):
  Calls prog 43 #[.pointer (some ⟨g,0,none⟩),.int .i64 e,.int .i64 a] w fun en w'=>en=.returned (.tuple #[])/\dX w' g s (bB e a z)/\w.grownBy w' (some g):=by
 have HB:=qa h;have c2:=h.c2;have c3:=h.c3;have hg:=h.lt;have f2:=h.free 2;have f3:=h.free 3;have HS:=qa (h.set23 e a);clear h;by_cases he:z.e=0
 ·have he':((z.e:Int)==0)=true:=by simp[he]
  have HF:Hid (bB e a z=⟨z.p,e,a⟩):=qa (by unfold bB;rw[qt he]);go_enter func43,ntmps43;go_wp2
  go_end0
  rw[HF.o];exact⟨rfl,HS.o.1,HS.o.2⟩
 have he':((z.e:Int)==0)=false:=by
  have:z.e≠0:=he;simpa using this
 have HF:Hid (bB e a z=z):=qa (by unfold bB;rw[qr he]);go_enter func43,ntmps43;go_wp2
 go_end0
 rw[HF.o];exact⟨rfl,HB.o,cW _ _⟩
theorem dX.keep{w w':World}{g:Nat}{s:ByteArray}{z:PS}{row:Option Nat}(h:dX w g s z)(hg:w.grownBy w' row)(hne:row≠some g):dX w' g s z:=⟨h.own.keep hg (.inr (fun e=>hne e.symm))⟩
theorem dX.inc{w:World}{g:Nat}{s:ByteArray}{z:PS}(h:dX w g s z):dX (w.setCell ⟨g,1,none⟩ (.int .i64 ((z.p:Int)+1))) g s (bI z)/\w.grownBy (w.setCell ⟨g,1,none⟩ (.int .i64 ((z.p:Int)+1))) (some g):=h.set1 (z.p+1)
theorem dX.inc2{w:World}{g:Nat}{s:ByteArray}{z:PS}(h:dX w g s (bI z)):dX (w.setCell ⟨g,1,none⟩ (.int .i64 ((z.p:Int)+1+1))) g s (bI (bI z))/\w.grownBy (w.setCell ⟨g,1,none⟩ (.int .i64 ((z.p:Int)+1+1))) (some g):=h.set1 (z.p+1+1)
theorem dX.c11{w:World}{g:Nat}{s:ByteArray}{z:PS}(h:dX w g s (bI z)):w.cell? ⟨g,1,none⟩=some (.int .i64 ((z.p:Int)+1)):=h.c1
def pM(v:Value)(g:Nat)(s:ByteArray)(z:PS)(w:World)(e:Ending)(w':World):Prop:=e=.returned v/\dX w' g s z/\w.grownBy w' (some g)
def kB(s:cX)(c:UInt8)(z:PS):Bool:=decide (nxR s z=some c)
theorem isQ{w:World}{g:Nat}{s:ByteArray}{z:PS}(h:dX w g s z)(c:UInt8):
  Calls prog 87 #[.pointer (some ⟨g,0,none⟩),.int .u8 (c.toNat:Nat)] w fun e w'=>e=.returned (.bool (kB (bys s) c z))/\∃x,w'=ext w x:=by
 have c0:=h.c0;have c1:=h.c1;have c2:=h.c2;have hg:=h.lt;have HX:=qa (@e6 prog 9 (by kernel_rfl) s z.p);obtain⟨R,hR⟩:∃R,R=kB (bys s) c z:=⟨_,rfl⟩;rw[<-hR];unfold kB nxR at hR;rw[aP]at hR;clear h;by_cases he:z.e=0
 ·have he':((z.e:Int)==0)=true:=by simp[he]
  by_cases hp:z.p<s.size
  ·have hix:=fun W=>HX.o hp W
   have hp':(z.p:Int)<(s.size:Int):=by omega
   rw[qt ⟨he,hp⟩]at hR;generalize (bys s).getD z.p 0=d at*;clear HX he;by_cases hd:d=c
   ·have HR:Hid (R=true):=qa (by rw[hR,hd];simp)
    have hdn:((d.toNat:Int)==(c.toNat:Int))=true:=by rw[hd];simp
    clear hR hd;go_enter func87,ntmps87;go_wp2
    go_quiet (fail)
    go_wp2;go_ret;exact⟨by rw[HR.o];rfl,(aI aJ)⟩
   have HR:Hid (R=false):=qa (by rw[hR];simpa using hd);have hdn:=kI hd;clear hR hd;go_enter func87,ntmps87;go_wp2
   go_quiet (fail)
   go_wp2;go_ret;exact⟨by rw[HR.o];rfl,(aI aJ)⟩
  have hp':¬(z.p:Int)<(s.size:Int):=by omega
  have HR:Hid (R=false):=qa (by rw[hR,qr (fun h=>hp h.2)];simp);clear hR HX;go_enter func87,ntmps87;go_wp2
  go_quiet (fail)
  go_wp2;go_ret;exact⟨by rw[HR.o];rfl,(aI aJ)⟩
 have he':((z.e:Int)==0)=false:=by
  have:z.e≠0:=he;simpa using this
 have HR:Hid (R=false):=qa (by rw[hR,qr (fun h=>he h.1)];simp);clear HX hR;go_enter func87,ntmps87;go_wp2
 go_quiet (fail)
 go_wp2;go_ret;exact⟨by rw[HR.o];rfl,(aI aJ)⟩
theorem iG(s:cX)(c:UInt8)(z:PS):b7 s c z=if kB s c z then(true,bI z)else(false,z):=by
 unfold b7 kB;by_cases h:nxR s z=some c
 ·rw[qt h,qt (by simpa using h)]
 rw[qr h,qr (by simpa using h)]
theorem lZ{s:cX}{c:UInt8}{z:PS}(h:kB s c z=true):z.e=0/\z.p<s.length/\nxR s z=some c:=by
 have h1:nxR s z=some c:=by simpa[kB]using h
 exact⟨(dE h1).1,(dE h1).2.1,h1⟩
theorem uW{w:World}{g:Nat}{s:ByteArray}{z:PS}(h:dX w g s z)(hs:s.size<=1000000)(c:UInt8):
  Calls prog 67 #[.pointer (some ⟨g,0,none⟩),.int .u8 (c.toNat:Nat)] w (pM (.bool (b7 (bys s) c z).1) g s (b7 (bys s) c z).2 w):=by
 have HB:=qa h;have HN:=qa (isQ h c);have hg:=h.lt;rw[iG];clear h;cases hn:kB (bys s) c z with
 |false=>
  rw[hn]at HN;clear hn;go_enter func67,ntmps67
  go_wp2_with((with_reducible refine(HN.o).mono ?_);rintro e w1 ⟨rfl,hx⟩;(have HB1:=qa (HB.o.up (aB hx)));(have HG1:=qa (aE (aB hx) (some g)));clear hx)
  go_ret;exact⟨rfl,HB1.o,HG1.o⟩
 |true=>
  obtain⟨-,hzp,-⟩:=lZ hn;rw[aP]at hzp;rw[hn]at HN;clear hn;go_enter func67,ntmps67
  go_wp2_with((with_reducible refine(HN.o).mono ?_);rintro e w1 ⟨rfl,hx⟩;(have HB1:=qa (HB.o.up (aB hx)));(have HG1:=qa (aE (aB hx) (some g)));(have c1:=HB1.o.c1);(have f1:=HB1.o.free 1);(have HS:=qa (HB1.o.inc));clear hx)
  go_ret;exact⟨rfl,HS.o.1,aC HG1.o HS.o.2⟩
structure Qs(w0 w:World)(g:Nat)(s:ByteArray)(z:PS):Prop where
 box:dX w g s z
 gr:w0.grownBy w (some g)
 gl:g<w0.heap.size
section
variable {w0 w w' : World} {g : Nat} {s : ByteArray} {z : PS}
theorem Qs.start(h:dX w g s z):Qs w w g s z:=⟨h,cW _ _,h.lt⟩
theorem Qs.below(h:Qs w0 w g s z)(hb:Below w.heap.size w w'):Qs w0 w' g s z:=⟨h.box.up hb,aC h.gr (aE hb _),h.gl⟩
theorem Qs.ext(h:Qs w0 w g s z)(hx:∃y,w'=ext w y):Qs w0 w' g s z:=h.below (aB hx)
theorem Qs.act{z':PS}(h:Qs w0 w g s z)(hB:dX w' g s z')(hg:w.grownBy w' (some g)):Qs w0 w' g s z':=⟨hB,aC h.gr hg,h.gl⟩
theorem Qs.far{row:Option Nat}(h:Qs w0 w g s z)(hg:w.grownBy w' row)(hq:∀q,row=some q->w0.heap.size<=q):Qs w0 w' g s z:=
 ⟨h.box.keep hg (fun e=>by have:=hq g e;have:=h.gl;omega),fV h.gr hg hq,h.gl⟩
theorem Qs.dr(h:Qs w0 w g s z)(n:Nat):Qs w0 (w.drewN n) g s z:=h.below (aN w n)
theorem Qs.inc(h:Qs w0 w g s z):Qs w0 (w.setCell ⟨g,1,none⟩ (.int .i64 ((z.p:Int)+1))) g s (bI z):=h.act h.box.inc.1 h.box.inc.2
theorem Qs.inc2(h:Qs w0 w g s (bI z)):Qs w0 (w.setCell ⟨g,1,none⟩ (.int .i64 ((z.p:Int)+1+1))) g s (bI (bI z)):=h.act h.box.inc2.1 h.box.inc2.2
theorem Qs.ret(h:Qs w0 w g s z){v:Value}{e:Ending}(he:e=.returned v):pM v g s z w0 e w:=⟨he,h.box,h.gr⟩
end
end Go.Cm
namespace Go.Cm
open Go.RowKit Go.Proofs
theorem q4f(s:ByteArray)(z:PS)(he:z.e=0)(n:Nat)(hn:n=((bys s).getD z.p 0).toNat):(¬z.p<s.size/\okD ((nxR (bys s) z).getD 0) 10=false)\/(z.p<s.size/\n<48/\okD ((nxR (bys s) z).getD 0) 10=false)\/
  (z.p<s.size/\48<=n/\57<n/\okD ((nxR (bys s) z).getD 0) 10=false)\/(z.p<s.size/\48<=n/\n<=57/\okD ((nxR (bys s) z).getD 0) 10=true/\(dgR ((nxR (bys s) z).getD 0)).toNat=n-48):=by
 have hx:nxR (bys s) z=if z.p<s.size then some ((bys s).getD z.p 0)else none:=by unfold nxR;rw[aP];simp only[he,true_and]
 by_cases hp:z.p<s.size
 ·rw[qt hp]at hx
  rw[hx];simp only[qJ];generalize (bys s).getD z.p 0=c at*;by_cases h1:n<48
  ·refine .inr (.inl ⟨hp,h1,?_⟩)
   unfold okD dgR;rw[qr (by omega),qr (by omega)];simp
  by_cases h2:n<=57
  ·refine .inr (.inr (.inr ⟨hp,by omega,h2,?_,?_⟩))
   ·unfold okD dgR
    rw[qt (by omega)];simp;omega
   unfold dgR;rw[qt (by omega)];omega
  refine .inr (.inr (.inl ⟨hp,by omega,by omega,?_⟩));unfold okD dgR;rw[qr (by omega)];split
  ·simp;omega
  simp
 rw[qr hp]at hx;rw[hx];exact .inl ⟨hp,q0B 10⟩
theorem qaF{w:World}{g:Nat}{s:ByteArray}{z:PS}(h:dX w g s z)(hs:s.size<=1000000)(he:z.e=0):
  Calls prog 122 #[.pointer (some ⟨g,0,none⟩)] w (pM (.int .i64 ((m6 (bys s) z).1:Nat)) g s (m6 (bys s) z).2 w):=by
 have hg:=h.lt;obtain⟨n,hn⟩:∃n,n=((bys s).getD z.p 0).toNat:=⟨_,rfl⟩;obtain⟨m,hm⟩:∃m,m=((bys s).getD (z.p+1) 0).toNat:=⟨_,rfl⟩;have hw1:=q4f s z he n hn;have hw2:=q4f s (bI z) he m hm;rw[show(bI z).p=z.p+1 from rfl]at hw2;have HI1:Hid (z.p<s.size->∀W,(Instr.index 9 (.string s) (.int .i64 (z.p:Int))).run prog W=.ok (.int .u8 (n:Nat)) W):=qa (fun hp W=>by rw[hn];exact e6 (P:=prog) 9 (by kernel_rfl) hp W);have HI2:Hid (z.p+1<s.size->∀W,(Instr.index 9 (.string s) (.int .i64 ((z.p:Int)+1))).run prog W=.ok (.int .u8 (m:Nat)) W):=qa (fun hp W=>by rw[hm];exact e6 (P:=prog) 9 (by kernel_rfl) hp W);obtain⟨R,hR⟩:∃R,R=m6 (bys s) z:=⟨_,rfl⟩;rw[<-hR];unfold m6 at hR;simp only at hR;have HF:Hid (∀W,dX W g s z->Calls prog 43 #[.pointer (some ⟨g,0,none⟩),.int .i64 15,.int .i64 z.p] W (pM (.tuple #[]) g s (bB 15 z.p z) W)):=qa (fun W h=>K2 h 15 z.p);have c0:=h.c0;have c1:=h.c1;have f1:=h.free 1;clear hn hm;have HQ:=qa (Qs.start h);clear h;have HV:Hid (48<=n->((n-48:Nat):Int)=(n:Int)-48):=qa (fun h=>by omega);have HV2:Hid (48<=n->48<=m->((10*(n-48)+(m-48):Nat):Int)=10*((n:Int)-48)+((m:Int)-48)):=qa (fun h h2=>by omega);rcases hw1 with⟨hp,hk⟩|⟨hp,h1,hk⟩|⟨hp,h1,h2,hk⟩|⟨hp,h1,h2,hk,hd⟩;rotate_left 3
 ·have hix:=HI1.o hp
  have hpi:(z.p:Int)<(s.size:Int):=by omega
  have i1:(n:Int)≥48:=by omega
  have i2:(n:Int)<=57:=by omega
  rcases hw2 with⟨hp2,hk2⟩|⟨hp2,h12,hk2⟩|⟨hp2,h12,h22,hk2⟩|⟨hp2,h12,h22,hk2,hd2⟩;rotate_left 3
  ·have qca:=HI2.o hp2
   have hp3:(z.p:Int)+1<(s.size:Int):=by omega
   have k1:(m:Int)≥48:=by omega
   have k2:(m:Int)<=57:=by omega
   have HR:Hid (R=(10*(n-48)+(m-48),bI (bI z))):=qa (by rw[hR,hk,hk2,<-hd,<-hd2];rfl);clear hR hk hk2 hd hd2;go_enter func122,ntmps122;go_wp2;refine wp_loop_rounds 3 ?_
   iterate 2
    rw[rounds_succ];go_wp2
    go_quiet (fail)
    go_wp2
    go_quiet (fail)
    go_wp2
   rw[rounds_succ];go_wp2
   go_quiet (fail)
   go_wp2;go_ret;rw[HR.o];refine Qs.ret ?_ ?_
   ·repeat(first|exact HQ.o|refine Qs.dr ?_ _|refine Qs.inc2 ?_|refine Qs.inc ?_)
   rw[HV2.o h1 h12];rfl
  all_goals
   have HR:Hid (R=(n-48,bI z)):=qa (by rw[hR,hk,hk2,<-hd];rfl);clear hR hk hk2 hd
   first
    |have hp3:decide ((z.p:Int)+1<(s.size:Int))=false:=qu (by omega)
    |(have qca:=HI2.o hp2;have hp3:(z.p:Int)+1<(s.size:Int):=(by omega);first|(have k1:decide ((48:Int)<=(m:Int))=false:=qu (by omega))|(have k1:(m:Int)≥48:=(by omega);have k2:decide ((m:Int)<=57)=false:=qu (by omega)))
   go_enter func122,ntmps122;go_wp2;refine wp_loop_rounds 3 ?_;rw[rounds_succ];go_wp2
   go_quiet (fail)
   go_wp2
   go_quiet (fail)
   go_wp2;rw[rounds_succ];go_wp2
   go_quiet (fail)
   go_wp2;go_ret;rw[HR.o];refine Qs.ret ?_ ?_
   ·repeat(first|exact HQ.o|refine Qs.dr ?_ _|refine Qs.inc ?_)
   rw[HV.o h1];rfl
 all_goals
  have HR:Hid (R=(0,bB 15 z.p z)):=qa (by rw[hR,hk];rfl);clear hR hk hw2
  first
   |have hp3:¬(z.p:Int)<(s.size:Int):=by omega
   |(have hix:=HI1.o hp;have hp3:(z.p:Int)<(s.size:Int):=(by omega);first|(have k1:decide ((48:Int)<=(n:Int))=false:=qu (by omega))|(have k1:(n:Int)≥48:=(by omega);have k2:decide ((n:Int)<=57)=false:=qu (by omega)))
  go_enter func122,ntmps122;go_wp2;refine wp_loop_rounds 3 ?_;rw[rounds_succ];go_wp2
  go_quiet (fail)
  go_wp2_with((with_reducible refine(HF.o _ (HQ.o.dr _).box).mono ?_);rintro e w1 ⟨rfl,hB,hg⟩;have H1:=qa ((HQ.o.dr _).act hB hg);clear hB hg)
  go_ret;rw[HR.o];exact H1.o.ret rfl
theorem q4g{s:cX}{z:PS}{c:UInt8}(hc:c≠0):kB s c z=decide ((nxR s z).getD 0=c):=by
 unfold kB;cases h:nxR s z with
 |none=>simp[hc.symm]
 |some d=>simp
theorem qb7{w:World}{g:Nat}{s:ByteArray}{z:PS}{c:UInt8}(h:dX w g s z)(hs:s.size<=1000000)(hc:nxR (bys s) z=some c):
  Calls prog 104 #[.pointer (some ⟨g,0,none⟩)] w (pM (.tuple #[.int .i64 (pF (bys s) z).1.lo,.int .i64 (pF (bys s) z).1.hi]) g s (pF (bys s) z).2 w):=by
 obtain⟨hz0,hzp,-⟩:=dE hc;rw[aP]at hzp;have c1:=h.c1;have f1:=h.free 1;have hgl:=h.lt;have HS:=qa (Qs.start h).inc;have HN1:Hid (∀W,dX W g s (bI z)->Calls prog 122 #[.pointer (some ⟨g,0,none⟩)] W (pM (.int .i64 ((m6 (bys s) (bI z)).1:Nat)) g s (m6 (bys s) (bI z)).2 W)):=qa (fun W h=>qaF h hs hz0);obtain⟨R,hR⟩:∃R,R=pF (bys s) z:=⟨_,rfl⟩;rw[<-hR];unfold pF uJ at hR;simp only at hR;generalize m6 (bys s) (bI z)=N1 at*;obtain⟨n,z1⟩:=N1;have HT1:Hid (∀W,dX W g s z1->Calls prog 67 #[.pointer (some ⟨g,0,none⟩),.int .u8 44] W (pM (.bool (b7 (bys s) 44 z1).1) g s (b7 (bys s) 44 z1).2 W)):=qa (fun W h=>uW h hs 44);have htt:=fun h=>lZ (s:=bys s) (c:=44) (z:=z1) h;have htk:=iG (bys s) 44 z1;simp only at hR HN1;generalize b7 (bys s) 44 z1=T1 at*;obtain⟨bt,zt⟩:=T1
 have hze:bt=true->zt.e=0:=by
  intro hb;cases hi:kB (bys s) 44 z1 with
  |false=>rw[hi]at htk;have:=qW Prod.fst htk;rw[hb]at this;cases this
  |true=>rw[hi]at htk;have:=qW Prod.snd htk;rw[show zt=bI z1 from this];exact(htt hi).1
 have HX1:Hid (∀W,dX W g s zt->Calls prog 87 #[.pointer (some ⟨g,0,none⟩),.int .u8 125] W fun e w'=>e=.returned (.bool (decide ((nxR (bys s) zt).getD 0=125)))/\∃x,w'=ext W x):=qa (fun W h=>by rw[<-q4g (by decide)];exact isQ h 125);have HN2:Hid (∀W,bt=true->dX W g s zt->Calls prog 122 #[.pointer (some ⟨g,0,none⟩)] W (pM (.int .i64 ((m6 (bys s) zt).1:Nat)) g s (m6 (bys s) zt).2 W)):=qa (fun W hb h=>qaF h hs (hze hb));simp only at hR HT1;generalize hch:(nxR (bys s) zt).getD 0=ch at*;generalize m6 (bys s) zt=N2 at*;obtain⟨m,zm⟩:=N2;simp only at hR HN2;clear hz0 hc h htt htk hze hch
 obtain⟨hi,zh,qeC,hRw⟩:∃(hi:Int) (zh:PS),((bt=false/\hi=n/\zh=zt)\/(bt=true/\ch=125/\hi= -1/\zh=zt)\/(bt=true/\ch≠125/\hi=m/\zh=zm))/\
   R=(⟨8,0,0,0,0,0,n,hi⟩,if q20 n hi then(if(b7 (bys s) 125 zh).1 then(b7 (bys s) 125 zh).2 else bB 15 (b7 (bys s) 125 zh).2.p (b7 (bys s) 125 zh).2)else bB 18 z.p (if(b7 (bys s) 125 zh).1 then(b7 (bys s) 125 zh).2 else bB 15 (b7 (bys s) 125 zh).2.p (b7 (bys s) 125 zh).2)):=by
  cases bt
  ·exact⟨n,zt,.inl ⟨rfl,rfl,rfl⟩,hR⟩
  by_cases hch:ch=125
  ·rw[qt rfl,qt hch]at hR
   exact⟨-1,zt,.inr (.inl ⟨rfl,hch,rfl,rfl⟩),hR⟩
  rw[qt rfl,qr hch]at hR;exact⟨m,zm,.inr (.inr ⟨rfl,hch,rfl,rfl⟩),hR⟩
 clear hR;have HT2:Hid (∀W,dX W g s zh->Calls prog 67 #[.pointer (some ⟨g,0,none⟩),.int .u8 125] W (pM (.bool (b7 (bys s) 125 zh).1) g s (b7 (bys s) 125 zh).2 W)):=qa (fun W h=>uW h hs 125);generalize b7 (bys s) 125 zh=T2 at*;obtain⟨b2,z4⟩:=T2;simp only at hRw HT2;have HF1:Hid (∀W,dX W g s z4->Calls prog 43 #[.pointer (some ⟨g,0,none⟩),.int .i64 15,.int .i64 z4.p] W (pM (.tuple #[]) g s (bB 15 z4.p z4) W)):=qa (fun W h=>K2 h 15 z4.p);have HF2:Hid (∀W y,dX W g s y->Calls prog 43 #[.pointer (some ⟨g,0,none⟩),.int .i64 18,.int .i64 z.p] W (pM (.tuple #[]) g s (bB 18 z.p y) W)):=qa (fun W y h=>K2 h 18 z.p);obtain⟨z5,hz5⟩:∃z5,z5=if b2 then z4 else bB 15 z4.p z4:=⟨_,rfl⟩
 rw[<-hz5]at hRw;have HR:=qa hRw;have HZ5:=qa hz5;have qfK:=qa qeC;clear hRw hz5 qeC;go_enter func104,ntmps104
 go_upto_if 23 with(first
  |((with_reducible refine(HN1.o _ HS.o.box).mono ?_);rintro e w1 ⟨rfl,hB,hg⟩;have H1:=qa (HS.o.act hB hg);clear hB hg)
  |((with_reducible refine(HT1.o _ H1.o.box).mono ?_);rintro e w2 ⟨rfl,hB,hg⟩;have H2:=qa (H1.o.act hB hg);clear hB hg))
 go_cut [6] (fun x wx=>x=.int .i64 hi/\Qs w wx g s zh)
 case first=>
  rcases qfK.o with⟨rfl,rfl,rfl⟩|⟨rfl,hch,rfl,rfl⟩|⟨rfl,hch,rfl,rfl⟩
  ·go_wp2
   go_meet
   case rel=>exact⟨rfl,H2.o⟩
  ·rw[qw hch]at HX1
   go_wp2_with((with_reducible refine(HX1.o _ H2.o.box).mono ?_);rintro e w3 ⟨rfl,hx⟩;have H3:=qa (H2.o.ext hx);clear hx)
   go_meet
   case rel=>exact⟨rfl,H3.o⟩
  rw[qu hch]at HX1
  go_wp2_with(first
   |((with_reducible refine(HX1.o _ H2.o.box).mono ?_);rintro e w3 ⟨rfl,hx⟩;have H3:=qa (H2.o.ext hx);clear hx)
   |((with_reducible refine(HN2.o _ (by trivial) H3.o.box).mono ?_);rintro e w4 ⟨rfl,hB,hg⟩;have H4:=qa (H3.o.act hB hg);clear hB hg))
  go_meet
  case rel=>exact⟨rfl,H4.o⟩
 case rest=>
  obtain⟨rfl,hQ⟩:=hcut;have H5:=qa hQ;clear hQ HX1 HN2
  go_upto_if 31 with((with_reducible refine(HT2.o _ H5.o.box).mono ?_);rintro e w6 ⟨rfl,hB,hg⟩;have H6:=qa (H5.o.act hB hg);clear hB hg)
  go_cut [] (fun wx=>Qs w wx g s z5)
  case first=>
   cases b2 with
   |true=>
    go_wp2
    go_meet
    case rel=>rw[HZ5.o];exact H6.o
   |false=>
    have c6:=H6.o.box.c1
    go_wp2_with((with_reducible refine(HF1.o _ H6.o.box).mono ?_);rintro e w7 ⟨rfl,hB,hg⟩;have H7:=qa (H6.o.act hB hg);clear hB hg)
    go_meet
    case rel=>rw[HZ5.o];exact H7.o
  case rest=>
   have H8:=qa hcut;clear hcut;have HFR:Hid (q20 n hi=true->R=(⟨8,0,0,0,0,0,n,hi⟩,z5)):=qa (fun h=>by rw[HR.o,qt h]);have HFB:Hid (q20 n hi=false->R=(⟨8,0,0,0,0,0,n,hi⟩,bB 18 z.p z5)):=qa (fun h=>by rw[HR.o,qr (by rw[h];decide)]);have HCN:Hid (q20 n hi=(decide ((n:Int)<=30)&&(decide (hi= -1)||(decide ((n:Int)<=hi)&&decide (hi<=30))))):=qa (by unfold q20;rw[qw (show(0:Int)<=(n:Int) by omega)];rfl);have HHI:Hid (-1<=hi):=qa (by rcases qfK.o with⟨-,h,-⟩|⟨-,-,h,-⟩|⟨-,-,h,-⟩<;>omega);clear HR qfK;generalize q20 n hi=cb at*;have hh:=HHI.o;by_cases hcb:cb=true
   ·have HRR:=qa (HFR.o hcb)
    have hc:=HCN.o;rw[hcb]at hc;replace hc:=hc.symm;simp only[qG,Bool.or_eq_true,jk]at hc;obtain⟨a1,a2⟩:=hc;have b1:decide ((30:Int)<(n:Int))=false:=qu (by omega);have b1':¬30<n:=by omega
    have b2:decide ((30:Int)<hi)=false:=qu (by omega);by_cases a3:hi= -1
    ·have b3:decide ((0:Int)<=hi)=false:=qu (by omega)
     clear HCN HHI HFR HFB hh a1 a2 a3 hcb;go_wp2
     go_ret2
     rw[HRR.o];exact H8.o.ret rfl
    have b3:decide ((0:Int)<=hi)=true:=qw (by omega);have b4:decide (hi<(n:Int))=false:=qu (by omega);clear HCN HHI HFR HFB hh a1 a2 a3 hcb;go_wp2
    go_ret2
    rw[HRR.o];exact H8.o.ret rfl
   have hcf:cb=false:=by simpa using hcb
   have HRR:=qa (HFB.o hcf);have hc:=HCN.o;rw[hcf]at hc;replace hc:=hc.symm;simp only[Bool.and_eq_false_iff,Bool.or_eq_false_iff,qp]at hc;by_cases a1:(30:Int)<(n:Int)
   ·have a1':30<n:=by omega
    clear HCN HHI HFR HFB hh hc hcb hcf
    exact ZmR4
   have b1:decide ((30:Int)<(n:Int))=false:=qu a1;have b1':¬30<n:=by omega
   by_cases a2:(30:Int)<hi
   ·clear HCN HHI HFR HFB hh hc hcb hcf a1
    exact ZmR4
   have b2:decide ((30:Int)<hi)=false:=qu a2;have b3:decide ((0:Int)<=hi)=true:=qw (by omega);have b4:decide (hi<(n:Int))=true:=qw (by omega);have b3':(0:Int)<=hi:=j9 b3;have b4':hi<(n:Int):=j9 b4;clear HCN HHI HFR HFB hh hc hcb hcf a1 a2
   exact ZmR4
theorem dX.keepP{w w':World}{g b:Nat}{s:ByteArray}{z:PS}(h:dX w g s z)(hg:w.grownBy w' (some b))(hne:b≠g):dX w' g s z:=h.keep hg (fun e=>hne (by injection e))
structure QEs(w0 w:World)(g:Nat)(s:ByteArray)(z:PS)(b x:Nat):Prop where
 box:dX w g s z
 set:eX w b x
 gr:w0.grownBy w (some g)
 lo:w0.heap.size<=b
 gl:g<w0.heap.size
section
variable {w0 w w' : World} {g : Nat} {s : ByteArray} {z : PS} {b x : Nat}
theorem QEs.ext(h:QEs w0 w g s z b x)(hx:∃y,w'=ext w y):QEs w0 w' g s z b x:=
 have hb:=aB hx
 ⟨h.box.up hb,h.set.up hb,aC h.gr (aE hb _),h.lo,h.gl⟩
theorem QEs.below(h:QEs w0 w g s z b x)(hb:Below w.heap.size w w'):QEs w0 w' g s z b x:=
 ⟨h.box.up hb,h.set.up hb,aC h.gr (aE hb _),h.lo,h.gl⟩
theorem QEs.act{z':PS}(h:QEs w0 w g s z b x)(hB:dX w' g s z')(hg:w.grownBy w' (some g)):QEs w0 w' g s z' b x:=
 ⟨hB,h.set.keepP hg (by have:=h.lo;have:=h.gl;omega),aC h.gr hg,h.lo,h.gl⟩
theorem QEs.store{y:Nat}(h:QEs w0 w g s z b x)(hB:eX w' b y)(hg:w.grownBy w' (some b)):QEs w0 w' g s z b y:=
 ⟨h.box.keepP hg (by have:=h.lo;have:=h.gl;omega),hB,fV h.gr hg (fun k e=>by injection e with e;have:=h.lo;omega),h.lo,h.gl⟩
theorem QEs.far{q:Nat}(h:QEs w0 w g s z b x)(hg:w.grownBy w' (some q))(hq:w0.heap.size<=q)(hqb:q≠b):QEs w0 w' g s z b x:=
 ⟨h.box.keepP hg (by have:=h.gl;omega),h.set.keepP hg hqb,fV h.gr hg (fun k e=>by injection e with e;omega),h.lo,h.gl⟩
theorem QEs.inc(h:QEs w0 w g s z b x):QEs w0 (w.setCell ⟨g,1,none⟩ (.int .i64 ((z.p:Int)+1))) g s (bI z) b x:=h.act h.box.inc.1 h.box.inc.2
theorem QEs.inc2(h:QEs w0 w g s (bI z) b x):QEs w0 (w.setCell ⟨g,1,none⟩ (.int .i64 ((z.p:Int)+1+1))) g s (bI (bI z)) b x:=h.act h.box.inc2.1 h.box.inc2.2
end
structure Al{α:Type}(n:Nat)(z:PS)(r:α×PS)(x:α)(z':PS):Prop where
 ok:r.2.e=0->z'=r.2/\x=r.1
 bad:r.2.e≠0->z'.e≠0
 le:z.p<=z'.p
 top:z'.p<=n
theorem Al.same{α:Type}{n:Nat}{z:PS}{r:α×PS}{x:α}{z':PS}(h:r=(x,z'))(h1:z.p<=z'.p)(h2:z'.p<=n):Al n z r x z':=by
 subst h;exact⟨fun _=>⟨rfl,rfl⟩,id,h1,h2⟩
theorem Al.fault{α:Type}{n:Nat}{z:PS}{r:α×PS}(x:α){z':PS}(h:r.2.e≠0)(h0:z'.e≠0)(h1:z.p<=z'.p)(h2:z'.p<=n):Al n z r x z':=
 ⟨fun e=>absurd e h,fun _=>h0,h1,h2⟩
def q9p(r:(Nat×Bool)×PS)(g:Nat)(s:ByteArray)(z:PS)(w:World)(e:Ending)(w':World):Prop:=
 ∃x b z',e=.returned (.tuple #[cD x,.bool b])/\x<2^256/\Qs w w' g s z'/\Al s.size z r (x,b) z'
theorem QEs.qs{w0 w:World}{g:Nat}{s:ByteArray}{z:PS}{b x:Nat}(h:QEs w0 w g s z b x):Qs w0 w g s z:=⟨h.box,h.gr,h.gl⟩
theorem q19(c:UInt8)(W:World):(convert 143 9 (.slice (some ⟨W.heap.size,0,none⟩) 1 1)).run prog (W.alloc (.cells #[.int .u8 (c.toNat:Nat)] 5))=.ok (.string ⟨#[c]⟩) (W.alloc (.cells #[.int .u8 (c.toNat:Nat)] 5)):=
 fI (P:=prog) _ 143 9 5 underlying143 underlying5 underlying9 _ [c] (dY W #[.int .u8 (c.toNat:Nat)] 5 (by simp))
theorem q9M(c:UInt8)(W:World):Calls prog 119 #[.string ⟨#[c]⟩] W (cI (eZ c) W):=by
 have:=ofQ ⟨#[c]⟩ (by show 1<=1000000;decide) W;rwa [show bys ⟨#[c]⟩=[c]from rfl,q7U]at this
theorem dX.hop{w:World}{g:Nat}{s:ByteArray}{z:PS}(h:dX w g s z)(r:Nat){v:Int}(hv:v=(r:Int)):dX (w.setCell ⟨g,1,none⟩ (.int .i64 v)) g s ⟨r,z.e,z.b⟩/\w.grownBy (w.setCell ⟨g,1,none⟩ (.int .i64 v)) (some g):=by
 subst hv;exact h.set1 r
theorem q7Y(c:UInt8):dgR c<16:=by
 unfold dgR;split
 ·omega
 split<;>omega
theorem qb8(c:UInt8):okD c 16=decide (0<=dgR c):=by unfold okD;rw[qw (q7Y c),Bool.and_true]
theorem qaG {w : World} {g : Nat} {s : ByteArray} {z : PS} {c0 : UInt8} (h : dX w g s z) (hs : s.size ≤ 1000000) (hc0 : nxR (bys s) z = some c0) :
    Calls prog 120 #[.pointer (some ⟨g, 0, none⟩)] w (q9p (pG (bys s) z) g s z w) := by
  obtain ⟨hz0, hzp, -⟩ := dE hc0
  rw [aP] at hzp
  have hz := gZ
  obtain ⟨Z, hZ⟩ : ∃ Z, Z = z4 := ⟨_, rfl⟩
  rw [← hZ] at hz
  have HZV : Hid (Value.agg Z = cD 0) := qa (by rw [hZ]; rfl)
  have c1 := h.c1
  have c0 := h.c0
  have f1 := h.free 1
  have hgl := h.lt
  have HEA : Hid (QEs w (w.alloc (.cells Z 63)) g s z w.heap.size 0) := qa ⟨h.up (aA _ _), cL w Z hZ, aE (aA _ _) _, qb _, hgl⟩
  have HE0 : Hid (QEs w ((w.setCell ⟨g, 1, none⟩ (.int .i64 ((z.p : Int) + 1 + 1))).alloc (.cells Z 63)) g s (bI (bI z)) w.heap.size 0) := qa (by
    obtain ⟨hi1, hi2⟩ := h.hop (z.p + 1 + 1) (v := (z.p : Int) + 1 + 1) rfl
    have hb := aA (w.setCell ⟨g, 1, none⟩ (.int .i64 ((z.p : Int) + 1 + 1))) (.cells Z 63)
    have hn := cL (w.setCell ⟨g, 1, none⟩ (.int .i64 ((z.p : Int) + 1 + 1))) Z hZ
    rw [show (w.setCell ⟨g, 1, none⟩ (.int .i64 ((z.p : Int) + 1 + 1))).heap.size = w.heap.size by simp] at hn
    exact ⟨hi1.up hb, hn, aC hi2 (aE hb _), qb _, hgl⟩)
  have HF : Hid (∀ W y, dX W g s y → Calls prog 43 #[.pointer (some ⟨g, 0, none⟩), .int .i64 15, .int .i64 ((z.p : Int) + 1)] W (pM (.tuple #[]) g s (bB 15 (z.p + 1) y) W)) := qa (fun W y h => K2 h 15 (z.p + 1))
  obtain ⟨R, hR⟩ : ∃ R, R = pG (bys s) z := ⟨_, rfl⟩
  rw [← hR]
  have HX := qa (@e6 prog 9 (by kernel_rfl) s (z.p + 1))
  have HL0 : Hid ((0 : Nat) < 2 ^ 256) := qa q7h
  clear h hZ hc0
  by_cases hp1 : z.p + 1 < s.size
  rotate_left 1
  · have hn : nxR (bys s) (bI z) = none := by unfold nxR; rw [qr (by rw [aP]; exact fun h => hp1 h.2)]
    have HR : Hid (R = ((0, false), bB 15 (z.p + 1) (bI z))) := qa (by rw [hR]; unfold pG; rw [hn])
    have HP : Hid (z.p ≤ (bB 15 (z.p + 1) z).p ∧ (bB 15 (z.p + 1) z).p ≤ s.size) := qa (by rw [eC]; omega)
    have hpd : decide ((s.size : Int) ≤ (z.p : Int) + 1) = true := qw (by omega)
    have hpi : (z.p : Int) + 1 ≥ (s.size : Int) := by omega
    clear hR hn HX
    go_enter func120, ntmps120
    go_wp2_with (first
      | ((with_reducible refine (HF.o _ _ HEA.o.box).mono ?_); rintro e w2 ⟨rfl, hB, hg⟩; have HE2 := qa (HEA.o.act hB hg); clear hB hg)
      | (refine aF rfl _ _ rfl w.heap.size rfl _ 0 HZV.o HE2.o.set ?_; intro w3 hB2 hg2; have HE3 := qa (HE2.o.store hB2 hg2); clear hB2 hg2))
    refine aX (s := 2) (b := 3) (ad := ⟨w.heap.size, 0, none⟩) (x := cD 0) (y := .bool false) rfl rfl rfl rfl HE3.o.set.load ?_
    exact ⟨0, false, _, rfl, HL0.o, HE3.o.qs, Al.fault _ (by rw [HR.o]; exact cH _ (by decide)) (cH _ (by decide)) HP.o.1 HP.o.2⟩
  · have hn : nxR (bys s) (bI z) = some ((bys s).getD (z.p + 1) 0) := by unfold nxR; rw [qt ⟨hz0, by rw [aP]; exact hp1⟩]; rfl
    have hix := HX.o hp1
    have hR2 : R = (match X2 ((bys s).getD (z.p + 1) 0) with
      | some a => ((a, true), bI (bI z))
      | none => match q1G ((bys s).getD (z.p + 1) 0) with
        | some b => ((eZ b, false), bI (bI z))
        | none => if (bys s).getD (z.p + 1) 0 = 120 then match q1H (bys s) (z.p + 1) with
            | some b => ((eZ b, false), ⟨z.p + 4, z.e, z.b⟩)
            | none => ((0, false), bB 15 (z.p + 1) (bI (bI z)))
          else ((0, false), bB 15 (z.p + 1) (bI (bI z)))) := by rw [hR]; unfold pG; rw [hn]; rfl
    have HOF := qa (fun c W => q9M c W)
    have HMA := qa (fun c W => q7X c W)
    have HP : Hid (z.p ≤ (bI (bI z)).p ∧ (bI (bI z)).p ≤ s.size) := qa ⟨by show z.p ≤ z.p + 1 + 1; omega, hp1⟩
    have HPF : Hid (z.p ≤ (bB 15 (z.p + 1) (bI (bI z))).p ∧ (bB 15 (z.p + 1) (bI (bI z))).p ≤ s.size ∧ (bB 15 (z.p + 1) (bI (bI z))).e ≠ 0) := qa (by rw [eC]; exact ⟨HP.o.1, HP.o.2, cH _ (by decide)⟩)
    have hpi : ¬ (z.p : Int) + 1 ≥ (s.size : Int) := by omega
    have hpd : decide ((s.size : Int) ≤ (z.p : Int) + 1) = false := qu (by omega)
    have hii : (((z.p + 1 : Nat)) : Int) = (z.p : Int) + 1 := rfl
    rw [hii] at hix
    clear hR hn HX HEA hii
    generalize (bys s).getD (z.p + 1) 0 = c at *
    go_enter func120, ntmps120
    go_upto_if 33 with (fail)
    generalize (w.setCell ⟨g, 1, none⟩ (.int .i64 ((z.p : Int) + 1 + 1))).alloc (.cells Z 63) = w1 at *
    obtain ⟨g0, hg0⟩ : ∃ g0, g0 = w.heap.size := ⟨_, rfl⟩
    rw [← hg0] at HE0 ⊢
    have HG0 := qa hg0
    have c0' := HE0.o.box.c0
    clear hg0 c0 c1 f1 hix
    by_cases qee : c = 110
    · have HR : Hid (R = ((eZ 10, false), bI (bI z))) := qa (by rw [hR2, qee]; rfl)
      subst qee
      clear hR2
      go_wp2_with (first
        | ((with_reducible refine (HOF.o 10 _).mono ?_); rintro e w2 ⟨rfl, hx⟩; have HE2 := qa (HE0.o.ext hx); clear hx)
        | (refine aF rfl _ _ rfl g0 rfl _ _ rfl HE2.o.set ?_; intro w3 hB2 hg2; have HE3 := qa (HE2.o.store hB2 hg2); clear hB2 hg2))
      refine aX (s := 2) (b := 3) (ad := ⟨g0, 0, none⟩) (x := cD (eZ 10)) (y := .bool false) rfl rfl rfl rfl HE3.o.set.load ?_
      exact ⟨_, false, _, rfl, mN _, HE3.o.qs, Al.same HR.o HP.o.1 HP.o.2⟩
    have k110 : ¬ c.toNat = 110 := fun e => qee (UInt8.toNat_inj.1 e)
    have k110' : ((c.toNat : Int) == 110) = false := kI (b := 110) qee
    by_cases qec : c = 116
    · have HR : Hid (R = ((eZ 9, false), bI (bI z))) := qa (by rw [hR2, qec]; rfl)
      subst qec
      clear hR2
      go_wp2_with (first
        | ((with_reducible refine (HOF.o 9 _).mono ?_); rintro e w2 ⟨rfl, hx⟩; have HE2 := qa (HE0.o.ext hx); clear hx)
        | (refine aF rfl _ _ rfl g0 rfl _ _ rfl HE2.o.set ?_; intro w3 hB2 hg2; have HE3 := qa (HE2.o.store hB2 hg2); clear hB2 hg2))
      refine aX (s := 2) (b := 3) (ad := ⟨g0, 0, none⟩) (x := cD (eZ 9)) (y := .bool false) rfl rfl rfl rfl HE3.o.set.load ?_
      exact ⟨_, false, _, rfl, mN _, HE3.o.qs, Al.same HR.o HP.o.1 HP.o.2⟩
    have k116 : ¬ c.toNat = 116 := fun e => qec (UInt8.toNat_inj.1 e)
    have k116' : ((c.toNat : Int) == 116) = false := kI (b := 116) qec
    by_cases qed : c = 115
    · have HR : Hid (R = ((eZ 32, false), bI (bI z))) := qa (by rw [hR2, qed]; rfl)
      subst qed
      clear hR2
      go_wp2_with (first
        | ((with_reducible refine (HOF.o 32 _).mono ?_); rintro e w2 ⟨rfl, hx⟩; have HE2 := qa (HE0.o.ext hx); clear hx)
        | (refine aF rfl _ _ rfl g0 rfl _ _ rfl HE2.o.set ?_; intro w3 hB2 hg2; have HE3 := qa (HE2.o.store hB2 hg2); clear hB2 hg2))
      refine aX (s := 2) (b := 3) (ad := ⟨g0, 0, none⟩) (x := cD (eZ 32)) (y := .bool false) rfl rfl rfl rfl HE3.o.set.load ?_
      exact ⟨_, false, _, rfl, mN _, HE3.o.qs, Al.same HR.o HP.o.1 HP.o.2⟩
    have k115 : ¬ c.toNat = 115 := fun e => qed (UInt8.toNat_inj.1 e)
    have k115' : ((c.toNat : Int) == 115) = false := kI (b := 115) qed
    by_cases qef : c = 100
    · have HR : Hid (R = ((y8, true), bI (bI z))) := qa (by rw [hR2, qef]; rfl)
      have HD : Hid (∀ W, Calls prog 135 #[.int .u8 48, .int .u8 57] W (cI y8 W)) := qa (fun W => T4 48 57 W)
      subst qef
      clear hR2
      generalize hdg : y8 = dg at *
      have hdl : dg < 2 ^ 256 := by rw [← hdg]; exact B7
      have HDL := qa hdl
      clear hdl hdg
      go_wp2_with (first
        | ((with_reducible refine (HD.o _).mono ?_); rintro e w2 ⟨rfl, hx⟩; have HE2 := qa (HE0.o.ext hx); clear hx)
        | (refine aF rfl _ _ rfl g0 rfl _ _ rfl HE2.o.set ?_; intro w3 hB2 hg2; have HE3 := qa (HE2.o.store hB2 hg2); clear hB2 hg2))
      refine aX (s := 2) (b := 3) (ad := ⟨g0, 0, none⟩) (x := cD dg) (y := .bool true) rfl rfl rfl rfl HE3.o.set.load ?_
      exact ⟨_, true, _, rfl, HDL.o, HE3.o.qs, Al.same HR.o HP.o.1 HP.o.2⟩
    have k100 : ¬ c.toNat = 100 := fun e => qef (UInt8.toNat_inj.1 e)
    have k100' : ((c.toNat : Int) == 100) = false := kI (b := 100) qef
    by_cases qeb : c = 119
    · have HR : Hid (R = ((eZ 95 ||| (y8 ||| (gS 65 90 ||| gS 97 122)), true), bI (bI z))) := qa (by rw [hR2, qeb, Nat.or_comm (gS 65 90)]; rfl)
      have hdl := B7
      have hll := Q0
      have hul := q3w
      have h1l := mN 95
      have HD : Hid (∀ W, Calls prog 135 #[.int .u8 48, .int .u8 57] W (cI y8 W)) := qa (fun W => T4 48 57 W)
      have HU : Hid (∀ W, Calls prog 135 #[.int .u8 65, .int .u8 90] W (cI (gS 65 90) W)) := qa (fun W => T4 65 90 W)
      have HL : Hid (∀ W, Calls prog 135 #[.int .u8 97, .int .u8 122] W (cI (gS 97 122) W)) := qa (fun W => T4 97 122 W)
      have HO1 : Hid (∀ W, Calls prog 136 #[cD (gS 65 90), cD (gS 97 122)] W (cI (gS 65 90 ||| gS 97 122) W)) := qa (fun W => orQ hul hll W)
      have HO2 : Hid (∀ W, Calls prog 136 #[cD y8, cD (gS 65 90 ||| gS 97 122)] W (cI (y8 ||| (gS 65 90 ||| gS 97 122)) W)) := qa (fun W => orQ hdl (eP hul hll) W)
      have HO3 : Hid (∀ W, Calls prog 136 #[cD (eZ 95), cD (y8 ||| (gS 65 90 ||| gS 97 122))] W (cI (eZ 95 ||| (y8 ||| (gS 65 90 ||| gS 97 122))) W)) := qa (fun W => orQ h1l (eP hdl (eP hul hll)) W)
      have HOL := qa (eP h1l (eP hdl (eP hul hll)))
      have qjS := qa (fun W => HOF.o 95 W)
      subst qeb
      clear hR2 hdl hll hul h1l HOF
      generalize eZ 95 ||| (y8 ||| (gS 65 90 ||| gS 97 122)) = x4 at *
      generalize y8 ||| (gS 65 90 ||| gS 97 122) = x3 at *
      generalize gS 65 90 ||| gS 97 122 = x2 at *
      generalize gS 65 90 = xu at *
      generalize gS 97 122 = xl at *
      generalize eZ 95 = xo at *
      generalize y8 = xd at *
      go_wp2_with (first
        | ((with_reducible refine (qjS.o _).mono ?_); rintro e w2 ⟨rfl, hx⟩; have HE2 := qa (HE0.o.ext hx); clear hx)
        | ((with_reducible refine (HD.o _).mono ?_); rintro e w3 ⟨rfl, hx⟩; have HE3 := qa (HE2.o.ext hx); clear hx)
        | ((with_reducible refine (HU.o _).mono ?_); rintro e w4 ⟨rfl, hx⟩; have HE4 := qa (HE3.o.ext hx); clear hx)
        | ((with_reducible refine (HL.o _).mono ?_); rintro e w5 ⟨rfl, hx⟩; have HE5 := qa (HE4.o.ext hx); clear hx)
        | ((with_reducible refine (HO1.o _).mono ?_); rintro e w6 ⟨rfl, hx⟩; have HE6 := qa (HE5.o.ext hx); clear hx)
        | ((with_reducible refine (HO2.o _).mono ?_); rintro e w7 ⟨rfl, hx⟩; have HE7 := qa (HE6.o.ext hx); clear hx)
        | ((with_reducible refine (HO3.o _).mono ?_); rintro e w8 ⟨rfl, hx⟩; have HE8 := qa (HE7.o.ext hx); clear hx)
        | (refine aF rfl _ _ rfl g0 rfl _ _ rfl HE8.o.set ?_; intro w9 hB2 hg2; have HE9 := qa (HE8.o.store hB2 hg2); clear hB2 hg2))
      refine aX (s := 2) (b := 3) (ad := ⟨g0, 0, none⟩) (x := cD x4) (y := .bool true) rfl rfl rfl rfl HE9.o.set.load ?_
      exact ⟨_, true, _, rfl, HOL.o, HE9.o.qs, Al.same HR.o HP.o.1 HP.o.2⟩
    have k119 : ¬ c.toNat = 119 := fun e => qeb (UInt8.toNat_inj.1 e)
    have k119' : ((c.toNat : Int) == 119) = false := kI (b := 119) qeb
    have hR3 : R = if c ∈ yA then ((eZ c, false), bI (bI z)) else if c = 120 then match q1H (bys s) (z.p + 1) with
            | some b => ((eZ b, false), ⟨z.p + 4, z.e, z.b⟩)
            | none => ((0, false), bB 15 (z.p + 1) (bI (bI z)))
          else ((0, false), bB 15 (z.p + 1) (bI (bI z))) := by
      rw [hR2]
      unfold X2 q1G
      rw [qr qef, qr qeb, qr qee, qr qec, qr qed]
      by_cases hm : c ∈ yA
      · rw [qt hm, qt hm]
      · rw [qr hm, qr hm]
    clear hR2
    have hxR : q1H (bys s) (z.p + 1) = if z.p + 1 + 2 < s.size ∧ 0 ≤ dgR ((bys s).getD (z.p + 1 + 1) 0) ∧ 0 ≤ dgR ((bys s).getD (z.p + 1 + 2) 0) then some (UInt8.ofNat (16 * (dgR ((bys s).getD (z.p + 1 + 1) 0)).toNat + (dgR ((bys s).getD (z.p + 1 + 2) 0)).toNat)) else none := by
      unfold q1H; rw [aP]; simp only [qb8, jk]
    have HI1 : Hid (z.p + 1 + 2 < s.size → ∀ W, (Instr.index 9 (.string s) (.int .i64 ((z.p : Int) + 1 + 1))).run prog W = .ok (.int .u8 (((bys s).getD (z.p + 1 + 1) 0).toNat : Nat)) W) := qa (fun hp W => e6 (P := prog) 9 (by kernel_rfl) (show z.p + 1 + 1 < s.size by omega) W)
    have HI2 : Hid (z.p + 1 + 2 < s.size → ∀ W, (Instr.index 9 (.string s) (.int .i64 ((z.p : Int) + 1 + 2))).run prog W = .ok (.int .u8 (((bys s).getD (z.p + 1 + 2) 0).toNat : Nat)) W) := qa (fun hp W => e6 (P := prog) 9 (by kernel_rfl) hp W)
    have HH := qa (fun c W => qb6 c W)
    have hd1 := q7Y ((bys s).getD (z.p + 1 + 1) 0)
    have hd2 := q7Y ((bys s).getD (z.p + 1 + 2) 0)
    generalize (bys s).getD (z.p + 1 + 1) 0 = c1 at *
    generalize (bys s).getD (z.p + 1 + 2) 0 = c2 at *
    have HH1 := qa (fun W => HH.o c1 W)
    have HH2 := qa (fun W => HH.o c2 W)
    generalize dgR c1 = n1 at *
    generalize dgR c2 = n2 at *
    obtain ⟨hb, hhb⟩ : ∃ hb : Bool, hb = decide (c = 120 ∧ z.p + 1 + 2 < s.size ∧ 0 ≤ n1 ∧ 0 ≤ n2) := ⟨_, rfl⟩
    have HHB := qa hhb
    have HR3 := qa hR3
    have HXR := qa hxR
    clear hhb hR3 hxR HH
    go_upto_region 17 with (fail)
    go_cut [33, 59] (fun _ x wx => x = .bool hb ∧ QEs w wx g s (bI (bI z)) g0 0)
    case first =>
      by_cases qbK : c = 120
      · have k120 : ((c.toNat : Int) == 120) = true := by rw [qbK]; rfl
        by_cases hp3 : z.p + 1 + 2 < s.size
        · have q3 : (z.p : Int) + 1 + 2 < (s.size : Int) := by omega
          have q3d : decide ((z.p : Int) + 1 + 2 < (s.size : Int)) = true := qw q3
          have qdX := HI1.o hp3
          have qca := HI2.o hp3
          by_cases hn1 : 0 ≤ n1
          · have q1d : decide ((0 : Int) ≤ n1) = true := qw hn1
            obtain ⟨r, hr⟩ : ∃ r : Bool, r = decide ((0 : Int) ≤ n2) := ⟨_, rfl⟩
            have HB2 : Hid (hb = r) := qa (by rw [HHB.o, hr]; simp [qbK, hp3, hn1])
            cases r with
            | true =>
              have q2 : (0 : Int) ≤ n2 := j9 hr.symm
              exact ZmR3
            | false =>
              exact ZmR3
          · have q1d : decide ((0 : Int) ≤ n1) = false := qu hn1
            have HB2 : Hid (hb = false) := qa (by rw [HHB.o]; simp [hn1])
            clear HHB HR3 HXR qbK hn1
            go_wp2_with ((with_reducible refine (HH1.o _).mono ?_); rintro e w2 ⟨rfl, hx⟩; have HE2 := qa (HE0.o.ext hx); clear hx)
            go_meet
            case rel => exact ⟨by rw [HB2.o], HE2.o⟩
        · have q3d : decide ((z.p : Int) + 1 + 2 < (s.size : Int)) = false := qu (by omega)
          have HB2 : Hid (hb = false) := qa (by rw [HHB.o]; simp [hp3])
          clear HHB HR3 HXR qbK
          go_wp2
          go_meet
          case rel => exact ⟨by rw [HB2.o], HE0.o⟩
      · have k120 : ¬ c.toNat = 120 := fun e => qbK (UInt8.toNat_inj.1 e)
        have k120' : ((c.toNat : Int) == 120) = false := kI (b := 120) qbK
        have HB2 : Hid (hb = false) := qa (by rw [HHB.o]; simp [qbK])
        clear HHB HR3 HXR qbK
        go_wp2
        go_meet
        case rel => exact ⟨by rw [HB2.o], HE0.o⟩
    case rest =>
      obtain ⟨rfl, hE⟩ := hcut
      have HE1 := qa hE
      clear hE HE0 c0'
      have c0' := HE1.o.box.c0
      cases hb with
      | true =>
        have hq := HHB.o
        have hq' := j9 hq.symm
        obtain ⟨qbK, hp3, hn1, hn2⟩ := hq'
        obtain ⟨m1, rfl⟩ : ∃ m : Nat, n1 = (m : Int) := ⟨n1.toNat, by omega⟩
        obtain ⟨m2, rfl⟩ : ∃ m : Nat, n2 = (m : Int) := ⟨n2.toNat, by omega⟩
        have HR : Hid (R = ((eZ (UInt8.ofNat (16 * m1 + m2)), false), ⟨z.p + 4, z.e, z.b⟩)) := qa (by
          rw [HR3.o, HXR.o, qr (by rw [qbK]; decide), qt qbK, qt ⟨hp3, by omega, by omega⟩]; rfl)
        have qdX := HI1.o hp3
        have qca := HI2.o hp3
        have HO := qa (fun W => HOF.o (UInt8.ofNat (16 * m1 + m2)) W)
        have f1 := HE1.o.box.free 1
        have c1w := HE1.o.box.c1
        have hcv := fun W => q19 (UInt8.ofNat (16 * m1 + m2)) W
        rw [show ((UInt8.ofNat (16 * m1 + m2)).toNat : Int) = 16 * (m1 : Int) + (m2 : Int) by simp; omega] at hcv
        generalize UInt8.ofNat (16 * m1 + m2) = ch at *
        have HE2 : Hid (QEs w (wc.setCell ⟨g, 1, none⟩ (.int .i64 ((z.p : Int) + 1 + 3))) g s ⟨z.p + 4, z.e, z.b⟩ g0 0) := qa (by
          obtain ⟨a, b⟩ := HE1.o.box.hop (z.p + 4) (v := (z.p : Int) + 1 + 3) (by omega)
          exact HE1.o.act a b)
        clear hq HHB HR3 HXR qbK HPF HP c0'
        go_upto_region 19 with (fail)
        generalize wc.setCell ⟨g, 1, none⟩ (.int .i64 ((z.p : Int) + 1 + 3)) = w5 at *
        have c05 := HE2.o.box.c0
        have hl5 := HE2.o.box.lt
        have hne : ¬ g = g0 := by have := HE2.o.lo; have := HE2.o.gl; omega
        refine iC (C := fun w' => ∃ x, w' = chg w5 (some g0) x) (.q 0 (.q 1 (.q 2 (.q 3 (.q 4 (.q 5 (.q 6 (.q 9 (.q 10 (.q 11 (.q 12 (.q 13 (.q 14 (.q 15 (.br 7 (.q 8 (.br 16 (.q 17 (.q 18 (.br 19 (.br 20 (.br 21 (.br 22 (.br 23 .done .no) .no) .no) .no) .no))) .no)) .no))))))))))))))) (by kernel_rfl) (by kernel_rfl) (bX (cJ _ _)) ?_
        (repeat ((unfold bF; simp only [pk]); go_big_quiet_step (fail); refine wpQuiet_nil ?_))
        have HE3 := qa (HE2.o.below (aN w5 1))
        have HG3 : Hid (w5.grownBy w5.drew (some g0)) := qa (cJ w5 _)
        rw [show w5.drewN 1 = w5.drew from rfl] at HE3
        clear f1 c1w
        ((unfold bF; simp only [pk]); refine ⟨?_, by unfold bF; trivial⟩; unfold aG)
        go_wp2_with ((with_reducible refine (HH1.o _).mono ?_); rintro e w6 ⟨rfl, hx⟩; have HE4 := qa (HE3.o.ext hx); have HG4 := qa (aC HG3.o (aE (aB hx) _)); clear hx)
        refine ⟨bX HG4.o, ?_⟩
        unfold aG
        (repeat ((unfold bF; simp only [pk]); go_big_quiet_step (fail); refine wpQuiet_nil ?_))
        ((unfold bF; simp only [pk]); refine ⟨?_, by unfold bF; trivial⟩; unfold aG)
        go_wp2_with ((with_reducible refine (HH2.o _).mono ?_); rintro e w7 ⟨rfl, hx⟩; have HE5 := qa (HE4.o.ext hx); have HG5 := qa (aC HG4.o (aE (aB hx) _)); clear hx)
        refine ⟨bX HG5.o, ?_⟩
        unfold aG
        (repeat ((unfold bF; simp only [pk]); go_big_quiet_step (fail); refine wpQuiet_nil ?_))
        ((unfold bF; simp only [pk]); refine ⟨?_, by unfold bF; trivial⟩; unfold aG)
        go_wp2
        have HBA := aA w7 (.cells #[.int .u8 (16 * (m1 : Int) + (m2 : Int))] 5)
        have HE6 := qa (HE5.o.below HBA)
        have HG6 := qa (aC HG5.o (aE HBA _))
        have qj0 := hcv w7
        clear HBA
        refine ⟨bX HG6.o, ?_⟩
        unfold aG
        ((unfold bF; simp only [pk]); refine ⟨?_, by unfold bF; trivial⟩; unfold aG)
        go_wp2
        refine ⟨bX HG6.o, ?_⟩
        unfold aG
        ((unfold bF; simp only [pk]); refine ⟨?_, by unfold bF; trivial⟩; unfold aG)
        go_wp2_with ((with_reducible refine (HO.o _).mono ?_); rintro e w8 ⟨rfl, hx⟩; have HE7 := qa (HE6.o.ext hx); have HG7 := qa (aC HG6.o (aE (aB hx) _)); clear hx)
        refine ⟨bX HG7.o, ?_⟩
        unfold aG
        ((unfold bF; simp only [pk]); refine ⟨?_, by unfold bF; trivial⟩; unfold aG)
        go_wp2_with (refine aF rfl _ _ rfl g0 rfl _ _ rfl HE7.o.set ?_; intro w9 hB2 hg2; have HE8 := qa (HE7.o.store hB2 hg2); have HG8 := qa (aC HG7.o hg2); clear hB2 hg2)
        refine ⟨bX HG8.o, ?_⟩
        unfold aG
        ((unfold bF; simp only [pk]); refine ⟨?_, by unfold bF; trivial⟩; unfold aG)
        go_wp2
        refine ⟨bX HG8.o, ?_⟩
        unfold aG
        unfold bF
        intro hz8 hz9
        clear hz9
        go_wp2
        refine aX (s := 2) (b := 3) (ad := ⟨g0, 0, none⟩) (x := cD (eZ ch)) (y := .bool false) rfl rfl rfl rfl HE8.o.set.load ?_
        exact ⟨_, false, _, rfl, mN _, HE8.o.qs, Al.same HR.o (by show z.p ≤ z.p + 4; omega) (by show z.p + 4 ≤ s.size; omega)⟩
      | false =>
        have HMC := qa (fun W => HMA.o c W)
        by_cases hm : c ∈ yA
        · have HR : Hid (R = ((eZ c, false), bI (bI z))) := qa (by rw [HR3.o, qt hm])
          have hcv := fun W => q19 c W
          have HO := qa (fun W => HOF.o c W)
          rw [qw hm] at HMC
          clear HHB HR3 HXR hm HOF
          go_wp2_with (first
            | ((with_reducible refine (HMC.o _).mono ?_); rintro e w2 ⟨rfl, hx⟩; have HE2 := qa (HE1.o.ext hx); have qj0 := hcv w2; have HE3 := qa (HE2.o.below (aA w2 (.cells #[.int .u8 (c.toNat : Nat)] 5))); clear hx)
            | ((with_reducible refine (HO.o _).mono ?_); rintro e w3 ⟨rfl, hx⟩; have HE4 := qa (HE3.o.ext hx); clear hx)
            | (refine aF rfl _ _ rfl g0 rfl _ _ rfl HE4.o.set ?_; intro w4 hB2 hg2; have HE5 := qa (HE4.o.store hB2 hg2); clear hB2 hg2))
          refine aX (s := 2) (b := 3) (ad := ⟨g0, 0, none⟩) (x := cD (eZ c)) (y := .bool false) rfl rfl rfl rfl HE5.o.set.load ?_
          exact ⟨_, false, _, rfl, mN _, HE5.o.qs, Al.same HR.o HP.o.1 HP.o.2⟩
        · have HR : Hid (R.2.e ≠ 0) := qa (by
            have h := HHB.o
            rw [HR3.o, qr hm]
            split
            · rename_i qbK
              rw [HXR.o, qr (fun hh => by rw [qw ⟨qbK, hh.1, hh.2.1, hh.2.2⟩] at h; cases h)]
              exact cH _ (by decide)
            · exact cH _ (by decide))
          rw [qu hm] at HMC
          clear HHB HR3 HXR hm HOF
          go_wp2_with (first
            | ((with_reducible refine (HMC.o _).mono ?_); rintro e w2 ⟨rfl, hx⟩; have HE2 := qa (HE1.o.ext hx); clear hx)
            | ((with_reducible refine (HF.o _ _ HE2.o.box).mono ?_); rintro e w3 ⟨rfl, hB, hg⟩; have HE3 := qa (HE2.o.act hB hg); clear hB hg)
            | (refine aF rfl _ _ rfl g0 rfl _ 0 HZV.o HE3.o.set ?_; intro w4 hB2 hg2; have HE4 := qa (HE3.o.store hB2 hg2); clear hB2 hg2))
          refine aX (s := 2) (b := 3) (ad := ⟨g0, 0, none⟩) (x := cD 0) (y := .bool false) rfl rfl rfl rfl HE4.o.set.load ?_
          exact ⟨_, false, _, rfl, HL0.o, HE4.o.qs, Al.fault _ HR.o HPF.o.2.2 HPF.o.1 HPF.o.2.1⟩
theorem q4h(s:ByteArray)(a:Nat)(h:a<s.size):s.extract a (a+1)=⟨#[(bys s).getD a 0]⟩:=by
 have hl:a<(bys s).length:=by rw[aP];exact h
 refine lL (l:=[(bys s).getD a 0]) ?_;rw[show a+1-a=1 by omega,jB hl,qq,qv hl];rfl
theorem qb9{w:World}{g:Nat}{s:ByteArray}{z:PS}(h:dX w g s z)(hs:s.size<=1000000)(hz0:z.e=0)(hzp:z.p<=s.size):
  Calls prog 133 #[.pointer (some ⟨g,0,none⟩)] w (q9p (eQ (bys s) z) g s z w):=by
 have hz:=gZ;obtain⟨Z,hZ⟩:∃Z,Z=z4:=⟨_,rfl⟩;rw[<-hZ]at hz;have HZV:Hid (Value.agg Z=cD 0):=qa (by rw[hZ];rfl);have HEA:Hid (QEs w (w.alloc (.cells Z 63)) g s z w.heap.size 0):=qa ⟨h.up (aA _ _),cL w Z hZ,aE (aA _ _) _,qb _,h.lt⟩;have HF:Hid (∀W,dX W g s z->Calls prog 43 #[.pointer (some ⟨g,0,none⟩),.int .i64 15,.int .i64 z.p] W (pM (.tuple #[]) g s (bB 15 z.p z) W)):=qa (fun W h=>K2 h 15 z.p);have HES:Hid (∀W,nxR (bys s) z=some 92->dX W g s z->Calls prog 120 #[.pointer (some ⟨g,0,none⟩)] W (q9p (pG (bys s) z) g s z W)):=qa (fun W hc h=>qaG h hs hc);have HSL:=qa (q4h s z.p);have HOF:=qa (fun c W=>q9M c W);have hnx:nxR (bys s) z=if z.p<s.size then some ((bys s).getD z.p 0)else none:=by unfold nxR;rw[aP];simp only[hz0,true_and]
 obtain⟨R,hR⟩:∃R,R=eQ (bys s) z:=⟨_,rfl⟩;rw[<-hR];have HL0:Hid ((0:Nat)<2^256):=qa q7h;have HPF:Hid (z.p<=(bB 15 z.p z).p/\(bB 15 z.p z).p<=s.size/\(bB 15 z.p z).e≠0):=qa (by rw[eC];exact⟨qb _,hzp,cH _ (by decide)⟩);obtain⟨g0,hg0⟩:∃g0,g0=w.heap.size:=⟨_,rfl⟩;have qcC:Hid (∀W,dX W g s z->Calls prog 87 #[.pointer (some ⟨g,0,none⟩),.int .u8 92] W fun e w'=>e=.returned (.bool (kB (bys s) 92 z))/\∃x,w'=ext W x):=qa (fun W h=>isQ h 92);have qer:Hid (∀W,dX W g s z->Calls prog 87 #[.pointer (some ⟨g,0,none⟩),.int .u8 45] W fun e w'=>e=.returned (.bool (kB (bys s) 45 z))/\∃x,w'=ext W x):=qa (fun W h=>isQ h 45);rw[<-hg0]at HEA;have hne:¬g=g0:=by have:=h.lt;omega
 have HG0:=qa hg0;clear h hZ;go_enter func133,ntmps133;cases h92:kB (bys s) 92 z with
 |true=>
  obtain⟨-,-,hn⟩:=lZ h92;have HR:Hid (R=pG (bys s) z):=qa (by rw[hR];unfold eQ;rw[hn];rfl);have HE:=qa (fun W=>HES.o W hn);rw[h92]at qcC;clear hR hnx HES h92 hn;rw[hg0]at HEA hne
  go_wp2_with(first
   |((with_reducible refine(qcC.o _ HEA.o.box).mono ?_);rintro e w1 ⟨rfl,hx⟩;have HE1:=qa (HEA.o.ext hx);clear hx)
   |((with_reducible refine(HE.o _ HE1.o.box).mono ?_);rintro e w2 ⟨x,b,z',rfl,hxl,hQ,hA⟩;have HXL:=qa hxl;have HE2:=qa (HE1.o.act hQ.box hQ.gr);have HAL:=qa hA;clear hxl hQ hA)
   |(refine aF rfl _ _ rfl w.heap.size rfl _ x rfl HE2.o.set ?_;intro w3 hB2 hg2;have HE3:=qa (HE2.o.store hB2 hg2);clear hB2 hg2))
  refine aX (s:=2) (b:=3) (ad:=⟨w.heap.size,0,none⟩) (x:=cD x) (y:=.bool b) rfl rfl rfl rfl HE3.o.set.load ?_;exact⟨x,b,z',rfl,HXL.o,HE3.o.qs,by rw[HR.o];exact HAL.o⟩
 |false=>
  rw[h92]at qcC;clear HES;rw[hg0]at HEA hne
  go_upto_region 3 with((with_reducible refine(qcC.o _ HEA.o.box).mono ?_);rintro e w1 ⟨rfl,hx⟩;have HE1:=qa (HEA.o.ext hx);clear hx)
  have c0:=HE1.o.box.c0;have c1:=HE1.o.box.c1;have hg1:=HE1.o.box.lt;by_cases h45:kB (bys s) 45 z=true
  ·have HR:Hid (R.2.e≠0):=qa (by
    obtain⟨-,-,hn⟩:=lZ h45;rw[hR];unfold eQ;rw[hn];exact cH _ (by decide))
   rw[h45]at qer;clear hR hnx h45 h92;refine bO (by kernel_rfl) (by kernel_rfl) ?_
   exact ZmR2
  have h45:kB (bys s) 45 z=false:=by simpa using h45
  rw[h45]at qer;by_cases hp:z.p<s.size
  ·rw[qt hp]at hnx
   have qdN:(bys s).getD z.p 0≠92:=fun e=>by unfold kB at h92;rw[hnx,e]at h92;simp at h92
   have qdO:(bys s).getD z.p 0≠45:=fun e=>by unfold kB at h45;rw[hnx,e]at h45;simp at h45
   have HR:Hid (R=((eZ ((bys s).getD z.p 0),false),bI z)):=qa (by
    rw[hR];unfold eQ;rw[hnx];simp only[qr qdN,qr qdO])
   have hpi:decide ((s.size:Int)<=(z.p:Int))=false:=qu (by omega);have hpn:¬s.size<=z.p:=by omega
   have HSC:=qa (HSL.o hp);generalize (bys s).getD z.p 0=c at*;have HO:Hid (∀W,Calls prog 119 #[.string (s.extract z.p (z.p+1))] W (cI (eZ c) W)):=qa (fun W=>by rw[HSC.o];exact HOF.o c W);clear hR hnx h45 h92 qdN qdO HSL HOF;refine bO (by kernel_rfl) (by kernel_rfl) ?_
   repeat(go_big_quiet_step ((go_at_call 87;(with_reducible exact bY (qer.o _ (HE1.o.box.up (aD _ _)))))))
   refine wpQuiet_nil ?_;intro w2 hw2;have HE2:=qa (HE1.o.ext hw2);have c12:=HE2.o.box.c1;have f12:=HE2.o.box.free 1;have HE3:=qa HE2.o.inc;clear hw2 c0 c1 hg1
   go_upto_region 7 with(fail)
   generalize w2.setCell ⟨g,1,none⟩ (.int .i64 ((z.p:Int)+1))=w3 at*;have c03:=HE3.o.box.c0;have c13:=HE3.o.box.c11;have hg3:=HE3.o.box.lt;clear c12 f12;refine iC (C:=fun w'=>∃x,w'=chg w3 (some w.heap.size) x) (.q 0 (.q 1 (.q 2 (.q 3 (.q 4 (.q 5 (.q 6 (.q 7 (.q 8 (.q 9 (.q 10 (.q 11 (.q 12 (.q 13 (.br 14 (.br 15 (.br 16 .done .no) .no) .no))))))))))))))) (by kernel_rfl) (by kernel_rfl) (bX (cJ _ _)) ?_
   (repeat((unfold bF;simp only[pk]);go_big_quiet_step (fail);refine wpQuiet_nil ?_))
   have HE4:=qa (HE3.o.below (aN w3 1));have HG4:Hid (w3.grownBy w3.drew (some w.heap.size)):=qa (cJ w3 _);rw[show w3.drewN 1=w3.drew from rfl]at HE4
   ((unfold bF;simp only[pk]);refine⟨?_,by unfold bF;trivial⟩;unfold aG)
   go_wp2_with((with_reducible refine(HO.o _).mono ?_);rintro e w5 ⟨rfl,hx⟩;have HE5:=qa (HE4.o.ext hx);have HG5:=qa (aC HG4.o (aE (aB hx) _));clear hx)
   refine⟨bX HG5.o,?_⟩;unfold aG
   ((unfold bF;simp only[pk]);refine⟨?_,by unfold bF;trivial⟩;unfold aG)
   go_wp2_with(refine aF rfl _ _ rfl w.heap.size rfl _ _ rfl HE5.o.set ?_;intro w6 hB2 hg2;have HE6:=qa (HE5.o.store hB2 hg2);have HG6:=qa (aC HG5.o hg2);clear hB2 hg2)
   refine⟨bX HG6.o,?_⟩;unfold aG
   ((unfold bF;simp only[pk]);refine⟨?_,by unfold bF;trivial⟩;unfold aG)
   go_wp2;refine⟨bX HG6.o,?_⟩;unfold aG;unfold bF;intro hz8 hz9;clear hz9;go_wp2;refine aX (s:=2) (b:=3) (ad:=⟨w.heap.size,0,none⟩) (x:=cD (eZ c)) (y:=.bool false) rfl rfl rfl rfl HE6.o.set.load ?_;exact⟨_,false,_,rfl,mN _,HE6.o.qs,Al.same HR.o (by show z.p<=z.p+1;omega) (by show z.p+1<=s.size;omega)⟩
  rw[qr hp]at hnx;have HR:Hid (R.2.e≠0):=qa (by rw[hR];unfold eQ;rw[hnx];exact cH _ (by decide));have hpi:decide ((s.size:Int)<=(z.p:Int))=true:=qw (by omega);have hpn:s.size<=z.p:=by omega
  clear hR hnx h45 h92 HSL;refine bO (by kernel_rfl) (by kernel_rfl) ?_
  exact ZmR2
theorem qba(x:Nat)(w:World):Calls prog 116 #[cD x] w (lM w [setN x]):=by
 obtain⟨X,hX⟩:∃X,X=(wsV x).toArray:=⟨_,rfl⟩;have HB0:Hid (eX (w.alloc (.cells X 63)) w.heap.size x):=qa (by rw[hX];exact gF w x);obtain⟨C,hC⟩:∃C:Array Value,C=#[.int .i64 1,.int .i64 0,.int .u64 (wdR x 0:Nat),.int .u64 (wdR x 1:Nat),.int .u64 (wdR x 2:Nat),.int .u64 (wdR x 3:Nat),.int .i64 0,.int .i64 0]:=⟨_,rfl⟩
 have HO:Hid (aO ((w.alloc (.cells X 63)).alloc (.cells C 65)) w.heap.size (.slice (some ⟨w.heap.size+1,0,none⟩) 1 1) [setN x]):=qa (by
  have:=oZ 8 (w.alloc (.cells X 63)) w.heap.size C 65 [ndC (setN x)] (by rw[hC];rfl) (by intro y hy;simp at hy;subst hy;rfl) (by simp) (by simp);rw[show(w.alloc (.cells X 63)).heap.size=w.heap.size+1 by simp]at this;exact this)
 have HBL:Hid (Below w.heap.size w ((w.alloc (.cells X 63)).alloc (.cells C 65))):=qa aJ;rw[hC]at HO HBL;rw[show cD x=.agg X by rw[hX];rfl];clear hX hC;go_enter func116,ntmps116
 go_wp2_with(refine Q5 rfl _ rfl w.heap.size rfl x HB0.o ?_)
 go_ret;exact⟨_,rfl,HO.o,HBL.o⟩
theorem q9q{w:World}{x:Nd}{kv:Value}{vs:List Value}{ks:List (List Nd)}(hk:Sl w kv vs)(hl:vs.length=ks.length)(hn:∀i,i<ks.length->cB w (vs.getD i undef) (ks.getD i []))(hb:ks.flatten.length<=500000000):
  Calls prog 89 #[.agg (ndA x),kv] w (lM w (dM x ks)):=by
 obtain⟨oa,cap,b,off,rfl,hd,hc⟩:=hk;rw[hl]at hd hc⊢;have hix:=fun(W:World) (i:Nat) (hi:i<ks.length)=>aU (P:=prog) 26 31 underlying26 (by kernel_rfl) hd W .i64 i (by omega) (by omega);simp only[qA]at hix;have HIX:=qa hix;have hm:=hd.len;have hblk:=hd.hblk;have HC:=qa hc;have HN:=qa hn;obtain⟨X,hX⟩:∃X:Array Value,X=ndA x:=⟨_,rfl⟩;have HB0:=qa (nE w x X hX);have c1:=HB0.o.c1;have f1:=HB0.o.free 1;have hl0:=HB0.o.lt;obtain⟨k0,n0,a0,b0,c0,d0,l0,h0⟩:=x;have HN1:Hid (nM (w.alloc (.cells (X.setIfInBounds 1 (.int .i64 (ks.length:Nat))) 65)) w.heap.size ⟨k0,(ks.length:Nat),a0,b0,c0,d0,l0,h0⟩):=qa (nE w _ _ (by rw[hX];rfl));have HR:Hid (dM ⟨k0,n0,a0,b0,c0,d0,l0,h0⟩ ks=⟨k0,(ks.length:Nat),a0,b0,c0,d0,l0,h0⟩::ks.flatten):=qa rfl;rw[HR.o];obtain⟨K,hK⟩:∃K,K=ks.length:=⟨_,rfl⟩;have HK:=qa hK;rw[<-hK]at hd HC HIX HN1 HN hm hblk⊢;obtain⟨w1,hw1⟩:∃w1,w1=w.alloc (.cells (X.setIfInBounds 1 (.int .i64 (K:Nat))) 65):=⟨_,rfl⟩;have hs1:w1.heap.size=w.heap.size+1:=by rw[hw1];simp
 have hb1:Below w.heap.size w w1:=by rw[hw1];exact aA w _
 obtain⟨x1,hx1⟩:∃x1:Nd,x1=⟨k0,(K:Nat),a0,b0,c0,d0,l0,h0⟩:=⟨_,rfl⟩;obtain⟨C,hC⟩:∃C:Array Value,C=#[.int .i64 k0,.int .i64 (K:Nat),.int .u64 a0,.int .u64 b0,.int .u64 c0,.int .u64 d0,.int .i64 l0,.int .i64 h0]:=⟨_,rfl⟩;have hCx:C=ndA x1:=by rw[hC,hx1];rfl
 have HB2:Hid (Below w.heap.size w (w1.alloc (.cells C 65))):=qa (hb1.trans ((aA w1 _).mono (by omega)))
 have HO2:Hid (aO (w1.alloc (.cells C 65)) w.heap.size (.slice (some ⟨w.heap.size+1,0,none⟩) 1 1) [x1]):=qa (by
  have:=oZ 8 w1 w.heap.size C 65 [ndC x1] (by rw[hCx];simp[q0G]) (by intro y hy;simp at hy;subst hy;rfl) (by simp) (by omega);rw[hs1]at this;exact this)
 rw[hw1,hC]at HB2 HO2;rw[<-hX,<-hx1];clear hix hd hc hn hl hX hw1 hs1 hb1 hC hCx;have HX1:=qa hx1;clear hx1 hK;go_enter func89,ntmps89
 go_wp2_with(refine B9 rfl _ rfl w.heap.size rfl k0 (K:Nat) a0 b0 c0 d0 l0 h0 HN1.o ?_)
 generalize (w.alloc (.cells (X.setIfInBounds 1 (.int .i64 (K:Nat))) 65)).alloc (.cells #[.int .i64 k0,.int .i64 (K:Nat),.int .u64 a0,.int .u64 b0,.int .u64 c0,.int .u64 d0,.int .i64 l0,.int .i64 h0] 65)=w2 at*;clear HN1 c1 f1 hl0 HB0 HR
 go_loopg [5,6] (K+1) (fun gk lv iv wr=>∃i:Nat,i<=K/\iv=.int .i64 i/\aO wr w.heap.size lv (x1::(ks.take i).flatten)/\Below w.heap.size w wr/\gk=K+1-i)
 case atStart=>exact⟨0,qd _,rfl,by simpa using HO2.o,HB2.o,rfl⟩
 case round=>
  clear HO2 HB2;obtain⟨i,hi,rfl,hO,hB,hgk⟩:=hrel;subst hgk;have HO:=qa hO;have HB:=qa hB;clear hO hB;by_cases hlt:i<K
  ·have qbi:=fun W=>HIX.o W i hlt
   have hbw:=hblk (by omega);have hcell:=(HB.o.cell (p:=⟨b,off+i,none⟩) hbw).trans (HC.o i hlt);have qjd:b<wr.heap.size:=by have:=HB.o.size;omega
   have HKI:=qa (cB.up (HN.o i hlt) ((HB.o)))
   have HLE:Hid (((x1::(ks.take i).flatten).map ndC).length+((ks.getD i []).map ndC).length<=1000000000):=qa (by
    have h1:((ks.take (i+1)).flatten).length<=ks.flatten.length:=by
     have:=j5 (i+1) ks;rw[<-this,ju,qi];rw[this];omega
    rw[aY ks i [] (by rw[<-HK.o];exact hlt),ju,qi]at h1;simp only[jF]at h1;simp only[qy,qx];omega)
   have HTS:Hid (x1::(ks.take (i+1)).flatten=(x1::(ks.take i).flatten)++ks.getD i []):=qa (by
    rw[aY ks i [] (by rw[<-HK.o];exact hlt),ju];simp)
   generalize vs.getD i undef=kv at*;generalize ks.getD i []=ki at*;generalize x1::(ks.take i).flatten=cur at*;clear HN HC
   go_wp2_with(at_builtin;refine gV 8 rfl (.tmp 18) (.tmp 22) 31 rfl w.heap.size 65 (.agg (ndA zN)) 64 underlying31 (by kernel_rfl) rfl (by decide) (by decide) u5 _ rfl HO.o kv _ rfl HKI.o (q3z ki) (q3A ki) HLE.o HB.o.size ?_;intro v' w5 hown1 hg1 hk1;have HO5:=qa hown1;have HB5:=qa (HB.o.grown hg1 HB.o.size (fun k hk=>(HO.o.lt k hk).1));clear hown1 hg1 hk1)
   go_roundg (K-i)
   case measure=>omega
   case rel=>exact⟨i+1,by omega,by go_num,by rw[HTS.o];unfold aO;rw[qD];exact HO5.o,HB5.o,by omega⟩
  obtain rfl:i=K:=by omega
  rw[HK.o,qX]at HO;go_wp2;go_ret;exact⟨_,rfl,HO.o,HB.o⟩
def qaj(B:Nat)(l:List Nd)(w:World)(e:Ending)(w':World):Prop:=∃v,e=.returned v/\aO w' B v l/\Below w.heap.size w w'
theorem q9r{w:World}{B k:Nat}{kv:Value}{vs:List Value}{ks:List (List Nd)}(h:Own w B 31 kv vs)(hr:d5 w B vs ks)(hB:B<=w.heap.size)(hne:ks≠[])(hs:iJ ks<=4000000):
  Calls prog 68 #[.int .i64 k,kv] w (qaj B (m5 k ks) w):=by
 have qbr:=hr.1
 match ks,hne with
 |[l1],_=>
  obtain⟨v1,hvs⟩:∃v1,vs=[v1]:=List.length_eq_one_iff.1 qbr;subst hvs;obtain⟨oa,cap,b,hv,hd,hob,hcl,-,-⟩:=h.cases;obtain⟨off,qc7⟩:∃off,off=0:=⟨_,rfl⟩;rw[<-qc7]at hd;have hv0:kv=.slice oa 1 cap:=hv;subst hv0;have hix:=fun W=>aU (P:=prog) 26 31 underlying26 (by kernel_rfl) hd W .i64 0 (by omega) (by simp);have HN1:Hid (aO w B v1 l1):=qa (hr.2 0 (by simp));simp only[Int.toNat_zero,jC,qB]at hix;have qbE:w.cell? ⟨b,off,none⟩=some v1:=by rw[qc7];exact hcl 0 (by simp)
  clear hv qbr hd hcl hob qc7 h hr;go_enter func68,ntmps68;go_wp2;go_ret;exact⟨v1,rfl,HN1.o,qk _ _⟩
 |l1::l2::ls2,_=>
  have HJ:=qa (q9q (x:=kN k) h.sl hr.1 (hr.nodes (qk _ _)) (by unfold iJ at hs;omega));obtain⟨oa,cap,b,off,hv,-,-⟩:=h.sl;rw[qbr]at hv;have hv0:kv=.slice oa (ls2.length+1+1) cap:=hv;subst hv0;have HR3:Hid (m5 k (l1::l2::ls2)=dM (kN k) (l1::l2::ls2)):=qa rfl;have hn1:¬((ls2.length:Int)+1+1=1):=by omega
  have hn2:((ls2.length:Int)+1+1==1)=false:=by simpa using hn1
  rw[HR3.o];have HA:Hid (ndA (kN k)=#[.int .i64 k,.int .i64 0,.int .u64 0,.int .u64 0,.int .u64 0,.int .u64 0,.int .i64 0,.int .i64 0]):=qa rfl;rw[HA.o]at HJ;clear qbr hv h hr HR3 HA hs;generalize l1::l2::ls2=lss at*;generalize ls2.length=m at*;go_enter func68,ntmps68
  go_wp2_with((with_reducible refine(HJ.o).mono ?_);rintro e w2 ⟨v2,rfl,ho,hb⟩;have HO2:=qa (ho.mono hB);have HB2:=qa hb;clear ho hb)
  go_ret;exact⟨v2,rfl,HO2.o,HB2.o⟩
theorem q1a(s:cX)(frm:Nat):∀(f a:Nat) (z:PS),z.e≠0->nP s frm f a z=(a,z)
 |0,_,_,_=>rfl
 |f+1,a,z,h=>by unfold nP;rw[qt h]
theorem q7Z{s:cX}{frm:Nat}{z:PS}(h:(nP s frm (s.length+1) 0 (b7 s 94 z).2).2.e≠0):(B1 s frm z).2.e≠0:=by
 unfold B1;simp only;split
 ·split
  ·rw[uK h];exact h
  exact h
 split
 ·rw[uK h];exact h
 exact h
theorem q5S{s:cX}{frm f a:Nat}{z:PS}(h:kB s 93 z=true):nP s frm (f+1) a z=(a,bI z):=by
 obtain⟨h0,-,-⟩:=lZ h;unfold nP;rw[qr (fun e=>e h0),iG,h];rfl
theorem q4i{s:cX}{frm f a:Nat}{z:PS}(h0:z.e=0)(h:s.length<=z.p):(nP s frm (f+1) a z).2.e≠0:=by
 have hi:kB s 93 z=false:=by
  cases hh:kB s 93 z with
  |false=>rfl
  |true=>have:=(lZ hh).2.1;omega
 unfold nP;rw[qr (fun e=>e h0),iG,hi];simp only[qP,jp];rw[qt h];exact cH _ (by decide)
theorem q4j{s:cX}{frm f a:Nat}{z:PS}(h0:z.e=0)(hi:kB s 93 z=false)(h:z.p<s.length):nP s frm (f+1) a z=nP s frm f (a|||(mQ s frm z).1) (mQ s frm z).2:=by
 rw[nP,qr (fun e=>e h0),iG,hi];simp only[qP,jp];rw[qr (by omega)]
theorem q4k{s:cX}{frm:Nat}{z:PS}(h:(eQ s z).2.e≠0):(mQ s frm z).2.e≠0:=by
 unfold mQ;simp only[nC h];exact h
theorem q80{s:cX}{frm:Nat}{z:PS}(h:kB s 45 (eQ s z).2=false):mQ s frm z=((eQ s z).1.1,(eQ s z).2):=by
 unfold mQ;simp only[iG,h];rfl
theorem q5T{s:cX}{frm:Nat}{z:PS}(h:kB s 45 (eQ s z).2=true):mQ s frm z=(match nxR s (bI (eQ s z).2)with
  |none=>((eQ s z).1.1,bB 16 frm (bI (eQ s z).2))
  |some c=>
   if c=93 then((eQ s z).1.1,bB 15 (bI (eQ s z).2).p (bI (eQ s z).2))
   else
    if(eQ s (bI (eQ s z).2)).2.e≠0 then((eQ s z).1.1,(eQ s (bI (eQ s z).2)).2)
    else if(eQ s z).1.2||(eQ s (bI (eQ s z).2)).1.2||decide (Nat.log2 (eQ s (bI (eQ s z).2)).1.1<Nat.log2 (eQ s z).1.1)then((eQ s z).1.1,bB 18 (eQ s z).2.p (eQ s (bI (eQ s z).2)).2)
    else(gS (Nat.log2 (eQ s z).1.1) (Nat.log2 (eQ s (bI (eQ s z).2)).1.1),(eQ s (bI (eQ s z).2)).2)):=by
 unfold mQ;simp only[iG,h,jG];rfl
theorem q81{s:cX}{z:PS}(h:(eQ s z).2.e=0):z.p<(eQ s z).2.p:=by
 unfold eQ at h⊢;cases hn:nxR s z with
 |none=>rw[hn]at h;exact absurd h (cH z (by decide))
 |some c=>
  rw[hn]at h;simp only at h⊢;split
  ·exact(uM hn).2
  rename_i h1;rw[qr h1]at h;split
  ·rename_i h2
   rw[qt h2]at h;exact absurd h (cH z (by decide))
  exact qR _
theorem q82(P:Prop) [Decidable P]{e a:Nat}{y:PS}(h:y.e≠0):(if P then bB e a y else y)=y:=by
 split
 ·exact uK h
 rfl
theorem q1b(P:Prop) [Decidable P]{e a:Nat}{y:PS}:(if P then bB e a y else y).p=y.p:=by
 split
 ·exact eC y
 rfl
structure QC(w0 w:World)(g:Nat)(s:ByteArray)(z:PS)(b q a:Nat):Prop where
 box:dX w g s z
 res:eX w b 0
 set:eX w q a
 gr:w0.grownBy w (some g)
 gl:g<w0.heap.size
 lo:w0.heap.size<=b
 bq:b<q
section
variable {w0 w w' : World} {g : Nat} {s : ByteArray} {z : PS} {b q a : Nat}
theorem QC.below(h:QC w0 w g s z b q a)(hb:Below w.heap.size w w'):QC w0 w' g s z b q a:=
 ⟨h.box.up hb,h.res.up hb,h.set.up hb,aC h.gr (aE hb _),h.gl,h.lo,h.bq⟩
theorem QC.ext(h:QC w0 w g s z b q a)(hx:∃y,w'=ext w y):QC w0 w' g s z b q a:=h.below (aB hx)
theorem QC.act{z':PS}(h:QC w0 w g s z b q a)(hB:dX w' g s z')(hg:w.grownBy w' (some g)):QC w0 w' g s z' b q a:=
 ⟨hB,h.res.keepP hg (by have:=h.lo;have:=h.gl;omega),h.set.keepP hg (by have:=h.lo;have:=h.gl;have:=h.bq;omega),aC h.gr hg,h.gl,h.lo,h.bq⟩
theorem QC.store{y:Nat}(h:QC w0 w g s z b q a)(hB:eX w' q y)(hg:w.grownBy w' (some q)):QC w0 w' g s z b q y:=
 ⟨h.box.keepP hg (by have:=h.lo;have:=h.gl;have:=h.bq;omega),h.res.keepP hg (by have:=h.bq;omega),hB,fV h.gr hg (fun k e=>by injection e with e;have:=h.lo;have:=h.bq;omega),h.gl,h.lo,h.bq⟩
theorem QC.far{k:Nat}(h:QC w0 w g s z b q a)(hg:w.grownBy w' (some k))(hk:w0.heap.size<=k)(hb:k≠b)(hq:k≠q):QC w0 w' g s z b q a:=
 ⟨h.box.keepP hg (by have:=h.gl;omega),h.res.keepP hg hb,h.set.keepP hg hq,fV h.gr hg (fun j e=>by injection e with e;omega),h.gl,h.lo,h.bq⟩
theorem QC.qs(h:QC w0 w g s z b q a):Qs w0 w g s z:=⟨h.box,h.gr,h.gl⟩
theorem QC.fin{y:Nat}(h:QC w0 w g s z b q a)(_:eX w' b y)(hg:w.grownBy w' (some b)):Qs w0 w' g s z:=
 ⟨h.box.keepP hg (by have:=h.lo;have:=h.gl;omega),fV h.gr hg (fun k e=>by injection e with e;have:=h.lo;omega),h.gl⟩
end
def qaH(r:Nat×PS)(g:Nat)(s:ByteArray)(z:PS)(w:World)(e:Ending)(w':World):Prop:=
 ∃x z',e=.returned (cD x)/\x<2^256/\Qs w w' g s z'/\Al s.size z r x z'
theorem qbb{w:World}{g frm:Nat}{s:ByteArray}{z:PS}(h:dX w g s z)(hs:s.size<=1000000)(hz0:z.e=0)(hzp:z.p<=s.size):
  Calls prog 117 #[.pointer (some ⟨g,0,none⟩),.int .i64 frm] w (qaH (B1 (bys s) frm z) g s z w):=by
 have hz:=gZ;obtain⟨Z,hZ⟩:∃Z,Z=z4:=⟨_,rfl⟩;rw[<-hZ]at hz;have HNW:Hid (∀W:World,eX (W.alloc (.cells Z 63)) W.heap.size 0):=qa (fun W=>cL W Z hZ);have HCM:Hid (∀x,x<2^256->∀W,(binOp .eql 63 (cD x) (.agg Z)).run prog W=.ok (.bool (decide (x=0))) W):=qa (fun x hx W=>q0M hx Z hZ W);have hgd:=Q4;have HE0:Hid (QEs w (w.alloc (.cells Z 63)) g s z w.heap.size 0):=qa ⟨h.up (aA _ _),cL w Z hZ,aE (aA _ _) _,qb _,h.lt⟩;have qfQ:Hid (∀W,dX W g s z->Calls prog 67 #[.pointer (some ⟨g,0,none⟩),.int .u8 94] W (pM (.bool (b7 (bys s) 94 z).1) g s (b7 (bys s) 94 z).2 W)):=qa (fun W h=>uW h hs 94);have qhz:Hid (∀W y,dX W g s y->Calls prog 67 #[.pointer (some ⟨g,0,none⟩),.int .u8 93] W (pM (.bool (b7 (bys s) 93 y).1) g s (b7 (bys s) 93 y).2 W)):=qa (fun W y h=>uW h hs 93);have qjG:Hid (∀W y,dX W g s y->Calls prog 67 #[.pointer (some ⟨g,0,none⟩),.int .u8 45] W (pM (.bool (b7 (bys s) 45 y).1) g s (b7 (bys s) 45 y).2 W)):=qa (fun W y h=>uW h hs 45);have qhT:Hid (∀W y,dX W g s y->Calls prog 87 #[.pointer (some ⟨g,0,none⟩),.int .u8 93] W fun e w'=>e=.returned (.bool (kB (bys s) 93 y))/\∃x,w'=ext W x):=qa (fun W y h=>isQ h 93);have HF:Hid (∀W (e a:Nat) y,dX W g s y->Calls prog 43 #[.pointer (some ⟨g,0,none⟩),.int .i64 e,.int .i64 a] W (pM (.tuple #[]) g s (bB e a y) W)):=qa (fun W e a y h=>K2 h e a);have HCH:Hid (∀W y,dX W g s y->y.e=0->y.p<=s.size->Calls prog 133 #[.pointer (some ⟨g,0,none⟩)] W (q9p (eQ (bys s) y) g s y W)):=qa (fun W y h h0 hp=>qb9 h hs h0 hp);have HOR:Hid (∀W (x y:Nat),x<2^256->y<2^256->Calls prog 136 #[cD x,cD y] W (cI (x|||y) W)):=qa (fun W x y hx hy=>orQ hx hy W);have HNT:Hid (∀W (x:Nat),x<2^256->Calls prog 118 #[cD x] W (cI (mP x) W)):=qa (fun W x hx=>qaE hx W);have HBY:Hid (∀W (c:UInt8),Calls prog 134 #[cD (eZ c)] W fun e w'=>e=.returned (.string ⟨#[c]⟩)/\∃y,w'=ext W y):=qa (fun W c=>by have:=q4e (eZ c) W;rwa [q5O]at this);have HRG:Hid (∀W (a b:UInt8),Calls prog 135 #[.int .u8 (a.toNat:Nat),.int .u8 (b.toNat:Nat)] W (cI (gS a.toNat b.toNat) W)):=qa (fun W a b=>T4 a b W);have HL0:Hid ((0:Nat)<2^256):=qa q7h;obtain⟨R,hR⟩:∃R,R=B1 (bys s) frm z:=⟨_,rfl⟩;have hRB:=@q7Z (bys s) frm z;rw[<-hR]at hRB⊢;have hR2:R=((if(b7 (bys s) 94 z).1 then mP (nP (bys s) frm ((bys s).length+1) 0 (b7 (bys s) 94 z).2).1 else(nP (bys s) frm ((bys s).length+1) 0 (b7 (bys s) 94 z).2).1),if(if(b7 (bys s) 94 z).1 then mP (nP (bys s) frm ((bys s).length+1) 0 (b7 (bys s) 94 z).2).1 else(nP (bys s) frm ((bys s).length+1) 0 (b7 (bys s) 94 z).2).1)=0 then bB 17 frm (nP (bys s) frm ((bys s).length+1) 0 (b7 (bys s) 94 z).2).2 else(nP (bys s) frm ((bys s).length+1) 0 (b7 (bys s) 94 z).2).2):=by rw[hR];rfl
 have hst:=eR (bys s) 94 z;have hte:(b7 (bys s) 94 z).2.e=0:=by rw[iG];split<;>exact hz0
 have htp:=hst.len (by rw[aP];exact hzp);have htl:=hst.le;rw[aP]at htp hR2;generalize b7 (bys s) 94 z=T at*;obtain⟨bn,zt⟩:=T;simp only at hte htp htl hR2 hRB qfQ;obtain⟨L,hL⟩:∃L,L=nP (bys s) frm (s.size+1) 0 zt:=⟨_,rfl⟩;rw[aP,<-hL]at hRB;rw[<-hL]at hR2;have HRB:=qa hRB;have HR2:=qa hR2;have HL:=qa hL.symm;clear hR hR2 hRB hst hL hZ h;go_enter func117,ntmps117
 go_wp2_with((with_reducible refine(qfQ.o _ HE0.o.box).mono ?_);rintro e w1 ⟨rfl,hB,hg⟩;have HE1:=qa (HE0.o.act hB hg);have HN1:=qa (HNW.o w1);clear hB hg)
 have hba:=aA w1 (.cells Z 63);have HC0:Hid (QC w (w1.alloc (.cells Z 63)) g s zt w.heap.size w1.heap.size 0):=qa ⟨HE1.o.box.up hba,HE1.o.set.up hba,HN1.o,aC HE1.o.gr (aE hba _),HE1.o.gl,qb _,HE1.o.set.lt⟩;generalize w1.alloc (.cells Z 63)=w2 at*;obtain⟨q,hq⟩:∃q,q=w1.heap.size:=⟨_,rfl⟩;obtain⟨b,hb⟩:∃b,b=w.heap.size:=⟨_,rfl⟩;rw[<-hq,<-hb]at HC0⊢;have HBW:=qa hb;clear hq hb hba HE1 HN1 HE0 qfQ
 go_loopg [] (s.size+2) (fun gk wr=>∃(f a:Nat) (y:PS),gk=f+1/\a<2^256/\QC w wr g s y b q a/\y.p<=s.size/\zt.p<=y.p/\((y.e=0/\Hid (nP (bys s) frm f a y=L)/\s.size+1<=f+y.p)\/(y.e≠0/\L.2.e≠0)))
 case atStart=>exact⟨s.size+1,0,zt,rfl,HL0.o,HC0.o,htp,qb _,.inl ⟨hte,HL,by omega⟩⟩
 case round=>
  clear HC0 HL;obtain⟨f,a,y,hgk,ha,hC,hyp,hyl,hy⟩:=hrel;have HC:=qa hC;have HA:=qa ha;clear hC ha;have c2:=HC.o.box.c2;rcases hy with⟨h0,HCL,hf⟩|⟨h0,hLb⟩;rotate_left 1
  ·have he':((y.e:Int)==0)=false:=by simpa using h0
   have HRe:=qa (HRB.o hLb)
   have HAL:Hid (Al s.size z R (if bn then mP a else a) (if(if bn then mP a else a)=0 then bB 17 frm (b7 (bys s) 93 y).2 else(b7 (bys s) 93 y).2)):=qa (by
    rw[nC h0];rw[q82 _ h0];exact Al.fault _ HRe.o h0 (by omega) hyp)
   clear hLb HRe;have HTY:=qa (fun W=>qhz.o W y);generalize b7 (bys s) 93 y=T2 at*;obtain⟨b2,y2⟩:=T2;simp only at HTY HAL;obtain⟨a2,ha2⟩:∃a2,a2=if bn then mP a else a:=⟨_,rfl⟩
   rw[<-ha2]at HAL;have qd6:a2<2^256:=by rw[ha2];split;exact oJ a;exact HA.o
   have qew:=HCM.o a2 qd6;have HA2:=qa qd6;clear qd6;by_cases hz2:a2=0
   ·rw[qw hz2]at qew
    rw[qt hz2]at HAL;have HFF:Hid (∀W,dX W g s y2->Calls prog 43 #[.pointer (some ⟨g,0,none⟩),.int .i64 17,.int .i64 frm] W (pM (.tuple #[]) g s (bB 17 frm y2) W)):=qa (fun W h=>HF.o W 17 frm y2 h);clear hz2;cases bn with
    |true=>
     have HNA:=qa (fun W=>HNT.o W a HA.o);rw[qt rfl]at ha2;rw[<-ha2]at HNA;clear ha2
     go_wp2_with(first
      |((with_reducible refine(HTY.o _ HC.o.box).mono ?_);rintro e w3 ⟨rfl,hB,hg⟩;have HC3:=qa (HC.o.act hB hg);clear hB hg)
      |(refine aQ rfl _ rfl q rfl _ HC3.o.set ?_)
      |((with_reducible refine(HNA.o _).mono ?_);rintro e w4 ⟨rfl,hx⟩;have HC4:=qa (HC3.o.ext hx);clear hx)
      |(refine aF rfl _ _ rfl q rfl _ _ rfl HC4.o.set ?_;intro w5 hB2 hg2;have HC5:=qa (HC4.o.store hB2 hg2);clear hB2 hg2)
      |(refine aQ rfl _ rfl q rfl _ HC5.o.set ?_)
      |((with_reducible refine(HFF.o _ HC5.o.box).mono ?_);rintro e w6 ⟨rfl,hB,hg⟩;have HC6:=qa (HC5.o.act hB hg);clear hB hg)
      |(refine aQ rfl _ rfl q rfl _ HC6.o.set ?_)
      |(refine aF rfl _ _ rfl b rfl _ _ rfl HC6.o.res ?_;intro w7 hB2 hg2;have HC7:=qa hB2;have HQ7:=qa (HC6.o.fin hB2 hg2);clear hB2 hg2))
     exact ZmR1
    |false=>
     rw[qr (by decide)]at ha2;rw[<-ha2]at HC;clear ha2
     go_wp2_with(first
      |((with_reducible refine(HTY.o _ HC.o.box).mono ?_);rintro e w3 ⟨rfl,hB,hg⟩;have HC5:=qa (HC.o.act hB hg);clear hB hg)
      |(refine aQ rfl _ rfl q rfl _ HC5.o.set ?_)
      |((with_reducible refine(HFF.o _ HC5.o.box).mono ?_);rintro e w6 ⟨rfl,hB,hg⟩;have HC6:=qa (HC5.o.act hB hg);clear hB hg)
      |(refine aQ rfl _ rfl q rfl _ HC6.o.set ?_)
      |(refine aF rfl _ _ rfl b rfl _ _ rfl HC6.o.res ?_;intro w7 hB2 hg2;have HC7:=qa hB2;have HQ7:=qa (HC6.o.fin hB2 hg2);clear hB2 hg2))
     exact ZmR1
   rw[qu hz2]at qew;rw[qr hz2]at HAL;clear hz2;cases bn with
   |true=>
    have HNA:=qa (fun W=>HNT.o W a HA.o);rw[qt rfl]at ha2;rw[<-ha2]at HNA;clear ha2
    go_wp2_with(first
     |((with_reducible refine(HTY.o _ HC.o.box).mono ?_);rintro e w3 ⟨rfl,hB,hg⟩;have HC3:=qa (HC.o.act hB hg);clear hB hg)
     |(refine aQ rfl _ rfl q rfl _ HC3.o.set ?_)
     |((with_reducible refine(HNA.o _).mono ?_);rintro e w4 ⟨rfl,hx⟩;have HC4:=qa (HC3.o.ext hx);clear hx)
     |(refine aF rfl _ _ rfl q rfl _ _ rfl HC4.o.set ?_;intro w5 hB2 hg2;have HC5:=qa (HC4.o.store hB2 hg2);clear hB2 hg2)
     |(refine aQ rfl _ rfl q rfl _ HC5.o.set ?_)
     |(refine aF rfl _ _ rfl b rfl _ _ rfl HC5.o.res ?_;intro w7 hB2 hg2;have HC7:=qa hB2;have HQ7:=qa (HC5.o.fin hB2 hg2);clear hB2 hg2))
    exact ZmR1
   |false=>
    rw[qr (by decide)]at ha2;rw[<-ha2]at HC;clear ha2
    go_wp2_with(first
     |((with_reducible refine(HTY.o _ HC.o.box).mono ?_);rintro e w3 ⟨rfl,hB,hg⟩;have HC5:=qa (HC.o.act hB hg);clear hB hg)
     |(refine aQ rfl _ rfl q rfl _ HC5.o.set ?_)
     |(refine aF rfl _ _ rfl b rfl _ _ rfl HC5.o.res ?_;intro w7 hB2 hg2;have HC7:=qa hB2;have HQ7:=qa (HC5.o.fin hB2 hg2);clear hB2 hg2))
    exact ZmR1
  have he':((y.e:Int)==0)=true:=by rw[h0];rfl
  obtain⟨f0,rfl⟩:∃f0,f=f0+1:=⟨f-1,by omega⟩;have HIY:=qa (fun W=>qhT.o W y);cases hi:kB (bys s) 93 y with
  |true=>
   rw[hi]at HIY;have hL2:=HCL.o;rw[q5S hi]at hL2;have hy1:=(lZ hi).2.1;rw[aP]at hy1
   have HAL:Hid (Al s.size z R (if bn then mP a else a) (if(if bn then mP a else a)=0 then bB 17 frm (b7 (bys s) 93 y).2 else(b7 (bys s) 93 y).2)):=qa (by
    rw[iG,hi,qt rfl];exact Al.same (by rw[HR2.o,<-hL2]) (by rw[q1b];show z.p<=y.p+1;omega) (by rw[q1b];exact hy1))
   clear hL2 hi HCL hy1;have HTY:=qa (fun W=>qhz.o W y);generalize b7 (bys s) 93 y=T2 at*;obtain⟨b2,y2⟩:=T2;simp only at HTY HAL;obtain⟨a2,ha2⟩:∃a2,a2=if bn then mP a else a:=⟨_,rfl⟩
   rw[<-ha2]at HAL;have qd6:a2<2^256:=by rw[ha2];split;exact oJ a;exact HA.o
   have qew:=HCM.o a2 qd6;have HA2:=qa qd6;clear qd6;by_cases hz2:a2=0
   ·rw[qw hz2]at qew
    rw[qt hz2]at HAL;have HFF:Hid (∀W,dX W g s y2->Calls prog 43 #[.pointer (some ⟨g,0,none⟩),.int .i64 17,.int .i64 frm] W (pM (.tuple #[]) g s (bB 17 frm y2) W)):=qa (fun W h=>HF.o W 17 frm y2 h);clear hz2;cases bn with
    |true=>
     have HNA:=qa (fun W=>HNT.o W a HA.o);rw[qt rfl]at ha2;rw[<-ha2]at HNA;clear ha2
     go_wp2_with(first
      |((with_reducible refine(HIY.o _ HC.o.box).mono ?_);rintro e w2 ⟨rfl,hx⟩;have HC1:=qa (HC.o.ext hx);clear hx)
      |((with_reducible refine(HTY.o _ HC1.o.box).mono ?_);rintro e w3 ⟨rfl,hB,hg⟩;have HC3:=qa (HC1.o.act hB hg);clear hB hg)
      |(refine aQ rfl _ rfl q rfl _ HC3.o.set ?_)
      |((with_reducible refine(HNA.o _).mono ?_);rintro e w4 ⟨rfl,hx⟩;have HC4:=qa (HC3.o.ext hx);clear hx)
      |(refine aF rfl _ _ rfl q rfl _ _ rfl HC4.o.set ?_;intro w5 hB2 hg2;have HC5:=qa (HC4.o.store hB2 hg2);clear hB2 hg2)
      |(refine aQ rfl _ rfl q rfl _ HC5.o.set ?_)
      |((with_reducible refine(HFF.o _ HC5.o.box).mono ?_);rintro e w6 ⟨rfl,hB,hg⟩;have HC6:=qa (HC5.o.act hB hg);clear hB hg)
      |(refine aQ rfl _ rfl q rfl _ HC6.o.set ?_)
      |(refine aF rfl _ _ rfl b rfl _ _ rfl HC6.o.res ?_;intro w7 hB2 hg2;have HC7:=qa hB2;have HQ7:=qa (HC6.o.fin hB2 hg2);clear hB2 hg2))
     exact ZmR1
    |false=>
     rw[qr (by decide)]at ha2;rw[<-ha2]at HC;clear ha2
     go_wp2_with(first
      |((with_reducible refine(HIY.o _ HC.o.box).mono ?_);rintro e w2 ⟨rfl,hx⟩;have HC1:=qa (HC.o.ext hx);clear hx)
      |((with_reducible refine(HTY.o _ HC1.o.box).mono ?_);rintro e w3 ⟨rfl,hB,hg⟩;have HC5:=qa (HC1.o.act hB hg);clear hB hg)
      |(refine aQ rfl _ rfl q rfl _ HC5.o.set ?_)
      |((with_reducible refine(HFF.o _ HC5.o.box).mono ?_);rintro e w6 ⟨rfl,hB,hg⟩;have HC6:=qa (HC5.o.act hB hg);clear hB hg)
      |(refine aQ rfl _ rfl q rfl _ HC6.o.set ?_)
      |(refine aF rfl _ _ rfl b rfl _ _ rfl HC6.o.res ?_;intro w7 hB2 hg2;have HC7:=qa hB2;have HQ7:=qa (HC6.o.fin hB2 hg2);clear hB2 hg2))
     exact ZmR1
   rw[qu hz2]at qew;rw[qr hz2]at HAL;clear hz2;cases bn with
   |true=>
    have HNA:=qa (fun W=>HNT.o W a HA.o);rw[qt rfl]at ha2;rw[<-ha2]at HNA;clear ha2
    go_wp2_with(first
     |((with_reducible refine(HIY.o _ HC.o.box).mono ?_);rintro e w2 ⟨rfl,hx⟩;have HC1:=qa (HC.o.ext hx);clear hx)
     |((with_reducible refine(HTY.o _ HC1.o.box).mono ?_);rintro e w3 ⟨rfl,hB,hg⟩;have HC3:=qa (HC1.o.act hB hg);clear hB hg)
     |(refine aQ rfl _ rfl q rfl _ HC3.o.set ?_)
     |((with_reducible refine(HNA.o _).mono ?_);rintro e w4 ⟨rfl,hx⟩;have HC4:=qa (HC3.o.ext hx);clear hx)
     |(refine aF rfl _ _ rfl q rfl _ _ rfl HC4.o.set ?_;intro w5 hB2 hg2;have HC5:=qa (HC4.o.store hB2 hg2);clear hB2 hg2)
     |(refine aQ rfl _ rfl q rfl _ HC5.o.set ?_)
     |(refine aF rfl _ _ rfl b rfl _ _ rfl HC5.o.res ?_;intro w7 hB2 hg2;have HC7:=qa hB2;have HQ7:=qa (HC5.o.fin hB2 hg2);clear hB2 hg2))
    exact ZmR1
   |false=>
    rw[qr (by decide)]at ha2;rw[<-ha2]at HC;clear ha2
    go_wp2_with(first
     |((with_reducible refine(HIY.o _ HC.o.box).mono ?_);rintro e w2 ⟨rfl,hx⟩;have HC1:=qa (HC.o.ext hx);clear hx)
     |((with_reducible refine(HTY.o _ HC1.o.box).mono ?_);rintro e w3 ⟨rfl,hB,hg⟩;have HC5:=qa (HC1.o.act hB hg);clear hB hg)
     |(refine aQ rfl _ rfl q rfl _ HC5.o.set ?_)
     |(refine aF rfl _ _ rfl b rfl _ _ rfl HC5.o.res ?_;intro w7 hB2 hg2;have HC7:=qa hB2;have HQ7:=qa (HC5.o.fin hB2 hg2);clear hB2 hg2))
    exact ZmR1
  |false=>
   rw[hi]at HIY;have HI1:=HIY;have he1:=he';have qbP:Hid (∀W x,dX W g s x->Calls prog 43 #[.pointer (some ⟨g,0,none⟩),.int .i64 16,.int .i64 frm] W (pM (.tuple #[]) g s (bB 16 frm x) W)):=qa (fun W x h=>HF.o W 16 frm x h);have qge:Hid (∀W x,dX W g s x->Calls prog 43 #[.pointer (some ⟨g,0,none⟩),.int .i64 15,.int .i64 x.p] W (pM (.tuple #[]) g s (bB 15 x.p x) W)):=qa (fun W x h=>HF.o W 15 x.p x h);have qgd:Hid (∀W (c:Nat) x,dX W g s x->Calls prog 43 #[.pointer (some ⟨g,0,none⟩),.int .i64 18,.int .i64 c] W (pM (.tuple #[]) g s (bB 18 c x) W)):=qa (fun W c x h=>HF.o W 18 c x h);by_cases hpl:y.p<s.size;rotate_left 1
   ·have HLB:=qa (HRB.o (by rw[<-HCL.o];exact q4i h0 (by rw[aP];omega)))
    have hpd:decide ((s.size:Int)<=(y.p:Int))=true:=qw (by omega);have hpn:s.size<=y.p:=by omega
    have HAL:Hid (Al s.size z R a (bB 16 frm y)):=qa (Al.fault _ HLB.o (cH _ (by decide)) (by rw[eC];omega) (by rw[eC];exact hyp))
    go_upto_region 4 with((with_reducible refine(HIY.o _ HC.o.box).mono ?_);rintro e w2 ⟨rfl,hx⟩;have HC1:=qa (HC.o.ext hx);clear hx)
    have c0:=HC1.o.box.c0;have c1:=HC1.o.box.c1
    go_quiet (fail)
    go_wp2_with(first
     |((with_reducible refine(qbP.o _ _ (HC1.o.below (aN _ _)).box).mono ?_);rintro e w3 ⟨rfl,hB,hg⟩;have HC3:=qa ((HC1.o.below (aN _ _)).act hB hg);clear hB hg)
     |(refine aQ rfl _ rfl q rfl _ HC3.o.set ?_)
     |(refine aF rfl _ _ rfl b rfl _ _ rfl HC3.o.res ?_;intro w7 hB2 hg2;have HC7:=qa hB2;have HQ7:=qa (HC3.o.fin hB2 hg2);clear hB2 hg2))
    refine bG (s:=4) (ad:=⟨b,0,none⟩) (x:=cD a) rfl rfl rfl HC7.o.load ?_;exact⟨_,_,rfl,HA.o,HQ7.o,HAL.o⟩
   have hpd:decide ((s.size:Int)<=(y.p:Int))=false:=qu (by omega);have hpn:¬s.size<=y.p:=by omega
   have hCN:=q4j (frm:=frm) (f:=f0) (a:=a) h0 hi (by rw[aP];exact hpl);rw[HCL.o]at hCN;have qi6:=qa (fun W h=>HCH.o W y h h0 hyp)
   go_upto_region 4 with((with_reducible refine(HIY.o _ HC.o.box).mono ?_);rintro e w2 ⟨rfl,hx⟩;have HC1:=qa (HC.o.ext hx);clear hx)
   have c0:=HC1.o.box.c0;have c1:=HC1.o.box.c1
   go_quiet (fail)
   have HBX:=qa (fun(w':World) (hb:Below w'.heap.size w' (w'.alloc (.cells Z 63)))=>hb)
   go_upto_region 9 with(first
    |((with_reducible refine(qi6.o _ (HC1.o.below (aN _ _)).box).mono ?_);rintro e w3 ⟨x,bx,z1,rfl,hxl,hQ,hA⟩;have HXL:=qa hxl;have HC3:=qa ((HC1.o.below (aN _ _)).act hQ.box hQ.gr);have HAL:=qa hA;have HN3:=qa (HNW.o w3);have HC4:=qa (HC3.o.below (aA w3 (.cells Z 63)));clear hxl hQ hA c0 c1)
    |(refine aF rfl _ _ rfl w3.heap.size rfl _ _ rfl HN3.o ?_;intro w5 hB2 hg2;have HX5:=qa hB2;have HC5:=qa (HC4.o.far hg2 (HC3.o.gr.size) (by have:=HC3.o.res.lt;omega) (by have:=HC3.o.set.lt;omega));have c15:=HC5.o.box.c1;clear hB2 hg2))
   obtain⟨p,hp⟩:∃p,p=w3.heap.size:=⟨_,rfl⟩
   have HP:Hid (w.heap.size<=p/\p≠b/\p≠q):=qa (by
    have h1:=HC3.o.gr.size;have h2:=HC3.o.res.lt;have h3:=HC3.o.set.lt;omega)
   have HNE:Hid (g≠p):=qa (by have:=HC3.o.gl;have:=HC3.o.gr.size;omega);rw[<-hp]at HX5⊢;have HTZ:=qa (fun W=>qjG.o W z1);have qhG:=qa (fun W=>HOR.o W a x HA.o HXL.o);have qgu:=HAL.o.top;have qkg:=HAL.o.le;clear hp HC3 HC4 HN3 HC1 qi6 c15 HBX;by_cases hce:(eQ (bys s) y).2.e=0;rotate_left 1
   ·have hze:=HAL.o.bad hce
    have hLb:L.2.e≠0:=by
     rw[hCN,q1a _ _ _ _ _ (q4k hce)];exact q4k hce
    rw[nC hze]at HTZ;clear hce hCN
    go_wp2_with(first
     |((with_reducible refine(HTZ.o _ HC5.o.box).mono ?_);rintro e w6 ⟨rfl,hB,hg⟩;have HX6:=qa (HX5.o.keepP hg HNE.o);have HC6:=qa (HC5.o.act hB hg);clear hB hg)
     |(refine aQ rfl _ rfl q rfl _ HC6.o.set ?_)
     |(refine aQ rfl _ rfl p rfl _ HX6.o ?_)
     |((with_reducible refine(qhG.o _).mono ?_);rintro e w7 ⟨rfl,hx⟩;have HC7:=qa (HC6.o.ext hx);clear hx)
     |(refine aF rfl _ _ rfl q rfl _ _ rfl HC7.o.set ?_;intro w8 hB2 hg2;have HC8:=qa (HC7.o.store hB2 hg2);clear hB2 hg2))
    go_roundg (f0+1)
    case measure=>omega
    case rel=>exact⟨f0,a|||x,z1,rfl,eP HA.o HXL.o,HC8.o,qgu,by omega,.inr ⟨hze,hLb⟩⟩
   obtain⟨hz1,hxb⟩:=HAL.o.ok hce;have hx1:x=(eQ (bys s) y).1.1:=qW Prod.fst hxb;have hb1:bx=(eQ (bys s) y).1.2:=qW Prod.snd hxb;have hze:z1.e=0:=by rw[hz1];exact hce
   have hzl:y.p<z1.p:=by rw[hz1];exact q81 hce
   cases h45:kB (bys s) 45 z1 with
   |false=>
    have qgY:=q80 (frm:=frm) (s:=bys s) (z:=y) (by rw[<-hz1];exact h45);rw[qgY,<-hx1,<-hz1]at hCN;have HCN:=qa hCN.symm;rw[iG,h45]at HTZ;clear qgY hCN hz1 hxb hx1 hb1 hce
    go_wp2_with(first
     |((with_reducible refine(HTZ.o _ HC5.o.box).mono ?_);rintro e w6 ⟨rfl,hB,hg⟩;have HX6:=qa (HX5.o.keepP hg HNE.o);have HC6:=qa (HC5.o.act hB hg);clear hB hg)
     |(refine aQ rfl _ rfl q rfl _ HC6.o.set ?_)
     |(refine aQ rfl _ rfl p rfl _ HX6.o ?_)
     |((with_reducible refine(qhG.o _).mono ?_);rintro e w7 ⟨rfl,hx⟩;have HC7:=qa (HC6.o.ext hx);clear hx)
     |(refine aF rfl _ _ rfl q rfl _ _ rfl HC7.o.set ?_;intro w8 hB2 hg2;have HC8:=qa (HC7.o.store hB2 hg2);clear hB2 hg2))
    go_roundg (f0+1)
    case measure=>omega
    case rel=>exact⟨f0,a|||x,z1,rfl,eP HA.o HXL.o,HC8.o,qgu,by omega,.inl ⟨hze,HCN.o,by omega⟩⟩
   |true=>
    have qjR:Hid (bx=false->∃c,x=eZ c):=qa (fun h=>by rw[hx1];exact J3 hce (by rw[<-hb1];exact h));have qbk:=q5T (frm:=frm) (s:=bys s) (z:=y) (by rw[<-hz1];exact h45);rw[<-hz1,<-hx1,<-hb1]at qbk;have qbY:Hid ((mQ (bys s) frm y).2.e≠0->R.2.e≠0):=qa (fun h=>HRB.o (by rw[hCN,q1a _ _ _ _ _ h];exact h));rw[iG,h45,qt rfl]at HTZ;obtain⟨-,qik,-⟩:=lZ h45;rw[aP]at qik;have qgs:(bI z1).e=0:=hze;have qke:z1.p+1<=(bI z1).p/\(bI z1).p<=z1.p+1:=⟨qb _,qb _⟩;generalize bI z1=zd at*;have qil:zd.p<=s.size:=by omega
    have HI2:=qa (fun W=>qhT.o W zd);have qi7:=qa (fun W h=>HCH.o W zd h qgs qil);have hnx:nxR (bys s) zd=if zd.p<s.size then some ((bys s).getD zd.p 0)else none:=by unfold nxR;rw[aP];simp only[qgs,true_and]
    have HCN:=qa hCN;clear hz1 hx1 hCN h45 HIY c2 hxb hb1
    go_upto_region 10 with((with_reducible refine(HTZ.o _ HC5.o.box).mono ?_);rintro e w6 ⟨rfl,hB,hg⟩;have HX6:=qa (HX5.o.keepP hg HNE.o);have HC6:=qa (HC5.o.act hB hg);clear hB hg)
    have c06:=HC6.o.box.c0;have c16:=HC6.o.box.c1;clear HC5 HX5 HTZ;by_cases hpz:zd.p<s.size;rotate_left 1
    ·rw[qr hpz]at hnx
     have HAL:Hid (Al s.size z R a (bB 16 frm zd)):=qa (Al.fault _ (qbY.o (by rw[qbk,hnx];exact cH _ (by decide))) (cH _ (by decide)) (by rw[eC];omega) (by rw[eC];omega));have qiE:decide ((s.size:Int)<=(zd.p:Int))=true:=qw (by omega);have qiD:s.size<=zd.p:=by omega
     clear qbk hnx
     go_quiet (fail)
     go_wp2_with(first
      |((with_reducible refine(qbP.o _ _ (HC6.o.below (aN _ _)).box).mono ?_);rintro e w7 ⟨rfl,hB,hg⟩;have HC7:=qa ((HC6.o.below (aN _ _)).act hB hg);clear hB hg)
      |(refine aQ rfl _ rfl q rfl _ HC7.o.set ?_)
      |(refine aF rfl _ _ rfl b rfl _ _ rfl HC7.o.res ?_;intro w9 hB2 hg2;have HC9:=qa hB2;have HQ9:=qa (HC7.o.fin hB2 hg2);clear hB2 hg2))
     exact ZmR5
    rw[qt hpz]at hnx;have qiE:decide ((s.size:Int)<=(zd.p:Int))=false:=qu (by omega);have qiD:¬s.size<=zd.p:=by omega
    rw[hnx]at qbk;simp only at qbk
    go_quiet (fail)
    have qey:=qa (HC6.o.below (aN _ nq));have qhu:=qa (HX6.o.up (aN _ nq));generalize w6.drewN nq=w61 at*;clear c06 c16;by_cases h93:kB (bys s) 93 zd=true
    ·have hcc:(bys s).getD zd.p 0=93:=by
      have:=(lZ h93).2.2;rw[hnx]at this;exact qo this
     rw[qt hcc]at qbk;have HAL:Hid (Al s.size z R a (bB 15 zd.p zd)):=qa (Al.fault _ (qbY.o (by rw[qbk];exact cH _ (by decide))) (cH _ (by decide)) (by rw[eC];omega) (by rw[eC];omega));rw[h93]at HI2;clear qbk hnx h93 hcc
     go_wp2_with(first
      |((with_reducible refine(HI2.o _ qey.o.box).mono ?_);rintro e w62 ⟨rfl,hx⟩;have qde:=qa (qey.o.ext hx);have c12:=qde.o.box.c1;clear hx)
      |((with_reducible refine(qge.o _ _ qde.o.box).mono ?_);rintro e w7 ⟨rfl,hB,hg⟩;have HC7:=qa (qde.o.act hB hg);clear hB hg)
      |(refine aQ rfl _ rfl q rfl _ HC7.o.set ?_)
      |(refine aF rfl _ _ rfl b rfl _ _ rfl HC7.o.res ?_;intro w9 hB2 hg2;have HC9:=qa hB2;have HQ9:=qa (HC7.o.fin hB2 hg2);clear hB2 hg2))
     exact ZmR5
    have h93:kB (bys s) 93 zd=false:=by simpa using h93
    have hcc:¬(bys s).getD zd.p 0=93:=fun e=>by unfold kB at h93;rw[hnx,e]at h93;simp at h93
    rw[qr hcc]at qbk;rw[h93]at HI2;clear hnx h93 hcc
    go_upto_region 17 with(first
     |((with_reducible refine(HI2.o _ qey.o.box).mono ?_);rintro e w62 ⟨rfl,hx⟩;have qde:=qa (qey.o.ext hx);have qht:=qa (qhu.o.up (aB hx));clear hx)
     |((with_reducible refine(qi7.o _ qde.o.box).mono ?_);rintro e w7 ⟨x2,bx2,z2,rfl,hxl,hQ,hA⟩;have qlq:=qa hxl;have HC7:=qa (qde.o.act hQ.box hQ.gr);have HX7:=qa (qht.o.keepP hQ.gr HNE.o);have qcU:=qa hA;have HN7:=qa (HNW.o w7);have qi8:=qa (HC7.o.below (aA w7 (.cells Z 63)));have qhs:=qa (HX7.o.up (aA w7 (.cells Z 63)));clear hxl hQ hA)
     |(refine aF rfl _ _ rfl w7.heap.size rfl _ _ rfl HN7.o ?_;intro w8 hB2 hg2;have HY8:=qa hB2;have HC8:=qa (qi8.o.far hg2 (HC7.o.gr.size) (by have:=HC7.o.res.lt;omega) (by have:=HC7.o.set.lt;omega));have HX8:=qa (qhs.o.keepP hg2 (by have:=HX7.o.lt;omega));have c28:=HC8.o.box.c2;clear hB2 hg2))
    obtain⟨p2,hp2⟩:∃p2,p2=w7.heap.size:=⟨_,rfl⟩;have HP2:Hid (p≠p2):=qa (by have:=HX7.o.lt;omega);rw[<-hp2]at HY8⊢;have qgt:=qcU.o.top;have qkf:=qcU.o.le;clear hp2 HC7 qi8 HX7 qhs HN7 qey qhu qi7 HI2 qde qht;by_cases qcs:(eQ (bys s) zd).2.e=0;rotate_left 1
    ·have qdw:=qcU.o.bad qcs
     have qf8:((z2.e:Int) != 0)=true:=by simpa using qdw
     rw[qt qcs]at qbk;have HAL:Hid (Al s.size z R a z2):=qa (Al.fault _ (qbY.o (by rw[qbk];exact qcs)) qdw (by omega) qgt);clear qbk qcs
     go_wp2_with(first
      |(refine aQ rfl _ rfl q rfl _ HC8.o.set ?_)
      |(refine aF rfl _ _ rfl b rfl _ _ rfl HC8.o.res ?_;intro w9 hB2 hg2;have HC9:=qa hB2;have HQ9:=qa (HC8.o.fin hB2 hg2);clear hB2 hg2))
     exact ZmR5
    obtain⟨hz2,qdx⟩:=qcU.o.ok qcs;have hx2:x2=(eQ (bys s) zd).1.1:=qW Prod.fst qdx;have hb2:bx2=(eQ (bys s) zd).1.2:=qW Prod.snd qdx;have qdw:z2.e=0:=by rw[hz2];exact qcs
    have qf8:((z2.e:Int) != 0)=false:=by rw[qdw];rfl
    rw[qr (fun h=>h qcs),<-hz2,<-hx2,<-hb2]at qbk
    go_upto_region 19 with(fail)
    have HDA:=qa qbk;clear qbk c28;have HBC:Hid True:=qa trivial;have qdt:Hid True:=qa trivial;cases bx with
    |true=>
     have HAL:Hid (Al s.size z R a (bB 18 z1.p z2)):=qa (Al.fault _ (qbY.o (by rw[HDA.o];exact cH _ (by decide))) (cH _ (by decide)) (by rw[eC];omega) (by rw[eC];omega));clear HDA hz2 qdx hx2 hb2;refine bO (by kernel_rfl) (by kernel_rfl) ?_;go_simp
     exact ZmR0
    |false=>
     cases bx2 with
     |true=>
      have HAL:Hid (Al s.size z R a (bB 18 z1.p z2)):=qa (Al.fault _ (qbY.o (by rw[HDA.o];exact cH _ (by decide))) (cH _ (by decide)) (by rw[eC];omega) (by rw[eC];omega));clear HDA hz2 qdx hx2 hb2;refine bO (by kernel_rfl) (by kernel_rfl) ?_;go_simp
      exact ZmR0
     |false=>
      obtain⟨c,hxc⟩:=qjR.o rfl;obtain⟨c2,qeB⟩:=J3 qcs hb2.symm;rw[<-hx2]at qeB;have hda:=HDA.o;rw[hxc,qeB,J4,J4]at hda;have qeZ:=qa hda;have HBC:Hid (∀W,Calls prog 134 #[cD x] W fun e w'=>e=.returned (.string ⟨#[c]⟩)/\∃y,w'=ext W y):=qa (fun W=>by rw[hxc];exact HBY.o W c);have qdt:Hid (∀W,Calls prog 134 #[cD x2] W fun e w'=>e=.returned (.string ⟨#[c2]⟩)/\∃y,w'=ext W y):=qa (fun W=>by rw[qeB];exact HBY.o W c2);have HRC:=qa (fun W=>HRG.o W c c2);have hi1:=fun W=>sX c W;have hi2:=fun W=>sX c2 W;clear hda HDA hz2 qdx hx2 hb2 qcs hce hxc qeB;by_cases hgt:c2.toNat<c.toNat
      ·have HAL:Hid (Al s.size z R a (bB 18 z1.p z2)):=qa (Al.fault _ (qbY.o (by rw[qeZ.o,qw hgt];exact cH _ (by decide))) (cH _ (by decide)) (by rw[eC];omega) (by rw[eC];omega))
       clear qeZ;refine bO (by kernel_rfl) (by kernel_rfl) ?_;go_simp
       exact ZmR0
      have HIT:Hid (mQ (bys s) frm y=(gS c.toNat c2.toNat,z2)):=qa (by rw[qeZ.o,qu hgt];rfl);have qk3:Hid (nP (bys s) frm f0 (a|||gS c.toNat c2.toNat) z2=L):=qa (by rw[HCN.o,HIT.o]);have qkV:decide (c2.toNat<c.toNat)=false:=qu hgt;have qjQ:=qa (fun W=>HOR.o W a (gS c.toNat c2.toNat) HA.o (yH _ _));have HRL:=qa (yH c.toNat c2.toNat);clear qeZ HCN HIT;refine bO (by kernel_rfl) (by kernel_rfl) ?_;go_simp
      repeat(first
       |(go_big_quiet_want;refine bH _ rfl p rfl _ (fun w' hw=>by obtain⟨y,rfl⟩:=hw;exact HX8.o.up (aB ⟨_,rfl⟩)) ?_;go_simp;go_big_quiet_on)
       |(go_big_quiet_want;refine bH _ rfl p2 rfl _ (fun w' hw=>by obtain⟨y,rfl⟩:=hw;exact HY8.o.up (aB ⟨_,rfl⟩)) ?_;go_simp;go_big_quiet_on)
       |go_big_quiet_step ((go_at_call 134;first|(with_reducible exact bY (HBC.o _))|(with_reducible exact bY (qdt.o _)))))
      refine wpQuiet_nil ?_;intro x9;obtain⟨w9,qbM⟩:∃w9,w9=ext w8 x9:=⟨_,rfl⟩;rw[<-qbM];have hw9:∃y,w9=ext w8 y:=⟨x9,qbM⟩;clear qbM;have HC9:=qa (HC8.o.ext hw9);have HX9:=qa (HX8.o.up (aB hw9));have HY9:=qa (HY8.o.up (aB hw9));clear hw9;generalize gS c.toNat c2.toNat=rg at*
      go_upto_region 22 with(fail)
      refine iC (C:=fun w'=>∃x,w'=chg w9 (some p) x) (.q 3 (.br 0 (.br 1 (.q 2 (.br 4 (.q 5 (.br 6 (.br 7 .done .no) .no)) .no)) .no) .no)) (by kernel_rfl) (by kernel_rfl) (bX (cJ _ _)) ?_
      (unfold bF;simp only[pk])
      go_simp
      go_big_quiet_want
      refine bH _ rfl p2 rfl _ (fun w' hw=>by obtain⟨y,rfl⟩:=hw;exact HY9.o.keepP (fT _ _ _) HP2.o) ?_;go_simp
      go_big_quiet_on
      refine wpQuiet_nil ?_;have qbU:=qa (HC9.o.below (aN w9 1));have qfJ:=qa (HX9.o.up (aN w9 1));have qcD:Hid (w9.grownBy w9.drew (some p)):=qa (cJ w9 _);rw[show w9.drewN 1=w9.drew from rfl]at qbU qfJ
      ((unfold bF;simp only[pk]);refine⟨?_,by unfold bF;trivial⟩;unfold aG)
      go_wp2_with(refine aQ rfl _ rfl p rfl _ qfJ.o ?_)
      refine⟨bX qcD.o,?_⟩;unfold aG
      ((unfold bF;simp only[pk]);refine⟨?_,by unfold bF;trivial⟩;unfold aG)
      go_wp2_with((with_reducible refine(HBC.o _).mono ?_);rintro e w11 ⟨rfl,hx⟩;have qdf:=qa (qbU.o.ext hx);have qjD:=qa (qfJ.o.up (aB hx));have qdc:=qa (aC qcD.o (aE (aB hx) _));clear hx)
      refine⟨bX qdc.o,?_⟩;unfold aG
      (repeat((unfold bF;simp only[pk]);go_big_quiet_step (fail);refine wpQuiet_nil ?_))
      ((unfold bF;simp only[pk]);refine⟨?_,by unfold bF;trivial⟩;unfold aG)
      go_wp2_with((with_reducible refine(qdt.o _).mono ?_);rintro e w12 ⟨rfl,hx⟩;have qkb:=qa (qdf.o.ext hx);have qjC:=qa (qjD.o.up (aB hx));have qbZ:=qa (aC qdc.o (aE (aB hx) _));clear hx)
      refine⟨bX qbZ.o,?_⟩;unfold aG
      (repeat((unfold bF;simp only[pk]);go_big_quiet_step (fail);refine wpQuiet_nil ?_))
      ((unfold bF;simp only[pk]);refine⟨?_,by unfold bF;trivial⟩;unfold aG)
      go_wp2_with((with_reducible refine(HRC.o _).mono ?_);rintro e w13 ⟨rfl,hx⟩;have qka:=qa (qkb.o.ext hx);have qjB:=qa (qjC.o.up (aB hx));have qeW:=qa (aC qbZ.o (aE (aB hx) _));clear hx)
      refine⟨bX qeW.o,?_⟩;unfold aG
      ((unfold bF;simp only[pk]);refine⟨?_,by unfold bF;trivial⟩;unfold aG)
      go_wp2_with(refine aF rfl _ _ rfl p rfl _ _ rfl qjB.o ?_;intro w14 hB2 hg2;have qjA:=qa hB2;have qjZ:=qa (aC qeW.o hg2);have qia:=qa (qka.o.far hg2 HP.o.1 HP.o.2.1 HP.o.2.2);clear hB2 hg2)
      refine⟨bX qjZ.o,?_⟩;unfold aG;unfold bF;intro hz8 hz9;clear hz9
      go_wp2_with(first
       |(refine aQ rfl _ rfl q rfl _ qia.o.set ?_)
       |(refine aQ rfl _ rfl p rfl _ qjA.o ?_)
       |((with_reducible refine(qjQ.o _).mono ?_);rintro e w15 ⟨rfl,hx⟩;have qi9:=qa (qia.o.ext hx);clear hx)
       |(refine aF rfl _ _ rfl q rfl _ _ rfl qi9.o.set ?_;intro w16 hB2 hg2;have qk9:=qa (qi9.o.store hB2 hg2);clear hB2 hg2))
      go_roundg (f0+1)
      case measure=>omega
      case rel=>exact⟨f0,a|||rg,z2,rfl,eP HA.o HRL.o,qk9.o,qgt,by omega,.inl ⟨qdw,qk3.o,by omega⟩⟩
end Go.Cm
