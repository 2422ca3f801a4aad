/- Walks of functions and plain facts, joined and squeezed by a program. Conditions: as each says. -/
import Derived.Test.YtdffpnabpoogbaaGreatDoorCTXF
set_option maxHeartbeats 8000000
set_option maxRecDepth 100000
set_option linter.unusedSimpArgs false
open Go.Proofs.Tryz
namespace Go.Cm
open Go.RowKit Go.Proofs
theorem ZmJ0{P:Prop}(h:P:=by
 go_wp2_with(first
  |((with_reducible refine(HN.o _ HE0.o.box).mono ?_);rintro e w1 ⟨rfl,hx⟩;have HE1:=qa (HE0.o.ext hx);have c1:=HE1.o.box.c1;clear hx)
  |((with_reducible refine(HF.o _ HE1.o.box).mono ?_);rintro e w2 ⟨rfl,hB,hg⟩;have HE2:=qa (HE1.o.act hB hg);clear hB hg)
  |(refine aF rfl _ _ rfl w.heap.size rfl _ 0 HZV.o HE2.o.set ?_;intro w3 hB2 hg2;have HE3:=qa (HE2.o.store hB2 hg2);clear hB2 hg2))
 refine aX (s:=2) (b:=3) (ad:=⟨w.heap.size,0,none⟩) (x:=cD 0) (y:=.bool false) rfl rfl rfl rfl HE3.o.set.load ?_;rw[HR.o];exact⟨rfl,HE3.o.box,HE3.o.gr⟩):P:=h
theorem ZmJ1{P:Prop}(h:P:=by refine aX (s:=2) (b:=3) (ad:=⟨w.heap.size,0,none⟩) (x:=cD 0) (y:=.bool false) rfl rfl rfl rfl HE7.o.set.load ?_;rw[HR.o];exact⟨rfl,HE7.o.box,HE7.o.gr⟩):P:=h
def q9I(c:UInt8):Value:=.tuple #[cD ((X2 c).getD 0),.bool (X2 c).isSome]
theorem B7:y8<2^256:=yH _ _
theorem Q0:gS 97 122<2^256:=yH _ _
theorem q3w:gS 65 90<2^256:=yH _ _
theorem eX.heap{w:World}{g x:Nat}(h:eX w g x):w.heap[g]? =some (.cells (wsV x).toArray 63 (0,0)):=by
 obtain⟨A,hg,-,hA⟩:=h.own.whole;rw[hg,<-hA]
theorem bH{C:World->Prop}{o:Oper}{a:Act}{K:Act->Prop}(x:Operand)(ho:o.op=.load 63 x)(g:Nat)(hx:a.eval x=.pointer (some ⟨g,0,none⟩))(s:Nat)
  (hg:∀w',C w'->eX w' g s) (h:K (a.put o.dst (cD s))):o.quiet prog a C K:=
 lV 63 4 x ho g hx (wsV s).toArray rfl (fun w' hw=>(hg w' hw).heap) _ underlying63 rfl (by kernel_rfl) h
theorem cF{w w1 w2:World}{row:Option Nat}(h:Below w.heap.size w w1)(hg:w1.grownBy w2 row)(hr:∀k,row=some k->w.heap.size<=k):Below w.heap.size w w2:=h.grown hg h.size hr
theorem q8N(c:UInt8)(w:World):Calls prog 125 #[.int .u8 (c.toNat:Nat)] w fun e w'=>e=.returned (q9I c)/\∃x,w'=ext w x:=by
 have hz:=gZ;obtain⟨Z,hZ⟩:∃Z,Z=z4:=⟨_,rfl⟩;rw[<-hZ]at hz;have H2:=qa (cL w Z hZ);have HBL:Hid (Below w.heap.size w (w.alloc (.cells Z 63))):=qa aJ;have HNW:Hid (∀W:World,eX (W.alloc (.cells Z 63)) W.heap.size 0):=qa (fun W=>cL W Z hZ);have HD:Hid (∀W,Calls prog 132 #[.int .u8 48,.int .u8 57] W (cI y8 W)):=qa (fun W=>P9 48 57 W);have HZV:Hid (Value.agg Z=cD 0):=qa (by rw[hZ];rfl);have HV:Hid (q9I c=.tuple #[cD ((X2 c).getD 0),.bool (X2 c).isSome]):=qa rfl;rw[HV.o];unfold X2;clear hZ HV;by_cases hd:c=100
 ·subst hd
  rw[qt rfl];go_enter func125,ntmps125
  go_wp2_with(first
   |((with_reducible refine(HD.o _).mono ?_);rintro e w3 ⟨rfl,hx3⟩;have hb3:=aB hx3;have H3:=qa (H2.o.up hb3);have qbt:=qa (HBL.o.trans (hb3.mono HBL.o.size));have HN3:=qa (HNW.o w3);have hba:=aA w3 (.cells Z 63);have H31:=qa (H3.o.up hba);have qez:=qa (qbt.o.trans (hba.mono qbt.o.size));have hs3:w.heap.size<w3.heap.size:=qe (H2.o.lt) hb3.size;clear hx3 hb3 hba)
   |(refine aF rfl _ _ rfl w3.heap.size rfl _ _ rfl HN3.o ?_;intro w4 hB2 hg2;have HN4:=qa hB2;have HB4:=qa (cF qez.o hg2 (fun k e=>by injection e with e;omega));have H4:=qa (H31.o.keep hg2 (fun e=>by injection e with e;omega));clear hB2 hg2)
   |(refine aQ rfl _ rfl w3.heap.size rfl _ HN4.o ?_)
   |(refine aF rfl _ _ rfl w.heap.size rfl _ _ rfl H4.o ?_;intro w5 hB2 hg2;have H5:=qa hB2;have HB5:=qa (cF HB4.o hg2 (fun k e=>by injection e with e;omega));clear hB2 hg2))
  refine aX (s:=2) (b:=3) (ad:=⟨w.heap.size,0,none⟩) (x:=cD y8) (y:=.bool true) rfl rfl rfl rfl H5.o.load ?_;exact⟨rfl,aI HB5.o⟩
 have hdn:¬c.toNat=100:=fun e=>hd (UInt8.toNat_inj.1 e);rw[qr hd];by_cases hw:c=119
 ·subst hw
  rw[qt rfl];have HL:Hid (∀W,Calls prog 132 #[.int .u8 97,.int .u8 122] W (cI (gS 97 122) W)):=qa (fun W=>P9 97 122 W);have HU:Hid (∀W,Calls prog 132 #[.int .u8 65,.int .u8 90] W (cI (gS 65 90) W)):=qa (fun W=>P9 65 90 W);have HO1:Hid (∀W,Calls prog 128 #[cD (gS 97 122),cD (gS 65 90)] W (cI (gS 97 122|||gS 65 90) W)):=qa (fun W=>orP Q0 q3w W);have HO2:Hid (∀W,Calls prog 128 #[cD y8,cD (gS 97 122|||gS 65 90)] W (cI (y8|||(gS 97 122|||gS 65 90)) W)):=qa (fun W=>orP B7 (eP Q0 q3w) W);have HS1:Hid (∀W,Calls prog 113 #[.int .u8 95] W (cI (eZ 95) W)):=qa (fun W=>uS 95 W);have HO3:Hid (∀W,Calls prog 128 #[cD (eZ 95),cD (y8|||(gS 97 122|||gS 65 90))] W (cI q8E W)):=qa (fun W=>orP (mN _) (eP B7 (eP Q0 q3w)) W);generalize gS 97 122|||gS 65 90=lu at*;generalize y8|||lu=dlu at*;generalize gS 97 122=lo at*;generalize gS 65 90=up at*;generalize eZ 95=on at*;generalize q8E=wrd at*;generalize y8=dg at*;have ql3:¬(119:Nat)=100:=by decide
  go_enter func125,ntmps125
  go_wp2_with(first
   |((with_reducible refine(HD.o _).mono ?_);rintro e w3 ⟨rfl,hx3⟩;have hb3:=aB hx3;have H3:=qa (H2.o.up hb3);have qbt:=qa (HBL.o.trans (hb3.mono HBL.o.size));have HN3:=qa (HNW.o w3);have hba:=aA w3 (.cells Z 63);have H31:=qa (H3.o.up hba);have qez:=qa (qbt.o.trans (hba.mono qbt.o.size));have hs3:w.heap.size<w3.heap.size:=qe (H2.o.lt) hb3.size;clear hx3 hb3 hba)
   |(refine aF rfl _ _ rfl w3.heap.size rfl _ _ rfl HN3.o ?_;intro w4 hB2 hg2;have HN4:=qa hB2;have HB4:=qa (cF qez.o hg2 (fun k e=>by injection e with e;omega));have H4:=qa (H31.o.keep hg2 (fun e=>by injection e with e;omega));clear hB2 hg2)
   |((with_reducible refine(HL.o _).mono ?_);rintro e w5 ⟨rfl,hx3⟩;have hb3:=aB hx3;have H5:=qa (H4.o.up hb3);have HN5:=qa (HN4.o.up hb3);have HB5:=qa (HB4.o.trans (hb3.mono HB4.o.size));clear hx3 hb3)
   |((with_reducible refine(HU.o _).mono ?_);rintro e w6 ⟨rfl,hx3⟩;have hb3:=aB hx3;have H6:=qa (H5.o.up hb3);have HN6:=qa (HN5.o.up hb3);have HB6:=qa (HB5.o.trans (hb3.mono HB5.o.size));clear hx3 hb3)
   |((with_reducible refine(HO1.o _).mono ?_);rintro e w7 ⟨rfl,hx3⟩;have hb3:=aB hx3;have hba:=aA w7 (.cells Z 63);have H7:=qa ((H6.o.up hb3).up hba);have HN7:=qa ((HN6.o.up hb3).up hba);have HBb:=qa (HB6.o.trans (hb3.mono HB6.o.size));have HB7:=qa (HBb.o.trans (hba.mono HBb.o.size));have HM7:=qa (HNW.o w7);have hs7:w3.heap.size<w7.heap.size:=qe (HN6.o.lt) hb3.size;clear hx3 hb3 hba)
   |(refine aF rfl _ _ rfl w7.heap.size rfl _ _ rfl HM7.o ?_;intro w8 hB2 hg2;have HM8:=qa hB2;have HB8:=qa (cF HB7.o hg2 (fun k e=>by injection e with e;omega));have H8:=qa (H7.o.keep hg2 (fun e=>by injection e with e;omega));have HN8:=qa (HN7.o.keep hg2 (fun e=>by injection e with e;omega));clear hB2 hg2))
  have HG0:Hid (w8.grownBy w8.drew (some w.heap.size)):=qa (cJ w8 _);refine vQ (fun w'=>∃x,w'=chg w8 (some w.heap.size) x) [([1,2],[0,3,4,5]),([6],[])] (by kernel_rfl) (by kernel_rfl) (bX HG0.o) ?_
  (unfold mX;simp only[pk])
  go_simp
  repeat(first
   |(go_big_quiet_want;refine bH _ rfl w3.heap.size rfl dg (fun w' hw=>by obtain⟨y,rfl⟩:=hw;exact HN8.o.keep (fT _ _ _) (fun e=>by injection e with e;omega)) ?_;go_simp;go_big_quiet_on)
   |(go_big_quiet_want;refine bH _ rfl w7.heap.size rfl lu (fun w' hw=>by obtain⟨y,rfl⟩:=hw;exact HM8.o.keep (fT _ _ _) (fun e=>by injection e with e;omega)) ?_;go_simp;go_big_quiet_on))
  refine wpQuiet_nil ?_;have H8d:=qa (H8.o.up (aN w8 1));rw[show w8.drewN 1=w8.drew from rfl]at H8d;have qif:=qa (cF HB8.o HG0.o (fun k e=>by injection e with e;omega));generalize w8.drew=w9 at*;unfold aG
  go_wp2_with((with_reducible refine(HS1.o _).mono ?_);rintro e w10 ⟨rfl,hx⟩;have hb:=aB hx;have H10:=qa (H8d.o.up hb);have qcD:=qa (aC HG0.o (aE hb (some w.heap.size)));have qij:=qa (qif.o.trans (hb.mono qif.o.size));clear hx hb)
  refine⟨bX qcD.o,?_⟩;unfold aG
  go_wp2_with((with_reducible refine(HO2.o _).mono ?_);rintro e w11 ⟨rfl,hx⟩;have hb:=aB hx;have H11:=qa (H10.o.up hb);have qdc:=qa (aC qcD.o (aE hb (some w.heap.size)));have qc2:=qa (qij.o.trans (hb.mono qij.o.size));clear hx hb)
  refine⟨bX qdc.o,?_⟩;unfold aG
  go_wp2_with((with_reducible refine(HO3.o _).mono ?_);rintro e w12 ⟨rfl,hx⟩;have hb:=aB hx;have H12:=qa (H11.o.up hb);have qbZ:=qa (aC qdc.o (aE hb (some w.heap.size)));have qci:=qa (qc2.o.trans (hb.mono qc2.o.size));clear hx hb)
  refine⟨bX qbZ.o,?_⟩;unfold aG
  go_wp2_with(refine aF rfl _ _ rfl w.heap.size rfl _ _ rfl H12.o ?_;intro w13 hB2 hg2;have H13:=qa hB2;have qeW:=qa (aC qbZ.o hg2);have qf6:=qa (cF qci.o hg2 (fun k e=>by injection e with e;omega));clear hB2 hg2)
  refine⟨bX qeW.o,?_⟩;unfold aG
  (unfold mX;simp only[pk])
  repeat(go_big_quiet_step (fail))
  refine wpQuiet_nil ?_;unfold aG;unfold mX;intro hz8 hz9;clear hz9;go_wp2;refine aX (s:=2) (b:=3) (ad:=⟨w.heap.size,0,none⟩) (x:=cD wrd) (y:=.bool true) rfl rfl rfl rfl H13.o.load ?_;exact⟨rfl,aI qf6.o⟩
 have hwn:¬c.toNat=119:=fun e=>hw (UInt8.toNat_inj.1 e);rw[qr hw];clear hd hw;go_enter func125,ntmps125
 go_wp2_with(first
  |((with_reducible refine(HD.o _).mono ?_);rintro e w3 ⟨rfl,hx3⟩;have hb3:=aB hx3;have H3:=qa (H2.o.up hb3);have qbt:=qa (HBL.o.trans (hb3.mono HBL.o.size));have HN3:=qa (HNW.o w3);have hba:=aA w3 (.cells Z 63);have H31:=qa (H3.o.up hba);have qez:=qa (qbt.o.trans (hba.mono qbt.o.size));have hs3:w.heap.size<w3.heap.size:=qe (H2.o.lt) hb3.size;clear hx3 hb3 hba)
  |(refine aF rfl _ _ rfl w3.heap.size rfl _ _ rfl HN3.o ?_;intro w4 hB2 hg2;have HN4:=qa hB2;have HB4:=qa (cF qez.o hg2 (fun k e=>by injection e with e;omega));have H4:=qa (H31.o.keep hg2 (fun e=>by injection e with e;omega));clear hB2 hg2)
  |(refine aF rfl _ _ rfl w.heap.size rfl _ 0 HZV.o H4.o ?_;intro w5 hB2 hg2;have H5:=qa hB2;have HB5:=qa (cF HB4.o hg2 (fun k e=>by injection e with e;omega));clear hB2 hg2))
 refine aX (s:=2) (b:=3) (ad:=⟨w.heap.size,0,none⟩) (x:=cD 0) (y:=.bool false) rfl rfl rfl rfl H5.o.load ?_;exact⟨rfl,aI HB5.o⟩
def q9J(c:UInt8):Value:=.tuple #[.int .u8 (((q1G c).getD c).toNat:Nat),.bool (q1G c).isSome]
theorem q8O(c:UInt8)(w:World):Calls prog 126 #[.int .u8 (c.toNat:Nat)] w fun e w'=>e=.returned (q9J c)/\∃x,w'=ext w x:=by
 have HW:Hid (∀W,Calls prog 110 #[.string ⟨#[92,91,93,40,41,123,125,42,43,63,124,46,45,94,47,34]⟩,.int .u8 (c.toNat:Nat)] W fun e w'=>e=.returned (.bool (decide (c∈yA)))/\∃x,w'=ext W x):=qa (fun W=>q3v yA (by decide) c W);have HV:Hid (q9J c=.tuple #[.int .u8 (((q1G c).getD c).toNat:Nat),.bool (q1G c).isSome]):=qa rfl;rw[HV.o];unfold q1G;clear HV;by_cases h1:c=110
 ·subst h1
  go_enter func126,ntmps126;go_wp2
  go_ret2
  exact⟨rfl,(aI aJ)⟩
 by_cases h2:c=116
 ·subst h2
  go_enter func126,ntmps126;go_wp2
  go_ret2
  exact⟨rfl,(aI aJ)⟩
 by_cases h3:c=115
 ·subst h3
  go_enter func126,ntmps126;go_wp2
  go_ret2
  exact⟨rfl,(aI aJ)⟩
 have k1:¬c.toNat=110:=fun e=>h1 (UInt8.toNat_inj.1 e);have k2:¬c.toNat=116:=fun e=>h2 (UInt8.toNat_inj.1 e);have k3:¬c.toNat=115:=fun e=>h3 (UInt8.toNat_inj.1 e);rw[qr h1,qr h2,qr h3];clear h1 h2 h3;have HM:Hid (((if c∈yA then some c else none:Option UInt8).getD c).toNat=c.toNat/\(if c∈yA then some c else none:Option UInt8).isSome=decide (c∈yA)):=qa (by split<;>simp[*]);rw[HM.o.1,HM.o.2];clear HM;generalize decide (c∈yA)=b at*;generalize c.toNat=n at*;go_enter func126,ntmps126
 go_wp2_with((with_reducible refine(HW.o _).mono ?_);rintro e w3 ⟨rfl,x3,rfl⟩)
 go_ret2
 exact⟨rfl,(aI aJ)⟩
theorem eX.keepP{w w':World}{g b x:Nat}(h:eX w b x)(hg:w.grownBy w' (some g))(hne:g≠b):eX w' b x:=h.keep hg (fun e=>hne (by injection e))
theorem dJ.keepP{w w':World}{g b:Nat}{s:ByteArray}{z:PS}(h:dJ w g s z)(hg:w.grownBy w' (some b))(hne:b≠g):dJ w' g s z:=h.keep hg (fun e=>hne (by injection e))
structure Esc(w0 w:World)(g:Nat)(s:ByteArray)(z:PS)(b x:Nat):Prop where
 box:dJ w g s z
 set:eX w b x
 gr:w0.grownBy w (some g)
 lo:w0.heap.size<=b
 gl:g<w0.heap.size
section
variable {w0 w w' : World} {g : Nat} {s : ByteArray} {z : PS} {b x : Nat}
theorem Esc.ext(h:Esc w0 w g s z b x)(hx:∃y,w'=ext w y):Esc w0 w' g s z b x:=
 have hb:=aB hx
 ⟨h.box.up hb,h.set.up hb,aC h.gr (aE hb _),h.lo,h.gl⟩
theorem Esc.below(h:Esc w0 w g s z b x)(hb:Below w.heap.size w w'):Esc w0 w' g s z b x:=
 ⟨h.box.up hb,h.set.up hb,aC h.gr (aE hb _),h.lo,h.gl⟩
theorem Esc.act{z':PS}(h:Esc w0 w g s z b x)(hB:dJ w' g s z')(hg:w.grownBy w' (some g)):Esc w0 w' g s z' b x:=
 ⟨hB,h.set.keepP hg (by have:=h.lo;have:=h.gl;omega),aC h.gr hg,h.lo,h.gl⟩
theorem Esc.store{y:Nat}(h:Esc w0 w g s z b x)(hB:eX w' b y)(hg:w.grownBy w' (some b)):Esc w0 w' g s z b y:=
 ⟨h.box.keepP hg (by have:=h.lo;have:=h.gl;omega),hB,fV h.gr hg (fun k e=>by injection e with e;have:=h.lo;omega),h.lo,h.gl⟩
theorem Esc.far{q:Nat}(h:Esc w0 w g s z b x)(hg:w.grownBy w' (some q))(hq:w0.heap.size<=q)(hqb:q≠b):Esc w0 w' g s z b x:=
 ⟨h.box.keepP hg (by have:=h.gl;omega),h.set.keepP hg hqb,fV h.gr hg (fun k e=>by injection e with e;omega),h.lo,h.gl⟩
theorem Esc.inc(h:Esc w0 w g s z b x):Esc w0 (w.setCell ⟨g,1,none⟩ (.int .i64 ((z.p:Int)+1))) g s (bI z) b x:=h.act h.box.inc.1 h.box.inc.2
theorem Esc.inc2(h:Esc w0 w g s (bI z) b x):Esc w0 (w.setCell ⟨g,1,none⟩ (.int .i64 ((z.p:Int)+1+1))) g s (bI (bI z)) b x:=h.act h.box.inc2.1 h.box.inc2.2
end
theorem dJ.hex{w:World}{g:Nat}{s:ByteArray}{z:PS}(h:dJ w g s (bI (bI z))):dJ (w.setCell ⟨g,1,none⟩ (.int .i64 ((z.p:Int)+1+3))) g s ⟨z.p+4,z.e,z.b⟩/\w.grownBy (w.setCell ⟨g,1,none⟩ (.int .i64 ((z.p:Int)+1+3))) (some g):=by
 have:=h.set1 (z.p+4);rwa [show(((z.p+4:Nat):Int))=(z.p:Int)+1+3 by omega]at this
theorem q8P:∀h l:Nat,h<16->l<16->bits .or .i64 ((h:Int)*16) (l:Int)=((16*h+l:Nat):Int):=by
 intro h l hh hl;have key:∀h:Fin 16,∀l:Fin 16,bits .or .i64 ((h.val:Int)*16) (l.val:Int)=((16*h.val+l.val:Nat):Int):=by decide+kernel
 exact key ⟨h,hh⟩ ⟨l,hl⟩
theorem q6f{c:UInt8}(h:okD c 16=true):∃n:Nat,n<16/\dgR c=(n:Int):=by
 simp only[okD,qG,jk]at h;exact⟨(dgR c).toNat,by omega,by omega⟩
def q4w(y:(Nat×Bool)×PS):Value:=.tuple #[cD y.1.1,.bool y.1.2]
theorem dJ.c12{w:World}{g:Nat}{s:ByteArray}{z:PS}(h:dJ w g s (bI (bI z))):w.cell? ⟨g,1,none⟩=some (.int .i64 ((z.p:Int)+1+1)):=h.c1
theorem qax{w:World}{g:Nat}{s:ByteArray}{z:PS}{c0:UInt8}(h:dJ w g s z)(hs:s.size<=1000000)(hc0:nxR (bys s) z=some c0):
  Calls prog 108 #[.pointer (some ⟨g,0,none⟩)] w (mR (q4w (pG (bys s) z)) g s (pG (bys s) z).2 w):=by
 obtain⟨hz0,hzp,-⟩:=dE hc0;rw[aP]at hzp;have hz:=gZ;obtain⟨Z,hZ⟩:∃Z,Z=z4:=⟨_,rfl⟩;rw[<-hZ]at hz;have HZV:Hid (Value.agg Z=cD 0):=qa (by rw[hZ];rfl);have HNW:Hid (∀W:World,eX (W.alloc (.cells Z 63)) W.heap.size 0):=qa (fun W=>cL W Z hZ);have c1:=h.c1;have f1:=h.free 1;have hgl:=h.lt
 have HE0:Hid (Esc w ((w.setCell ⟨g,1,none⟩ (.int .i64 ((z.p:Int)+1))).alloc (.cells Z 63)) g s (bI z) w.heap.size 0):=qa (by
  obtain⟨hi1,hi2⟩:=h.inc;have hb:=aA (w.setCell ⟨g,1,none⟩ (.int .i64 ((z.p:Int)+1))) (.cells Z 63);have hn:=HNW.o (w.setCell ⟨g,1,none⟩ (.int .i64 ((z.p:Int)+1)));rw[show(w.setCell ⟨g,1,none⟩ (.int .i64 ((z.p:Int)+1))).heap.size=w.heap.size by simp]at hn;exact⟨hi1.up hb,hn,aC hi2 (aE hb _),qb _,hgl⟩)
 have c11:=HE0.o.box.c11;have HN:Hid (∀W,dJ W g s (bI z)->Calls prog 40 #[.pointer (some ⟨g,0,none⟩)] W fun e w'=>e=.returned (nxV (nxR (bys s) (bI z)))/\∃x,w'=ext W x):=qa (fun W h=>nxP h);have HF:Hid (∀W y,dJ W g s y->Calls prog 41 #[.pointer (some ⟨g,0,none⟩),.int .i64 15,.int .i64 ((z.p:Int)+1)] W (mR (.tuple #[]) g s (bB 15 (z.p+1) y) W)):=qa (fun W y h=>uR h 15 (z.p+1));obtain⟨R,hR⟩:∃R,R=pG (bys s) z:=⟨_,rfl⟩;rw[<-hR];clear h hZ hc0 hz0;cases hn:nxR (bys s) (bI z)with
 |none=>
  have HR:Hid (R=((0,false),bB 15 (z.p+1) (bI z))):=qa (by rw[hR];unfold pG;rw[hn]);rw[hn]at HN;unfold nxV at HN;clear hR hn;go_enter func108,ntmps108
  go_wp2_with(first
   |((with_reducible refine(HN.o _ HE0.o.box).mono ?_);rintro e w1 ⟨rfl,hx⟩;have HE1:=qa (HE0.o.ext hx);clear hx)
   |((with_reducible refine(HF.o _ _ HE1.o.box).mono ?_);rintro e w2 ⟨rfl,hB,hg⟩;have HE2:=qa (HE1.o.act hB hg);clear hB hg)
   |(refine aF rfl _ _ rfl w.heap.size rfl _ 0 HZV.o HE2.o.set ?_;intro w3 hB2 hg2;have HE3:=qa (HE2.o.store hB2 hg2);clear hB2 hg2))
  refine aX (s:=2) (b:=3) (ad:=⟨w.heap.size,0,none⟩) (x:=cD 0) (y:=.bool false) rfl rfl rfl rfl HE3.o.set.load ?_;rw[HR.o];exact⟨rfl,HE3.o.box,HE3.o.gr⟩
 |some c=>
  obtain⟨hz1,qdv,-⟩:=dE hn;rw[aP]at qdv;have qkd:z.p+1<s.size:=qdv;have HK:Hid (∀W,Calls prog 125 #[.int .u8 (c.toNat:Nat)] W fun e w'=>e=.returned (q9I c)/\∃x,w'=ext W x):=qa (fun W=>q8N c W)
  have hR2:R=(match X2 c with
   |some a=>((a,true),bI (bI z))
   |none=>match q1G c with
    |some b=>((eZ b,false),bI (bI z))
    |none=>if c=120 then match q1H (bys s) (z.p+1)with
      |some b=>((eZ b,false),⟨z.p+4,z.e,z.b⟩)
      |none=>((0,false),bB 15 (z.p+1) (bI (bI z)))
     else((0,false),bB 15 (z.p+1) (bI (bI z)))):=by rw[hR];unfold pG;rw[hn];rfl
  rw[hn]at HN;unfold nxV at HN;unfold q9I at HK;clear hR hn hz1 qdv;cases hk:X2 c with
  |some a=>
   rw[hk]at HK hR2;have HR:Hid (R=((a,true),bI (bI z))):=qa hR2;clear hR2 hk;simp only[qJ,jV]at HN HK;go_enter func108,ntmps108
   go_wp2_with(first
    |((with_reducible refine(HN.o _ HE0.o.box).mono ?_);rintro e w1 ⟨rfl,hx⟩;have HE1:=qa (HE0.o.ext hx);have c1w:=HE1.o.box.c11;have f1w:=HE1.o.box.free 1;have HI:=qa HE1.o.inc2;have hlw:=HE1.o.set.lt;clear hx)
    |((with_reducible refine(HK.o _).mono ?_);rintro e w2 ⟨rfl,hx⟩;have HE2:=qa (HI.o.ext hx);have hba:=aA w2 (.cells Z 63);have HE3:=qa (HE2.o.below hba);have HN3:=qa (HNW.o w2);have hs2:=HE2.o.set.lt;clear hx hba)
    |(refine aF rfl _ _ rfl w2.heap.size rfl _ _ rfl HN3.o ?_;intro w3 hB2 hg2;have HE4:=qa (HE3.o.far hg2 (by omega) (by omega));have HN4:=qa hB2;clear hB2 hg2)
    |(refine aQ rfl _ rfl w2.heap.size rfl _ HN4.o ?_)
    |(refine aF rfl _ _ rfl w.heap.size rfl _ _ rfl HE4.o.set ?_;intro w4 hB2 hg2;have HE5:=qa (HE4.o.store hB2 hg2);clear hB2 hg2))
   refine aX (s:=2) (b:=3) (ad:=⟨w.heap.size,0,none⟩) (x:=cD a) (y:=.bool true) rfl rfl rfl rfl HE5.o.set.load ?_;rw[HR.o];exact⟨rfl,HE5.o.box,HE5.o.gr⟩
  |none=>
   rw[hk]at HK hR2;have HM:Hid (∀W,Calls prog 126 #[.int .u8 (c.toNat:Nat)] W fun e w'=>e=.returned (q9J c)/\∃x,w'=ext W x):=qa (fun W=>q8O c W);unfold q9J at HM;simp only[qJ,jV,Option.getD_none,Option.isSome_none]at HN HK;clear hk;cases hm:q1G c with
   |some b=>
    rw[hm]at HM hR2;have HR:Hid (R=((eZ b,false),bI (bI z))):=qa hR2;have HSI:Hid (∀W,Calls prog 113 #[.int .u8 (b.toNat:Nat)] W (cI (eZ b) W)):=qa (fun W=>uS b W);simp only[qJ,jV]at HM;clear hR2 hm;go_enter func108,ntmps108
    go_wp2_with(first
     |((with_reducible refine(HN.o _ HE0.o.box).mono ?_);rintro e w1 ⟨rfl,hx⟩;have HE1:=qa (HE0.o.ext hx);have c1w:=HE1.o.box.c11;have f1w:=HE1.o.box.free 1;have HI:=qa HE1.o.inc2;have hlw:=HE1.o.set.lt;clear hx)
     |((with_reducible refine(HK.o _).mono ?_);rintro e w2 ⟨rfl,hx⟩;have HE2:=qa (HI.o.ext hx);have hba:=aA w2 (.cells Z 63);have HE3:=qa (HE2.o.below hba);have HN3:=qa (HNW.o w2);have hs2:=HE2.o.set.lt;clear hx hba)
     |(refine aF rfl _ _ rfl w2.heap.size rfl _ _ rfl HN3.o ?_;intro w3 hB2 hg2;have HE4:=qa (HE3.o.far hg2 (by omega) (by omega));have HN4:=qa hB2;clear hB2 hg2)
     |((with_reducible refine(HM.o _).mono ?_);rintro e w4 ⟨rfl,hx⟩;have HE5:=qa (HE4.o.ext hx);clear hx)
     |((with_reducible refine(HSI.o _).mono ?_);rintro e w5 ⟨rfl,hx⟩;have HE6:=qa (HE5.o.ext hx);clear hx)
     |(refine aF rfl _ _ rfl w.heap.size rfl _ _ rfl HE6.o.set ?_;intro w6 hB2 hg2;have HE7:=qa (HE6.o.store hB2 hg2);clear hB2 hg2))
    refine aX (s:=2) (b:=3) (ad:=⟨w.heap.size,0,none⟩) (x:=cD (eZ b)) (y:=.bool false) rfl rfl rfl rfl HE7.o.set.load ?_;rw[HR.o];exact⟨rfl,HE7.o.box,HE7.o.gr⟩
   |none=>
    rw[hm]at HM hR2;simp only[Option.getD_none,Option.isSome_none]at HM hR2;clear hm;by_cases hx:c=120
    ·rw[qt hx]at hR2
     have hxb:((c.toNat:Int)==120)=true:=by rw[hx];rfl
     clear hx;have HDD:Hid (∀(d:UInt8) W,Calls prog 127 #[.int .u8 (d.toNat:Nat),.int .i64 16] W fun e w'=>e=.returned (dgV d 16)/\∃x,w'=ext W x):=qa (fun d W=>q6e d 16 W);by_cases hin:z.p+1+2<s.size
     ·have hx1:∀V:World,(Instr.index 9 (.string s) (.int .i64 ((z.p:Int)+1+1))).run prog V=.ok (.int .u8 (((bys s).getD (z.p+1+1) 0).toNat:Nat)) V:=fun V=>e6 (P:=prog) 9 underlying9 (i:=z.p+1+1) (by omega) V
      have hx2:∀V:World,(Instr.index 9 (.string s) (.int .i64 ((z.p:Int)+1+2))).run prog V=.ok (.int .u8 (((bys s).getD (z.p+1+2) 0).toNat:Nat)) V:=fun V=>e6 (P:=prog) 9 underlying9 (i:=z.p+1+2) (by omega) V
      have hXR:q1H (bys s) (z.p+1)=if okD ((bys s).getD (z.p+1+1) 0) 16=true/\okD ((bys s).getD (z.p+1+2) 0) 16=true then some (UInt8.ofNat (16*(dgR ((bys s).getD (z.p+1+1) 0)).toNat+(dgR ((bys s).getD (z.p+1+2) 0)).toNat))else none:=by
       unfold q1H;rw[aP];simp only[hin,true_and]
      rw[hXR]at hR2;clear hXR;generalize (bys s).getD (z.p+1+1) 0=d1 at*;generalize (bys s).getD (z.p+1+2) 0=d2 at*;unfold dgV at HDD;by_cases hok:okD d1 16=true/\okD d2 16=true
      ·obtain⟨ho1,ho2⟩:=hok
       obtain⟨n1,hn1,hd1⟩:=q6f ho1;obtain⟨n2,hn2,hd2⟩:=q6f ho2;rw[qt ⟨ho1,ho2⟩]at hR2;have HR:Hid (R=((eZ (UInt8.ofNat (16*n1+n2)),false),⟨z.p+4,z.e,z.b⟩)):=qa (by rw[hR2,hd1,hd2];rfl);have hor:=q8P n1 n2 hn1 hn2
       have HSI:Hid (∀W,Calls prog 113 #[.int .u8 (16*(n1:Int)+(n2:Int))] W (cI (eZ (UInt8.ofNat (16*n1+n2))) W)):=qa (fun W=>by
        have:=uS (UInt8.ofNat (16*n1+n2)) W;rwa [show(((UInt8.ofNat (16*n1+n2)).toNat:Nat):Int)=16*(n1:Int)+(n2:Int) by simp;omega]at this)
       generalize eZ (UInt8.ofNat (16*n1+n2))=on at*;have HD1:=qa hd1;have HD2:=qa hd2;clear hR2 hd1 hd2;go_enter func108,ntmps108
       go_wp2_with(first
        |((with_reducible refine(HN.o _ HE0.o.box).mono ?_);rintro e w1 ⟨rfl,hx⟩;have HE1:=qa (HE0.o.ext hx);have c1w:=HE1.o.box.c11;have f1w:=HE1.o.box.free 1;have HI:=qa HE1.o.inc2;have hlw:=HE1.o.set.lt;clear hx)
        |((with_reducible refine(HK.o _).mono ?_);rintro e w2 ⟨rfl,hx⟩;have HE2:=qa (HI.o.ext hx);have hba:=aA w2 (.cells Z 63);have HE3:=qa (HE2.o.below hba);have HN3:=qa (HNW.o w2);have hs2:=HE2.o.set.lt;clear hx hba)
        |(refine aF rfl _ _ rfl w2.heap.size rfl _ _ rfl HN3.o ?_;intro w3 hB2 hg2;have HE4:=qa (HE3.o.far hg2 (by omega) (by omega));have HN4:=qa hB2;clear hB2 hg2)
        |((with_reducible refine(HM.o _).mono ?_);rintro e w4 ⟨rfl,hx⟩;have HE5:=qa (HE4.o.ext hx);have cs5:=HE5.o.box.c0;clear hx)
        |((with_reducible refine(HDD.o d1 _).mono ?_);rintro e w6 ⟨rfl,hx⟩;have HE6:=qa (HE5.o.ext hx);have cs6:=HE6.o.box.c0;clear hx;rw[ho1,HD1.o])
        |((with_reducible refine(HDD.o d2 _).mono ?_);rintro e w7 ⟨rfl,hx⟩;have HE7:=qa (HE6.o.ext hx);have f17:=HE7.o.box.free 1;have c17:=HE7.o.box.c12;have HH:=qa (HE7.o.act HE7.o.box.hex.1 HE7.o.box.hex.2);clear hx;rw[ho2,HD2.o])
        |((with_reducible refine(HSI.o _).mono ?_);rintro e w8 ⟨rfl,hx⟩;have HE8:=qa (HH.o.ext hx);clear hx)
        |(refine aF rfl _ _ rfl w.heap.size rfl _ _ rfl HE8.o.set ?_;intro w9 hB2 hg2;have HE9:=qa (HE8.o.store hB2 hg2);clear hB2 hg2))
       refine aX (s:=2) (b:=3) (ad:=⟨w.heap.size,0,none⟩) (x:=cD on) (y:=.bool false) rfl rfl rfl rfl HE9.o.set.load ?_;rw[HR.o];exact⟨rfl,HE9.o.box,HE9.o.gr⟩
      rw[qr hok]at hR2;have HR:Hid (R=((0,false),bB 15 (z.p+1) (bI (bI z)))):=qa hR2;clear hR2
      have hoo:okD d1 16=false\/okD d1 16=true/\okD d2 16=false:=by
       cases h1:okD d1 16
       ·exact .inl rfl
       cases h2:okD d2 16
       ·exact .inr ⟨rfl,rfl⟩
       exact absurd ⟨h1,h2⟩ hok
      clear hok;have HD1:=qa (HDD.o d1);have HD2:=qa (HDD.o d2);clear HDD;generalize okD d2 16=o2 at*;generalize okD d1 16=o1 at*;rcases hoo with rfl|⟨rfl,rfl⟩
      all_goals
       go_enter func108,ntmps108
       go_wp2_with(first
        |((with_reducible refine(HN.o _ HE0.o.box).mono ?_);rintro e w1 ⟨rfl,hx⟩;have HE1:=qa (HE0.o.ext hx);have c1w:=HE1.o.box.c11;have f1w:=HE1.o.box.free 1;have HI:=qa HE1.o.inc2;have hlw:=HE1.o.set.lt;clear hx)
        |((with_reducible refine(HK.o _).mono ?_);rintro e w2 ⟨rfl,hx⟩;have HE2:=qa (HI.o.ext hx);have hba:=aA w2 (.cells Z 63);have HE3:=qa (HE2.o.below hba);have HN3:=qa (HNW.o w2);have hs2:=HE2.o.set.lt;clear hx hba)
        |(refine aF rfl _ _ rfl w2.heap.size rfl _ _ rfl HN3.o ?_;intro w3 hB2 hg2;have HE4:=qa (HE3.o.far hg2 (by omega) (by omega));have HN4:=qa hB2;clear hB2 hg2)
        |((with_reducible refine(HM.o _).mono ?_);rintro e w4 ⟨rfl,hx⟩;have HE5:=qa (HE4.o.ext hx);have cs5:=HE5.o.box.c0;clear hx)
        |((with_reducible refine(HD1.o _).mono ?_);rintro e w6 ⟨rfl,hx⟩;have HE6:=qa (HE5.o.ext hx);have cs6:=HE6.o.box.c0;clear hx)
        |((with_reducible refine(HD2.o _).mono ?_);rintro e w7 ⟨rfl,hx⟩;have HE7:=qa (HE6.o.ext hx);clear hx)
        |((with_reducible refine(HF.o _ _ HE7.o.box).mono ?_);rintro e w8 ⟨rfl,hB,hg⟩;have HE8:=qa (HE7.o.act hB hg);clear hB hg)
        |(refine aF rfl _ _ rfl w.heap.size rfl _ 0 HZV.o HE8.o.set ?_;intro w9 hB2 hg2;have HE9:=qa (HE8.o.store hB2 hg2);clear hB2 hg2))
       refine aX (s:=2) (b:=3) (ad:=⟨w.heap.size,0,none⟩) (x:=cD 0) (y:=.bool false) rfl rfl rfl rfl HE9.o.set.load ?_;rw[HR.o];exact⟨rfl,HE9.o.box,HE9.o.gr⟩
     have HR:Hid (R=((0,false),bB 15 (z.p+1) (bI (bI z)))):=qa (by
      have hXR:q1H (bys s) (z.p+1)=none:=by unfold q1H;rw[aP,qr (fun h=>hin h.1)]
      rw[hR2,hXR])
     clear hR2;have qkR:¬(z.p:Int)+1+2<(s.size:Int):=by omega
     go_enter func108,ntmps108
     go_wp2_with(first
       |((with_reducible refine(HN.o _ HE0.o.box).mono ?_);rintro e w1 ⟨rfl,hx⟩;have HE1:=qa (HE0.o.ext hx);have c1w:=HE1.o.box.c11;have f1w:=HE1.o.box.free 1;have HI:=qa HE1.o.inc2;have hlw:=HE1.o.set.lt;clear hx)
       |((with_reducible refine(HK.o _).mono ?_);rintro e w2 ⟨rfl,hx⟩;have HE2:=qa (HI.o.ext hx);have hba:=aA w2 (.cells Z 63);have HE3:=qa (HE2.o.below hba);have HN3:=qa (HNW.o w2);have hs2:=HE2.o.set.lt;clear hx hba)
       |(refine aF rfl _ _ rfl w2.heap.size rfl _ _ rfl HN3.o ?_;intro w3 hB2 hg2;have HE4:=qa (HE3.o.far hg2 (by omega) (by omega));have HN4:=qa hB2;clear hB2 hg2)
       |((with_reducible refine(HM.o _).mono ?_);rintro e w4 ⟨rfl,hx⟩;have HE5:=qa (HE4.o.ext hx);have cs5:=HE5.o.box.c0;clear hx)
       |((with_reducible refine(HF.o _ _ HE5.o.box).mono ?_);rintro e w5 ⟨rfl,hB,hg⟩;have HE6:=qa (HE5.o.act hB hg);clear hB hg)
       |(refine aF rfl _ _ rfl w.heap.size rfl _ 0 HZV.o HE6.o.set ?_;intro w6 hB2 hg2;have HE7:=qa (HE6.o.store hB2 hg2);clear hB2 hg2))
     exact ZmJ1
    rw[qr hx]at hR2;have HR:Hid (R=((0,false),bB 15 (z.p+1) (bI (bI z)))):=qa hR2;have hxn:¬c.toNat=120:=fun e=>hx (UInt8.toNat_inj.1 e);clear hR2 hx;go_enter func108,ntmps108
    go_wp2_with(first
     |((with_reducible refine(HN.o _ HE0.o.box).mono ?_);rintro e w1 ⟨rfl,hx⟩;have HE1:=qa (HE0.o.ext hx);have c1w:=HE1.o.box.c11;have f1w:=HE1.o.box.free 1;have HI:=qa HE1.o.inc2;have hlw:=HE1.o.set.lt;clear hx)
     |((with_reducible refine(HK.o _).mono ?_);rintro e w2 ⟨rfl,hx⟩;have HE2:=qa (HI.o.ext hx);have hba:=aA w2 (.cells Z 63);have HE3:=qa (HE2.o.below hba);have HN3:=qa (HNW.o w2);have hs2:=HE2.o.set.lt;clear hx hba)
     |(refine aF rfl _ _ rfl w2.heap.size rfl _ _ rfl HN3.o ?_;intro w3 hB2 hg2;have HE4:=qa (HE3.o.far hg2 (by omega) (by omega));have HN4:=qa hB2;clear hB2 hg2)
     |((with_reducible refine(HM.o _).mono ?_);rintro e w4 ⟨rfl,hx⟩;have HE5:=qa (HE4.o.ext hx);clear hx)
     |((with_reducible refine(HF.o _ _ HE5.o.box).mono ?_);rintro e w5 ⟨rfl,hB,hg⟩;have HE6:=qa (HE5.o.act hB hg);clear hB hg)
     |(refine aF rfl _ _ rfl w.heap.size rfl _ 0 HZV.o HE6.o.set ?_;intro w6 hB2 hg2;have HE7:=qa (HE6.o.store hB2 hg2);clear hB2 hg2))
    exact ZmJ1
theorem qay{w:World}{g:Nat}{s:ByteArray}{z:PS}(h:dJ w g s z)(hs:s.size<=1000000):
  Calls prog 141 #[.pointer (some ⟨g,0,none⟩)] w (mR (q4w (eQ (bys s) z)) g s (eQ (bys s) z).2 w):=by
 have hz:=gZ;obtain⟨Z,hZ⟩:∃Z,Z=z4:=⟨_,rfl⟩;rw[<-hZ]at hz;have HZV:Hid (Value.agg Z=cD 0):=qa (by rw[hZ];rfl);have HE0:Hid (Esc w (w.alloc (.cells Z 63)) g s z w.heap.size 0):=qa ⟨h.up (aA _ _),cL w Z hZ,aE (aA _ _) _,qb _,h.lt⟩;have HN:Hid (∀W,dJ W g s z->Calls prog 40 #[.pointer (some ⟨g,0,none⟩)] W fun e w'=>e=.returned (nxV (nxR (bys s) z))/\∃x,w'=ext W x):=qa (fun W h=>nxP h);have HF:Hid (∀W,dJ W g s z->Calls prog 41 #[.pointer (some ⟨g,0,none⟩),.int .i64 15,.int .i64 z.p] W (mR (.tuple #[]) g s (bB 15 z.p z) W)):=qa (fun W h=>uR h 15 z.p);obtain⟨R,hR⟩:∃R,R=eQ (bys s) z:=⟨_,rfl⟩;rw[<-hR];clear h hZ;cases hn:nxR (bys s) z with
 |none=>
  have HR:Hid (R=((0,false),bB 15 z.p z)):=qa (by rw[hR];unfold eQ;rw[hn]);rw[hn]at HN;unfold nxV at HN;clear hR hn;go_enter func141,ntmps141
  exact ZmJ0
 |some c=>
  obtain⟨hz0,hzp,-⟩:=dE hn;rw[aP]at hzp;have hR2:R=if c=92 then pG (bys s) z else if c=45 then((0,false),bB 15 z.p z)else((eZ c,false),bI z):=by rw[hR];unfold eQ;rw[hn]
  have HES:Hid (∀W,dJ W g s z->Calls prog 108 #[.pointer (some ⟨g,0,none⟩)] W (mR (q4w (pG (bys s) z)) g s (pG (bys s) z).2 W)):=qa (fun W h=>qax h hs hn);rw[hn]at HN;unfold nxV at HN;simp only[qJ,jV]at HN;clear hR hn hz0;by_cases h1:c=92
  ·rw[qt h1]at hR2
   have HR:=qa hR2;have hcb:((c.toNat:Int)==92)=true:=by rw[h1];rfl
   unfold q4w at HES;generalize pG (bys s) z=E at*;obtain⟨⟨a,b⟩,z1⟩:=E;simp only at HES;clear hR2 h1;go_enter func141,ntmps141
   go_wp2_with(first
    |((with_reducible refine(HN.o _ HE0.o.box).mono ?_);rintro e w1 ⟨rfl,hx⟩;have HE1:=qa (HE0.o.ext hx);clear hx)
    |((with_reducible refine(HES.o _ HE1.o.box).mono ?_);rintro e w2 ⟨rfl,hB,hg⟩;have HE2:=qa (HE1.o.act hB hg);clear hB hg)
    |(refine aF rfl _ _ rfl w.heap.size rfl _ a rfl HE2.o.set ?_;intro w3 hB2 hg2;have HE3:=qa (HE2.o.store hB2 hg2);clear hB2 hg2))
   refine aX (s:=2) (b:=3) (ad:=⟨w.heap.size,0,none⟩) (x:=cD a) (y:=.bool b) rfl rfl rfl rfl HE3.o.set.load ?_;rw[HR.o];exact⟨rfl,HE3.o.box,HE3.o.gr⟩
  rw[qr h1]at hR2;have k1:¬c.toNat=92:=fun e=>h1 (UInt8.toNat_inj.1 e);clear h1 HES;by_cases h2:c=45
  ·rw[qt h2]at hR2
   have HR:=qa hR2;have hcb:((c.toNat:Int)==45)=true:=by rw[h2];rfl
   clear hR2 h2;go_enter func141,ntmps141
   exact ZmJ0
  rw[qr h2]at hR2;have HR:=qa hR2;have k2:¬c.toNat=45:=fun e=>h2 (UInt8.toNat_inj.1 e);have HSI:Hid (∀W,Calls prog 113 #[.int .u8 (c.toNat:Nat)] W (cI (eZ c) W)):=qa (fun W=>uS c W);generalize eZ c=on at*;clear hR2 h2 HF;go_enter func141,ntmps141
  go_wp2_with(first
   |((with_reducible refine(HN.o _ HE0.o.box).mono ?_);rintro e w1 ⟨rfl,hx⟩;have HE1:=qa (HE0.o.ext hx);have c1:=HE1.o.box.c1;have f1:=HE1.o.box.free 1;have HI:=qa HE1.o.inc;clear hx)
   |((with_reducible refine(HSI.o _).mono ?_);rintro e w2 ⟨rfl,hx⟩;have HE2:=qa (HI.o.ext hx);clear hx)
   |(refine aF rfl _ _ rfl w.heap.size rfl _ on rfl HE2.o.set ?_;intro w3 hB2 hg2;have HE3:=qa (HE2.o.store hB2 hg2);clear hB2 hg2))
  refine aX (s:=2) (b:=3) (ad:=⟨w.heap.size,0,none⟩) (x:=cD on) (y:=.bool false) rfl rfl rfl rfl HE3.o.set.load ?_;rw[HR.o];exact⟨rfl,HE3.o.box,HE3.o.gr⟩
end Go.Cm
