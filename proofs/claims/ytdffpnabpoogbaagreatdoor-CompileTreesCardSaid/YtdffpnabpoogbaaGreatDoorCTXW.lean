/- Walks of functions and plain facts, joined and squeezed by a program. Conditions: as each says. -/
import Derived.Test.YtdffpnabpoogbaaGreatDoorCTXU
import Derived.Test.YtdffpnabpoogbaaGreatDoorCTXP
import Derived.Test.YtdffpnabpoogbaaGreatDoorCTXV
set_option maxHeartbeats 8000000
set_option maxRecDepth 100000
set_option linter.unusedSimpArgs false
open Go.Proofs.Tryz
namespace Go.Cm
open Go.RowKit Go.Proofs Go.Maps
def q22(l:List Nat):List Value:=l.map fun c:Nat=>.int .u8 (c:Int)
theorem q0X(l:List Nat):(q22 l).length=l.length:=qy _
theorem q5y{l:List Nat}{k:Nat}(h:k<l.length):(q22 l).getD k undef=.int .u8 (l.getD k 0:Nat):=by simp[q22,List.getD,h]
theorem q5z(l:List Nat)(k c:Nat):(q22 l).set k (.int .u8 (c:Int))=q22 (l.set k c):=by simp[q22,a9]
theorem q5A(n:Nat):List.replicate n (Value.int .u8 0)=q22 (List.replicate n 0):=by simp[q22,List.map_replicate]
def q6r(e:List (List Ed))(F:Int)(r:List Int)(w:World)(en:Ending)(w':World):Prop:=
 ∃v,en=.returned (.tuple #[v,.int .i64 (xU e F r)])/\pS w' v (z6 e F r)/\Below w.heap.size w w'
theorem q5B{w:World}{A:Array Value}{e:List (List Ed)}{F:Int}{r:List Int}(h:zW w A e F r)(hw:∀a x,x∈Row e a->EdW x)(ht:tot e<=1000000):
  Calls prog 196 #[.agg A] w (q6r e F r w):=by
 have HH:=qa h;obtain⟨ve,vr,rfl,he,hr⟩:=h;obtain⟨oe,ce,be,fe,rfl,-,-⟩:=he.open;obtain⟨orr,cr,br,fr,rfl,-,-⟩:=hr.open;obtain⟨n,hn⟩:∃n,n=e.length:=⟨_,rfl⟩;obtain⟨m,hm⟩:∃m,m=r.length:=⟨_,rfl⟩;rw[<-hn,<-hm]at HH⊢;have hz:=nA;have hzc:=q0n;obtain⟨ZC,hZC⟩:∃ZC,ZC=q8d:=⟨_,rfl⟩;rw[<-hZC]at hzc;have HBZ:Hid (∀w:World,tH (w.alloc (.cells ZC 37)) 37 256 w.heap.size (List.replicate 256 0)):=qa (fun w=>q9Z w ZC hZC);have hbd:=oE;obtain⟨Z,hZ⟩:∃Z,Z=rN:=⟨_,rfl⟩;rw[<-hZ]at hz hbd;have HBW:Hid (∀w:World,lA (w.alloc (.cells Z 41)) w.heap.size (.slice none 0 0) (.slice none 0 0) (List.replicate 256 0)):=qa (fun w=>by rw[hZ];exact nB w);have HZL:Hid (Z.toList=ints (List.replicate 256 0)++[Value.slice none 0 0,Value.slice none 0 0]):=qa (by rw[hZ];exact iE);have hsA:(w.alloc (.cells #[.slice oe n ce,.int .i64 F,.slice orr m cr] 209)).heap.size=w.heap.size+1:=by simp
 have hbx:Own (w.alloc (.cells #[.slice oe n ce,.int .i64 F,.slice orr m cr] 209)) 0 209 (.slice (some ⟨w.heap.size,0,none⟩) 3 3) [.slice oe n ce,.int .i64 F,.slice orr m cr]:=by simpa using bU w 0 #[.slice oe n ce,.int .i64 F,.slice orr m cr] 209 (by simp) (qd _)
 have hb1:=nB (w.alloc (.cells #[.slice oe n ce,.int .i64 F,.slice orr m cr] 209));rw[hsA,<-hZ]at hb1;have HB1:=qa hb1;have HBX:=qa (hbx.up (aA _ (.cells Z 41)));have HA:Hid (Below w.heap.size w ((w.alloc (.cells #[.slice oe n ce,.int .i64 F,.slice orr m cr] 209)).alloc (.cells Z 41))):=qa aJ;have hs3:((w.alloc (.cells #[.slice oe n ce,.int .i64 F,.slice orr m cr] 209)).alloc (.cells Z 41)).heap.size=w.heap.size+2:=by simp
 have HCL:=qa (q57 (HH.o.up HA.o) hw ht);unfold q2W at HCL;have HBN:=qa (q3T (q1x e F r) (q0o e F r));have HCN:Hid ((dZ e F r=true->q1x e F r=gD e/\q2V e F r=(aZ e).length)/\(dZ e F r=false->q2V e F r=0)):=qa ⟨fun h=>⟨by unfold q1x;rw[qt h],by unfold q2V;rw[qt h]⟩,fun h=>by unfold q2V;rw[qr (by rw[h];decide)]⟩;have qf0:Hid ((q1x e F r).length=256):=qa (q0o e F r);obtain⟨CO,hCO⟩:∃CO,CO=q1x e F r:=⟨_,rfl⟩;obtain⟨KO,hKO⟩:∃KO,KO=q2V e F r:=⟨_,rfl⟩;rw[<-hCO,<-hKO]at HCN HCL;rw[<-hCO]at HBN qf0;clear he hr hn hm hbx hb1 hsA hZ hZC hw ht hCO hKO;by_cases hrt:dZ e F r=true
 ·obtain⟨h1,h2⟩:=HCN.o.1 hrt
  have hK1:1<=KO:=by rw[h2];exact q1u _
  have hK2:KO<=256:=by rw[h2];exact uF _
  have HKO:=qa h2;have HCO:=qa h1;have HRT:=qa hrt;have hk0:((KO:Int)==0)=false:=by simp;omega
  have qkJ:decide ((KO:Int)=0)=false:=by simp;omega
  have hmk:∀W:World,(Instr.makeSlice 143 (.int .i64 KO) (.int .i64 KO)).run prog W=.ok (.slice (some ⟨W.heap.size,0,none⟩) KO KO) (W.alloc (.cells (madeCells #[Value.int .u8 0] KO) 5)):=wX (P:=prog) 143 5 (.int .u8 0) 1 KO underlying143 (by kernel_rfl) rfl (by decide) (by omega);have HBD:=qa hbd;clear HCN h1 h2 hrt hbd;go_enter func196,ntmps196
  go_upto_region 6 with(first
   |(refine aH rfl 209 _ rfl w.heap.size 0 3 rfl _ _ (o8 HBX.o) rfl underlying209 rfl (by kernel_rfl) ?_)
   |((with_reducible go_at_call 197);refine HCL.o.mono ?_;rintro en w1 ⟨rfl,hb1⟩;have HE1:=qa (hb1.trans ((aA w1 (.cells ZC 37)).mono hb1.size));have hs1:=hb1.size;clear hb1)
   |(refine kT rfl 37 256 _ _ rfl w1.heap.size rfl _ CO rfl qf0.o (by kernel_rfl) (HBZ.o w1) ?_;intro w2 hb2 hg2;have HB2:=qa hb2;have HE2:=qa (HE1.o.grown hg2 HE1.o.size (fun k hk=>by cases hk;exact hs1));clear hb2 hg2))
  have HAW:=qa (HA.o.trans (HE2.o.mono HA.o.size));have qci:=qa (HB1.o.up HE2.o);have qbm:=qa (HBX.o.up HE2.o);have hs2:=HE2.o.size;rw[hs3]at hs1 hs2;have hp4:w1.heap.size<w2.heap.size:=HB2.o.lt;have hl3:Below w2.heap.size w2 (w2.alloc (.cells (madeCells #[Value.int .u8 0] KO) 5)):=aA _ _;have qgq:=qa (HAW.o.trans (hl3.mono (by omega)));have qf6:=qa (qci.o.up hl3);have qds:=qa (qbm.o.up hl3);have qdu:=qa (HB2.o.up hl3);have HOF:=qa (vZ w2 w2.heap.size 5 (.int .u8 0) KO (qb _) (by omega));rw[q5A]at HOF;have hs4:(w2.alloc (.cells (madeCells #[Value.int .u8 0] KO) 5)).heap.size=w2.heap.size+1:=by simp
  clear HE1 HE2 HB1 HBX qci qbm HAW HA hl3 HCL HBZ hmk hzc hs3 HB2;generalize (w2.alloc (.cells (madeCells #[Value.int .u8 0] KO) 5))=w3 at*;obtain⟨pf,hpf⟩:∃pf,pf=w2.heap.size:=⟨_,rfl⟩;obtain⟨p4,qgK⟩:∃p4,p4=w1.heap.size:=⟨_,rfl⟩;rw[<-hpf]at HOF⊢;rw[<-qgK]at qdu⊢;have HPO:Hid (w.heap.size+2<=p4/\p4<pf/\pf<w3.heap.size):=qa (by omega);clear hpf qgK hs1 hs2 hs4 hp4;have HFZ:Hid (uI e 256 (List.replicate KO 0)):=qa (by rw[HKO.o];exact z7 e)
  go_loopg [7] 256 (fun gk iv wr=>∃(c:Nat) (l:List Nat),iv=.int .i64 ((c:Int)-1)/\c<=256/\Own wr pf 5 (.slice (some ⟨pf,0,none⟩) KO KO) (q22 l)/\uI e c l/\w3.grownBy wr (some pf)/\gk=c)
  case atStart=>exact⟨256,_,rfl,qb _,HOF.o,HFZ.o,cW _ _,rfl⟩
  case round=>
   obtain⟨c,l,rfl,hc,hown,hfo,hgr,rfl⟩:=hrel;have HOW:=qa hown;have HFO:=qa hfo;have HG:=qa hgr;clear hown hfo hgr HOF HFZ;cases gk with
   |zero=>
    rw[show((0:Nat):Int)-1= -1 from rfl];have hle:=q37 HFO.o;have HOF:=HOW;rw[hle]at HOF;have qih:=qa (qdu.o.keep HG.o (by intro hh;injection hh with hh;have:=HPO.o;omega));have qbQ:=qa (qds.o.keep HG.o (.inr (by intro hh;simp[Value.ownBlock]at hh;have:=HPO.o;omega)));have qii:=qa (qf6.o.keep HG.o (by intro hh;injection hh with hh;have:=HPO.o;omega));have qf7:=qa (qgq.o.grown HG.o qgq.o.size (fun k hk=>by injection hk with hk;have:=HPO.o;omega));have HP4:Hid (w.heap.size+2<=p4/\p4<pf/\pf<wr.heap.size):=qa (by have:=HPO.o;have:=HG.o.size;omega);have hmm:=@run_makeMap prog;clear hle HOW HFO hc qdu qds qf6 qgq HPO HG l;obtain⟨w4,rfl⟩:∃w4:World,w4=wr:=⟨_,rfl⟩;have qhJ:=qa (HH.o.up qf7.o)
    go_upto_region 10 with(refine aH rfl 209 _ rfl w.heap.size 0 3 rfl _ _ (o8 qbQ.o) rfl underlying209 rfl (by kernel_rfl) ?_)
    have HFR:Hid (∀x,Below w4.heap.size w4 x->Below w.heap.size w x):=qa (fun x hx=>qf7.o.trans (hx.mono qf7.o.size));have HNV:Hid (∀x,Below w4.heap.size w4 x->zW x #[.slice oe n ce,.int .i64 F,.slice orr m cr] e F r):=qa (fun x hx=>qhJ.o.up hx);have HXC:Hid (∀x,Below w4.heap.size w4 x->∀c,c<3->x.cell? ⟨w.heap.size,0+c,none⟩=some ((#[.slice oe n ce,.int .i64 F,.slice orr m cr]:Array Value).getD c undef)):=qa (fun x hx=>o8 (qbQ.o.up hx));have HR1:Hid (∀x,Below w4.heap.size w4 x->lA x (w.heap.size+1) (.slice none 0 0) (.slice none 0 0) (List.replicate 256 0)):=qa (fun x hx=>qii.o.up hx);have HC4:Hid (∀x,Below w4.heap.size w4 x->tH x 37 256 p4 CO):=qa (fun x hx=>qih.o.up hx)
    have HFI:Hid (∀x,Below w4.heap.size w4 x->∀k,k<KO->x.cell? ⟨pf,k,none⟩=some (.int .u8 ((aZ e).getD k 0:Nat))):=qa (fun x hx k hk=>by
     have hl:(q22 (aZ e)).length=KO:=by rw[q0X,HKO.o]
     rw[(HOF.o.up hx).cell (i:=k) (by omega),q5y (by rw[<-HKO.o];exact hk)])
    have HMK:Hid (MkN ((w4.alloc (.map #[] 0)).alloc (.cells #[.slice oe n ce,.int .i64 F,.slice orr m cr,.slice none 0 0,.map (some w4.heap.size)] 248)) w4.heap.size (w4.heap.size+1) w4.heap.size (.slice oe n ce) (.slice orr m cr) F (.slice none 0 0) [] []):=qa (by
     have h1:=bU (w4.alloc (.map #[] 0)) w4.heap.size #[.slice oe n ce,.int .i64 F,.slice orr m cr,.slice none 0 0,.map (some w4.heap.size)] 248 (by simp) (by simp);have h2:eG prog 9 3 q8c (w4.alloc (.map #[] 0)) w4.heap.size (([]:List (List Nat)).map gE):=eG.made w4 q8c;have hs:(w4.alloc (.map #[] 0)).heap.size=w4.heap.size+1:=by simp
     rw[hs]at h1;exact⟨h1,dV.nil _ _ _ _,h2.up (aA _ _),qb _,by omega,⟨fun _ hk=>by simp[Value.ownBlock]at hk,fun i hi=>absurd hi (qz i)⟩,⟨fun _ hk=>by simp[Value.ownBlock]at hk,fun i hi=>absurd hi (qz i)⟩⟩)
    have HL5:Hid (Below w4.heap.size w4 ((w4.alloc (.map #[] 0)).alloc (.cells #[.slice oe n ce,.int .i64 F,.slice orr m cr,.slice none 0 0,.map (some w4.heap.size)] 248))):=qa aJ;have hs5:((w4.alloc (.map #[] 0)).alloc (.cells #[.slice oe n ce,.int .i64 F,.slice orr m cr,.slice none 0 0,.map (some w4.heap.size)] 248)).heap.size=w4.heap.size+2:=by simp
    clear qih qbQ qii qf7 hmm qhJ HOF HH;generalize hB:w4.heap.size=B at*;generalize ((w4.alloc (.map #[] 0)).alloc (.cells #[.slice oe n ce,.int .i64 F,.slice orr m cr,.slice none 0 0,.map (some B)] 248))=w5 at*;have HBB:=qa hB;have hpB:p4<B/\pf<B/\w.heap.size+2<=B:=by have:=HP4.o;omega
    clear hB;have hl6:Below w5.heap.size w5 (w5.alloc (.cells #[.int .i64 F] 3)):=aA _ _;have qfo:=HL5.o.trans (hl6.mono (by omega));have hs6:(w5.alloc (.cells #[.int .i64 F] 3)).heap.size=w5.heap.size+1:=by simp
    have HSF:Hid (eE (w5.alloc (.cells #[.int .i64 F] 3)) (.slice (some ⟨w5.heap.size,0,none⟩) 1 1) [F]):=qa (show Sl (w5.alloc (.cells #[.int .i64 F] 3)) (.slice (some ⟨w5.heap.size,0,none⟩) 1 1) [.int .i64 F]from by simpa using dY w5 #[.int .i64 F] 3 (by simp));have qgi:=qa (q4X (HNV.o _ qfo) HSF.o);have qhK:=qa (HMK.o.up hl6);have HL6:=qa qfo;have hL2:=X0 (by have:=o6 HRT.o;omega:e.length<=3000) (R:=[O0 e F r [F]]) (fun x hx=>by rw[List.mem_singleton.1 hx];exact q38 e F r [F]) _ je;have HGZ:=qa (q3a e F r);obtain⟨L0,hL0⟩:∃L0,L0=O0 e F r [F]:=⟨_,rfl⟩;rw[<-hL0]at hL2 HGZ qgi
    have qep:Hid (∀w7 u,Below (w5.alloc (.cells #[.int .i64 F] 3)).heap.size (w5.alloc (.cells #[.int .i64 F] 3)) w7->Own w7 (w5.alloc (.cells #[.int .i64 F] 3)).heap.size 3 u (ints (nz L0))->
      Calls prog 198 #[.pointer (some ⟨B+1,0,none⟩),u] w7 fun en w'=>(∃k:Nat,en=.returned (.int .i64 k))/\∃lv' vs',MkN w' B (B+1) B (.slice oe n ce) (.slice orr m cr) F lv' vs' [L0]/\Gw (U1 (B+1) B (.slice none 0 0)) w7 (U1 (B+1) B lv') w'):=qa (fun w7 u hb hu=>(q2S qhK.o hb hu (fun L hL=>by cases hL) hL2 (by simp)).mono (by
       rintro en w' ⟨h1,lv',vs',h2,h3,-⟩;exact⟨⟨_,h1⟩,lv',vs',h2,h3⟩))
    clear hL0 hL2;have qib:=qa (HXC.o w5 HL5.o);have x1:=HXC.o w5 HL5.o 1 (by omega);simp at x1;have hw0:w.heap.size<w5.heap.size:=by omega
    have HS5:=qa hs5;clear hl6 qfo HSF HMK HL5 hs5 hs6
    go_upto_region 11 with(first
     |(refine aH rfl 209 _ rfl w.heap.size 0 3 rfl _ _ qib.o rfl underlying209 rfl (by kernel_rfl) ?_)
     |((with_reducible go_at_call 199);(with_reducible refine qgi.o.mono ?_);rintro en w7 ⟨u,rfl,hown,hbl⟩;have HU:=qa hown;have HB7:=qa hbl;clear hown hbl)
     |((with_reducible go_at_call 198);(with_reducible refine(qep.o _ _ HB7.o HU.o).mono ?_);rintro en w8 ⟨⟨k8,rfl⟩,lv,vs,qdQ,hg8⟩;have HM8:=qa qdQ;have HG8:=qa hg8;clear qdQ hg8))
    have HF8:Hid (Below B w4 w8):=qa ((HL6.o.trans (HB7.o.mono (by have:=HS5.o;have:=HL6.o.size;have:=HBB.o;omega))).trans (HG8.o.below (by have:=HS5.o;have:=HB7.o.size;have:=HL6.o.size;have:=HBB.o;omega) (fun k hk=>by
     rcases hk with rfl|rfl|hk
     ·omega
     ·exact qb _
     simp[Value.ownBlock]at hk)))
    obtain⟨A,hgA,qgB,hA⟩:=(HC4.o _ HF8.o).open;have hAe:A=(ints CO).toArray:=qW List.toArray hA;obtain⟨D,hbc,hDl⟩:=HBN.o;rw[<-hAe]at hbc;have HBC:=qa hbc;clear hbc;have HDL:=qa hDl;have qhv:=qa (HBW.o w8);have hB8:B<=w8.heap.size:=by have:=HF8.o.size;have:=HBB.o;omega
    clear hA hAe hDl qib x1 qgi qep qhK HL6 HS5 HB7 HG8 HBN HBW HC4 HU
    go_upto_region 13 with(first
     |(refine oX rfl 37 256 _ rfl p4 rfl A qgB hgA _ underlying37 rfl (by kernel_rfl) ?_)
     |(refine iO rfl 41 _ rfl #[(0,.agg A)] (by first|kernel_rfl|rfl|(simp;rfl)) D HBC.o ?_)
     |(refine iX rfl _ _ rfl w8.heap.size rfl D rfl HDL.o qf0.o rfl rfl qhv.o ?_;intro w9 hb9 hg9;have HB9:=qa hb9;have HG9:=qa hg9;clear hb9 hg9))
    have hl9:Below w8.heap.size w8 (w8.alloc (.cells Z 41)):=aA _ _;have qg9:=qa (hl9.grown HG9.o hl9.size (fun k hk=>by injection hk with hk;omega));have HF9:=qa (HF8.o.trans (qg9.o.mono hB8));obtain⟨g,hg⟩:∃g,g=w8.heap.size:=⟨_,rfl⟩;rw[<-hg]at HB9⊢;have HGG:Hid (g=w8.heap.size):=qa hg;have hBg:B<=g:=by omega
    have HBO:Hid (lX w9 B (B+1) B (.slice oe n ce) (.slice orr m cr) F lv vs [L0] g (.slice none 0 0) [] (.slice none 0 0) CO [] []):=qa (by
     have hnf:dV.free (.slice none 0 0) [] (some g):=⟨fun _ hk=>by simp[Value.ownBlock]at hk,fun i hi=>absurd hi (qz i)⟩;refine⟨HM8.o.up qg9.o,⟨HB9.o,hBg,dV.nil _ _ _ _,Own.nil _ _ _,hnf,by simp[Value.ownBlock],dV.free_none⟩,fun k hk hd=>?_⟩;have hk8:=(HM8.o.ltF k hk).2;rcases hd with hd|hd|hd
     ·omega
     ·simp[Value.ownBlock]at hd
     exact hd ⟨fun _ hk=>by simp[Value.ownBlock]at hk,fun i hi=>absurd hi (qz i)⟩)
    clear hg qg9 hl9 HG9 HB9 HM8 HF8 hgA qgB HBC HDL qhv hB8 HGG
    go_loopg [10] 1001 (fun gk iv wr=>∃(i:Nat) (R:List (List Nat)) (lv:Value) (vs:List Value) (nv:Value) (nvs:List Value) (rv:Value),iv=.int .i64 i/\q4v e F r i R/\lX wr B (B+1) B (.slice oe n ce) (.slice orr m cr) F lv vs R g nv nvs rv CO (nK e F r R i) (fP r R i)/\Below B w4 wr/\gk=1001-i)
    case atStart=>exact⟨0,[L0],lv,vs,_,_,_,rfl,HGZ.o,by simpa[nK,fP]using HBO.o,HF9.o,rfl⟩
    case round=>
     obtain⟨i,R,lv,vs,nv,nvs,rv,rfl,hgo,hbo,hbl,rfl⟩:=hrel;have HGO:=qa hgo;have HBT:=qa hbo;have HF:=qa hbl;clear hgo hbo hbl HBO HF9 HGZ;obtain⟨og,cg,gg,hlv,-⟩:=HBT.o.mkr.lists.outer.cases;have hvl:=HBT.o.mkr.lists.len;rw[l9]at hvl;rw[hvl]at hlv;subst hlv;obtain⟨-,-,-,c3,-,hq⟩:=HBT.o.mkr.c;by_cases hlt:i<R.length
     ·have d0:decide ((i:Int)<R.length)=true:=by simp;omega
      have hmk:∀W:World,(Instr.makeSlice 39 (.int .i64 KO) (.int .i64 KO)).run prog W=.ok (.slice (some ⟨W.heap.size,0,none⟩) KO KO) (W.alloc (.cells (madeCells #[Value.int .i64 0] KO) 3)):=wX (P:=prog) 39 3 (.int .i64 0) 8 KO underlying39 (by kernel_rfl) rfl (by decide) (by omega);have hBw:B<=wr.heap.size:=by have:=HF.o.size;have:=HBB.o;omega
      have hlk:Below wr.heap.size wr (wr.alloc (.cells (madeCells #[Value.int .i64 0] KO) 3)):=aA _ _;have qda:=qa (vZ wr B 3 (.int .i64 0) KO hBw (by omega));rw[show List.replicate KO (Value.int .i64 0)=ints (lS e F r i R 0) by rw[(q0y e F r i R).2,HKO.o];simp[ints,List.map_replicate]]at qda;have qgm:=qa (HBT.o.up hlk);rw[<-(q0y e F r i R).1]at qgm;have HF0:=qa (HF.o.trans (hlk.mono hBw));have HNM:Hid (¬MkF (B+1) B (.slice og R.length cg) vs wr.heap.size):=qa (fun hk=>by have:=(HBT.o.mkr.ltF _ hk).2;omega);have HND:Hid (¬DbF g nv nvs rv wr.heap.size):=qa (fun hk=>by have:=(HBT.o.db.ltF _ hk).2;omega);have HBR:Hid (B<=wr.heap.size):=qa hBw;clear hlk hBw HBT HF hvl
      go_upto_region 17 with(fail)
      generalize (wr.alloc (.cells (madeCells #[Value.int .i64 0] KO) 3))=wk at*;obtain⟨br,hbr⟩:∃br,br=wr.heap.size:=⟨_,rfl⟩;rw[<-hbr]at qda HNM HND HBR⊢;clear hbr hmk c3 hq
      go_loopg [61] KO (fun gk jv wr=>∃(j:Nat) (lv:Value) (vs:List Value),jv=.int .i64 j/\j<=KO/\lX wr B (B+1) B (.slice oe n ce) (.slice orr m cr) F lv vs (rO e F r i R j) g nv nvs rv CO (nK e F r R i) (fP r R i)/\Own wr B 3 (.slice (some ⟨br,0,none⟩) KO KO) (ints (lS e F r i R j))/\¬MkF (B+1) B lv vs br/\Below B w4 wr/\gk=KO-j)
      case atStart=>exact⟨0,_,_,rfl,qd _,qgm.o,qda.o,HNM.o,HF0.o,rfl⟩
      case round=>
       obtain⟨j,lv,vs,rfl,hj,hbo,hrw,hnm,hbl,rfl⟩:=hrel;have HBT:=qa hbo;have HRW:=qa hrw;have HNM:=qa hnm;have HF:=qa hbl;clear hbo hrw hnm hbl qgm qda HF0;by_cases qbj:j<KO
       ·have hjh:j<(aZ e).length:=by rw[<-HKO.o];exact qbj
        obtain⟨og,cg,gg,hlv,-⟩:=HBT.o.mkr.lists.outer.cases;have hvl:=HBT.o.mkr.lists.len;rw[l9]at hvl;rw[hvl]at hlv;subst hlv;obtain⟨oa,cap,b,off,hle,hd,hrs⟩:=HBT.o.mkr.lists.rowsG.open;rw[l9]at hle hd hrs;injection hle with hle1 hle2 hle3;subst hle1 hle3;clear hle2;obtain⟨kt,hkt⟩:=q76 e F r i R j;have hgi:(rO e F r i R j).getD i []=R.getD i []:=by rw[hkt,bS hlt]
        have him:i<(rO e F r i R j).length:=by rw[hkt,qi];omega
        obtain⟨oi,ci,bi,fi,hcell,hdi,-,hsi⟩:=hrs i him;have hix:=aU (P:=prog) 38 39 underlying38 (by kernel_rfl) hd;have qbi:∀W,(Instr.indexAt 38 (.slice og (rO e F r i R j).length cg) (.int .i64 (i:Int))).run prog W=.ok (.pointer (some ⟨b,off+i,none⟩)) W:=fun W=>by simpa using hix W .i64 i (by omega) (by omega)
        have hbb:=hd.hblk (by omega);rw[A3 him,hgi]at hcell hdi hsi;obtain⟨nl,hnl⟩:∃nl,nl=(ints (nz (R.getD i []))).length:=⟨_,rfl⟩;rw[<-hnl]at hcell hdi hsi;clear hnl;have HC1:=qa (fun(x:World) (hx:Below B w4 x)=>HXC.o x (hx.mono (by have:=HBB.o;omega)));have HMS:=qa (q59 e F r i R hjh);have qfE:(aZ e).getD j 0<256:=zZ (dH _ _ _ hjh);have hcc:=HFI.o _ HF.o j qbj;have HTW:=qa (X0 (by have:=o6 HRT.o;omega:e.length<=3000) (q8D (F:=F) (r:=r) (i:=i) HGO.o.ok j));have HT2:=qa (X0 (by have:=o6 HRT.o;omega:e.length<=3000) (fun x hx=>by rw[List.mem_singleton.1 hx];exact q0w e F r (nz (R.getD i [])) ((aZ e).getD j 0):∀x∈[mL e F r (nz (R.getD i [])) ((aZ e).getD j 0)],OkL e.length x) _ je);have HLN:Hid ((rO e F r i R j).length<=100000):=qa (by have:=q3b e F r i R j (by omega);have:=HGO.o.len;omega);have hBw:B<=wr.heap.size:=by have:=HF.o.size;have:=HBB.o;omega
        have HF1:=qa (HF.o.trans ((show Below wr.heap.size wr wr.drew from by rw[World.drew_is_drewN];exact aN wr 1).mono hBw));have qgl:=qa (HBT.o.up (show Below wr.heap.size wr wr.drew from by rw[World.drew_is_drewN];exact aN wr 1));have qdo:=qa (q52 (HNV.o wr.drew HF1.o) (v:=.slice oi nl ci) (st:=nz (R.getD i [])) (hsi.up (show Below wr.heap.size wr wr.drew from by rw[World.drew_is_drewN];exact aN wr 1)) _ qfE);generalize (aZ e).getD j 0=c at*;generalize mL e F r (nz (R.getD i [])) c=X at*
        have qep:Hid (∀w7 u,Below wr.drew.heap.size wr.drew w7->Own w7 wr.drew.heap.size 3 u (ints (nz X))->
          Calls prog 198 #[.pointer (some ⟨B+1,0,none⟩),u] w7 fun en w'=>en=.returned (.int .i64 (idx (aW (rO e F r i R j) X) X:Nat))/\∃lv' vs',MkN w' B (B+1) B (.slice oe n ce) (.slice orr m cr) F lv' vs' (aW (rO e F r i R j) X)/\Gw (U1 (B+1) B (.slice og (rO e F r i R j).length cg)) w7 (U1 (B+1) B lv') w'/\(∀k,k<wr.drew.heap.size->dV.free (.slice og (rO e F r i R j).length cg) vs (some k)->dV.free lv' vs' (some k))):=qa (fun w7 u hb hu=>q2S qgl.o.mkr hb hu HTW.o HT2.o HLN.o)
        generalize idx (aW (rO e F r i R j) X) X=kx at*;generalize hR':aW (rO e F r i R j) X=R' at*;obtain⟨c0,c1,c2,c3,-,hq⟩:=HBT.o.mkr.c;have qiY:=HC1.o _ HF.o
        have HXQ:Hid (∀w',(∃y,w'=ext wr y)->∀c,c<3->w'.cell? ⟨w.heap.size,0+c,none⟩=some ((#[.slice oe n ce,.int .i64 F,.slice orr m cr]:Array Value).getD c undef)):=qa (by
         rintro w' ⟨y,rfl⟩;exact HC1.o _ (HF.o.trans ((aD wr y).mono hBw)))
        have hpw:pf<wr.heap.size:=by omega
        have hw0:w.heap.size<wr.heap.size:=by omega
        have qeP:=HTW;clear hrs hix hd hdi hsi hkt hgi qiY c0 c1 c2 HTW qeP HT2 HLN hR' hvl HXQ;go_wp2;refine iC (C:=fun w'=>Below B w4 w') (.q 0 (.q 1 (.q 2 (.q 3 (.q 4 (.q 8 (.q 11 (.br 5 (.br 6 (.br 7 (.br 9 (.br 10 (.br 12 (.br 13 (.br 14 (.br 15 .done .no) .no) .no) .no) .no) .no) .no) .no) .no)))))))) (by kernel_rfl) (by kernel_rfl) HF1.o ?_
        (repeat((unfold bF;simp only[pk]);(first|(go_big_quiet_want;refine dO 209 3 _ rfl w.heap.size 0 rfl #[.slice oe n ce,.int .i64 F,.slice orr m cr] rfl HC1.o _ underlying209 rfl (by kernel_rfl) ?_;go_simp;go_big_quiet_on)|go_big_quiet_step (fail));refine wpQuiet_nil ?_))
        have c3d:wr.drew.cell? ⟨B+1,3,none⟩=_:=c3;have qe0:wr.drew.cell? ⟨b,off+i,none⟩=_:=hcell;have hqd:B+1<wr.drew.heap.size:=hq;have qjm:b<wr.drew.heap.size:=hbb;have qdp:Hid (Own wr.drew B 3 (.slice (some ⟨br,0,none⟩) KO KO) (ints (lS e F r i R j))):=qa (HRW.o.up (show Below wr.heap.size wr wr.drew from by rw[World.drew_is_drewN];exact aN wr 1));clear c3 hcell hq hbb HRW HBT HF hcc hpw hw0;generalize wr.drew=wd at*
        ((unfold bF;simp only[pk]);refine⟨?_,by unfold bF;exact True.intro⟩;unfold aG;go_wp2;refine⟨HF1.o,?_⟩;unfold aG)
        ((unfold bF;simp only[pk]);refine⟨?_,by unfold bF;exact True.intro⟩;unfold aG;go_wp2;refine⟨HF1.o,?_⟩;unfold aG)
        ((unfold bF;simp only[pk]);refine⟨?_,by unfold bF;exact True.intro⟩;unfold aG;go_wp2;refine⟨HF1.o,?_⟩;unfold aG)
        ((unfold bF;simp only[pk]);refine⟨?_,by unfold bF;exact True.intro⟩;unfold aG;go_wp2;refine⟨HF1.o,?_⟩;unfold aG)
        ((unfold bF;simp only[pk]);refine⟨?_,by unfold bF;exact True.intro⟩;unfold aG;go_wp2;refine⟨HF1.o,?_⟩;unfold aG)
        ((unfold bF;simp only[pk]);refine⟨?_,by unfold bF;exact True.intro⟩;unfold aG)
        have hBd:B<=wd.heap.size:=by omega
        go_wp2_with((with_reducible go_at_call 200);(with_reducible refine qdo.o.mono ?_);rintro en w7 ⟨u,rfl,hown,hbl⟩;have HU:=qa hown;have HB7:=qa hbl;clear hown hbl)
        have HF7:=qa (HF1.o.trans (HB7.o.mono hBd));refine⟨HF7.o,?_⟩;unfold aG
        ((unfold bF;simp only[pk]);refine⟨?_,by unfold bF;exact True.intro⟩;unfold aG)
        go_wp2_with((with_reducible go_at_call 198);(with_reducible refine(qep.o _ _ HB7.o HU.o).mono ?_);rintro en w8 ⟨rfl,lv2,vs2,qdQ,hg8,hf8⟩;have HM8:=qa qdQ;have HG8:=qa hg8;have HF8:=qa hf8;clear qdQ hg8 hf8)
        have HNB:=qa (qgl.o.num HB7.o HM8.o HG8.o HF8.o);have HFX:=qa (HF7.o.trans (HG8.o.below (by have:=HB7.o.size;omega) (fun k hk=>(qgl.o.mkr.lt k hk).1)));have qha:br<wd.heap.size:=(qdp.o.lt br rfl).2;have qeS:=qa (HG8.o.own (qdp.o.up HB7.o) (fun k hk hS=>by simp[Value.ownBlock]at hk;subst hk;exact HNM.o (q3R hS)));refine⟨HFX.o,?_⟩;unfold aG;have hlr:(ints (lS e F r i R j)).length=KO:=by rw[aV,q1F e F r i R (by omega),HKO.o]
        have hcf:=qeS.o.cell (i:=j) (by omega);have hff:=qeS.o.free j;have qlo:br<w8.heap.size:=qeS.o.blk.2;have HST:=qa (qeS.o.store j (.int .i64 (kx:Nat)));generalize (ints (lS e F r i R j)).getD j undef=y0 at*;clear hlr c3d qe0 hqd qjm qdo qep HU
        ((unfold bF;simp only[pk]);refine⟨?_,by unfold bF;exact True.intro⟩;unfold aG)
        go_wp2;refine⟨HFX.o,?_⟩;unfold aG
        ((unfold bF;simp only[pk]);refine⟨?_,by unfold bF;exact True.intro⟩;unfold aG)
        go_wp2;have HFY:=qa (HFX.o.grown HST.o.2 (by have:=HFX.o.size;have:=HBB.o;omega) (fun k hk=>by injection hk with hk;have:=HBR.o;omega));refine⟨HFY.o,?_⟩;unfold aG;unfold bF
        first|(intro _ hqq;clear hqq)|(intro hqq;clear hqq)
        go_wp2
        go_roundg (KO-(j+1))
        case measure=>omega
        case rel=>
         refine⟨j+1,lv2,vs2,by go_num,by omega,?_,?_,HNB.o.2 br qha HNM.o,HFY.o,rfl⟩
         ·rw[HMS.o.1]
          exact HNB.o.1.row (HNB.o.2 br qha HNM.o) HND.o j _ HST.o.2
         rw[HMS.o.2,<-wI];exact HST.o.1
       have hje:j=KO:=by omega
       subst hje;have hma:=q75 e F r i R;rw[<-HKO.o]at hma;rw[hma.1]at HBT;rw[hma.2]at HRW;clear hma;obtain⟨R2,hR2⟩:∃R2,R2=oG e F r i R:=⟨_,rfl⟩;have HR2:=qa hR2;have qie:Hid (1000<R2.length->lI e F r=none):=qa (fun hb=>HGO.o.big hlt (by rw[<-hR2];exact hb));have qjT:Hid (R2.length<=1000->q4v e F r (i+1) R2/\nK e F r R2 (i+1)=nK e F r R i++[fF e F r R2 (R.getD i [])]/\fP r R2 (i+1)=fP r R i++[lJ r (R.getD i [])]):=qa (fun hb=>by rw[hR2];exact HGO.o.next hlt (by rw[<-hR2];exact hb));rw[<-hR2]at HBT HRW;clear hR2;obtain⟨og,cg,gg,hlv,-⟩:=HBT.o.mkr.lists.outer.cases;have hvl:=HBT.o.mkr.lists.len;rw[l9]at hvl;rw[hvl]at hlv;subst hlv;obtain⟨c0,c1,c2,c3,-,hq⟩:=HBT.o.mkr.c;clear c0 c1 c2;by_cases qc5:1000<R2.length
       ·have HE:Hid (xU e F r=3/\z6 e F r=q2L):=qa ⟨by unfold xU;rw[qt HRT.o,qie.o qc5],by unfold z6;rw[qt HRT.o,qie.o qc5]⟩
        have d1:decide ((1000:Int)<R2.length)=true:=by simp;omega
        have hbd:=HBD.o;have HR9:=qa (HR1.o _ (HF.o.mono (by have:=HBB.o;omega)))
        go_wp2_with(refine iX rfl _ _ rfl (w.heap.size+1) rfl Z rfl HZL.o qL rfl rfl HR9.o ?_;intro w12 qcQ qcP;have qci:=qa qcQ;have qbZ:=qa qcP;clear qcQ qcP)
        refine W9 rfl rfl rfl rfl qci.o (q0u _) (rules:=[]) (Sl.nil _) fun v hv=>⟨v,by rw[HE.o.1];rfl,by rw[HE.o.2];exact hv,?_⟩;have h1:=HFR.o _ (HF.o.mono (by have:=HBB.o;omega));exact h1.grown qbZ.o h1.size (fun k hk=>by cases hk;omega)
       have d1:decide ((1000:Int)<R2.length)=false:=by simp;omega
       obtain⟨hg2,hr2,hu2⟩:=qjT.o (by omega);have HGN:=qa hg2;have HRN:=qa hr2;have HUN:=qa hu2;have hBw:B<=wr.heap.size:=by have:=HF.o.size;have:=HBB.o;omega
       obtain⟨on,cn,gn,hnv,-⟩:=HBT.o.db.rows.outer.cases;obtain⟨nn,hnn⟩:∃nn,nn=nvs.length:=⟨_,rfl⟩;rw[<-hnn]at hnv;subst hnv;clear hnn;have e256:=HBT.o.db.box.cellN;have hgl:=HBT.o.db.box.lt;have hng:(Value.slice on nn cn).ownBlock≠some g:=fun e=>HBT.o.db.fg.1 g e rfl;have hlr:Below wr.heap.size wr (wr.alloc (.cells #[.slice (some ⟨br,0,none⟩) j j] 39)):=aA _ _;have HLR:=qa hlr;have HSX:Hid (Sl (wr.alloc (.cells #[.slice (some ⟨br,0,none⟩) j j] 39)) (.slice (some ⟨wr.heap.size,0,none⟩) 1 1) [.slice (some ⟨br,0,none⟩) j j]):=qa (by simpa using dY wr #[.slice (some ⟨br,0,none⟩) j j] 39 (by simp));have HT1:=qa (HBT.o.db.rows.outer.up hlr);have HT3:Hid (nvs.length+[Value.slice (some ⟨br,0,none⟩) j j].length<=4294967296):=qa (by have h1:=HBT.o.db.rows.len;have h2:=HGO.o.len;have h3:=HGO.o.le;simp[nK]at h1;simp;omega);have HT4:Hid (B<=(wr.alloc (.cells #[.slice (some ⟨br,0,none⟩) j j] 39)).heap.size):=qa (by have:=hlr.size;omega);have qf3:=qa (HBT.o.db.box.up hlr);have HNG:=qa hng;clear hg2 hr2 hu2 hlr hng
       go_upto_region 24 with(at_builtin;refine bM rfl (.tmp 90) (.tmp 92) 38 rfl B 39 (.slice none 0 0) 24 underlying38 (by kernel_rfl) rfl (by decide) (.slice on nn cn) nvs rfl HT1.o (.slice (some ⟨wr.heap.size,0,none⟩) 1 1) [.slice (some ⟨br,0,none⟩) j j] rfl HSX.o (by simp[Value.oneCell']) HT3.o HT4.o ?_;intro v' w5 hown1 hg1 hk1;(obtain⟨o5,c5,q5',hv5,-⟩:=hown1.cases);(obtain⟨n5,hn5⟩:∃n5,n5=(nvs++[Value.slice (some ⟨br,0,none⟩) j j]).length:=⟨_,rfl⟩);rw[<-hn5]at hv5;subst hv5;clear hn5;have HO5:=qa hown1;have HG5:=qa hg1;have HK5:=qa hk1;clear hown1 hg1 hk1;have qbI:=qa (qf3.o.keep HG5.o HNG.o);have g5:=qbI.o.free 256;have h5:=qbI.o.cellN;have hq5:=qbI.o.lt)
       have HPR:=qa (HBT.o.pushRow HRW.o (fun k hk=>by simp[Value.ownBlock]at hk;subst hk;exact⟨HND.o,HNM.o⟩) HLR.o HO5.o HG5.o HK5.o);clear qbI g5 h5 hq5 qf3 HT1 HT3 HT4 HSX HO5 HG5 HK5 e256 hgl c3 hq HLR;rw[<-HRN.o]at HPR;generalize hw6:w5.setCell ⟨g,256,none⟩ (.slice o5 n5 c5)=w6 at*;have qcF:=qa HPR.o.1;have HF6:=qa (HF.o.trans (HPR.o.2.mono (by have:=HBB.o;omega)));clear hw6 HPR HBT HF;obtain⟨kt,hkt⟩:=cR (bW e F r (R.getD i [])) R;have qfH:R2=R++kt:=HR2.o.trans hkt;have hgi:R2.getD i []=R.getD i []:=by rw[qfH,bS hlt]
       have him:i<R2.length:=by rw[qfH,qi];omega
       obtain⟨oa,cap,b,off,hle,hd,hrs⟩:=qcF.o.mkr.lists.rowsG.open;rw[l9]at hle hd hrs;injection hle with hle1 hle2 hle3;subst hle1 hle3;clear hle2;obtain⟨oi,ci,bi,fi,hcell,hdi,-,hsi⟩:=hrs i him;have hix:=aU (P:=prog) 38 39 underlying38 (by kernel_rfl) hd;have qbi:∀W,(Instr.indexAt 38 (.slice og R2.length cg) (.int .i64 (i:Int))).run prog W=.ok (.pointer (some ⟨b,off+i,none⟩)) W:=fun W=>by simpa using hix W .i64 i (by omega) (by omega)
       have hbb:=hd.hblk (by omega);rw[A3 him,hgi]at hcell hdi hsi;obtain⟨nl,hnl⟩:∃nl,nl=(ints (nz (R.getD i []))).length:=⟨_,rfl⟩;rw[<-hnl]at hcell hdi hsi;obtain⟨c0,c1,c2,c3,-,hq⟩:=qcF.o.mkr.c;have hB6:B<=w6.heap.size:=by have:=HF6.o.size;have:=HBB.o;omega
       have hd6:Below w6.heap.size w6 w6.drew:=by rw[World.drew_is_drewN];exact aN w6 1
       have HD6:=qa hd6;obtain⟨ve',vr',heq,-,hrr⟩:=HNV.o _ (HF6.o.trans (hd6.mono hB6))
       have hvr:vr'=.slice orr m cr:=by
        have:=qW (fun x:Array Value=>x.getD 2 undef) heq;simpa using this.symm
       rw[hvr]at hrr;have hok:=HGO.o.ok _ (dH R i [] hlt);have hrg:=rL HRT.o;have qhD:=qa (q9Y (w:=w6.drew) (q:=B+1) c2 hq hrr (v:=.slice oi nl ci) (L:=R.getD i []) (hsi.up hd6) (fun s hs=>by rw[hrg.1];exact hok.2 s hs) hrg.2);obtain⟨orv,crv,grv,hrv,-⟩:=qcF.o.db.rls.cases;obtain⟨nrv,qgO⟩:∃nrv,nrv=(ints (fP r R i)).length:=⟨_,rfl⟩;rw[<-qgO]at hrv;subst hrv;clear qgO hnl hkt qfH hgi hrs hix hd hdi hsi heq hvr hrr hok hrg c0 c1 c2;have e257:=qcF.o.db.box.cellR;have hgl:=qcF.o.db.box.lt;generalize lJ r (R.getD i [])=lx at*;have HRL:Hid ((fP r R i).length<=1000):=qa (by have h2:=HGO.o.len;have h3:=HGO.o.le;simp[fP];omega);go_wp2;refine aT [0,1,2,3,4,5,6,7,8,9] [10,11] [12,13,14] (by kernel_rfl) (by kernel_rfl) ?_;simp only[pk]
       repeat(go_big_quiet_step (fail))
       refine wpQuiet_nil ?_;generalize w6.drew=wd at*;unfold aG
       go_wp2_with((with_reducible go_at_call 201);(with_reducible refine qhD.o.mono ?_);rintro en w7 ⟨rfl,x7,rfl⟩)
       have HB7:=qa (kK HD6.o x7);refine⟨aI HB7.o,?_⟩;generalize ext wd x7=w7 at*;have hs7:=HB7.o.size;have hl8:Below w6.heap.size w6 (w7.alloc (.cells #[.int .i64 lx] 3)):=HB7.o.trans ((aA w7 (.cells #[.int .i64 lx] 3)).mono hs7);have HL8:=qa hl8;have HSX:Hid (Sl (w7.alloc (.cells #[.int .i64 lx] 3)) (.slice (some ⟨w7.heap.size,0,none⟩) 1 1) (ints [lx])):=qa (by simpa[ints]using dY w7 #[.int .i64 lx] 3 (by simp));have HT1:=qa (qcF.o.db.rls.up hl8);have HT3:Hid ((ints (fP r R i)).length+(ints [lx]).length<=4294967296):=qa (by have:=HRL.o;simp only[aV,qB];omega);have HT4:Hid (B<=(w7.alloc (.cells #[.int .i64 lx] 3)).heap.size):=qa (by have:=hl8.size;omega);have qf3:=qa (qcF.o.db.box.up hl8);have HRG:=qa qcF.o.db.rg;clear hl8 e257 hgl hs7 hcell qbi hbb c3 hq qhD
       (unfold aG;go_wp2;refine⟨aI HL8.o,?_⟩)
       unfold aG;unfold aG
       go_wp2_with(at_builtin;refine bM rfl (.tmp 96) (.tmp 106) 39 rfl B 3 (.int .i64 0) 8 underlying39 (by kernel_rfl) rfl (by decide) (.slice orv nrv crv) (ints (fP r R i)) rfl HT1.o (.slice (some ⟨w7.heap.size,0,none⟩) 1 1) (ints [lx]) rfl HSX.o (iD _) HT3.o HT4.o ?_;intro v' w9 hown1 hg1 hk1;(obtain⟨o9,c9,q9',hv9,-⟩:=hown1.cases);(obtain⟨n9,hn9⟩:∃n9,n9=(ints (fP r R i)++ints [lx]).length:=⟨_,rfl⟩);rw[<-hn9]at hv9;subst hv9;clear hn9;have HO9:=qa hown1;have HG9:=qa hg1;have HK9:=qa hk1;clear hown1 hg1 hk1)
       have qdg:=qa (qf3.o.keep HG9.o HRG.o);have g9:=qdg.o.free 257;have h9:=qdg.o.cellR;have hq9:=qdg.o.lt;refine⟨trivial,?_⟩
       (unfold aG;go_wp2;refine⟨trivial,?_⟩)
       (unfold aG;go_wp2;refine⟨trivial,?_⟩)
       unfold aG;have HPU:=qa (qcF.o.pushRule HL8.o (x:=lx) (by rw[F4];exact HO9.o) HG9.o HK9.o);rw[<-HUN.o]at HPU;go_wp2
       go_roundg (1001-(i+1))
       case measure=>have:=HGO.o.len;omega
       case rel=>exact⟨i+1,R2,_,_,_,_,_,by go_num,HGN.o,HPU.o.1,HF6.o.trans (HPU.o.2.mono (by have:=HBB.o;omega)),rfl⟩
     have d0:decide ((i:Int)<R.length)=false:=by simp;omega
     obtain⟨hl1,hl2,hl3⟩:=HGO.o.done hlt;have HE:Hid (xU e F r=0/\z6 e F r=rS e F r R):=qa ⟨by unfold xU;rw[qt HRT.o,hl1],by unfold z6;rw[qt HRT.o,hl1]⟩;have HRW:Hid (nK e F r R i=(rS e F r R).next):=qa hl2;have HRU:Hid (fP r R i=(rS e F r R).rules):=qa hl3;obtain⟨A9,hA9,hs9,hl9⟩:=HBT.o.db.box.open;have HA9:=qa hA9;have HS9:=qa hs9;have HL9:=qa hl9;have qfl:nv.oneCell'=true:=mY HBT.o.db.rows.outer;have qfh:rv.oneCell'=true:=mY HBT.o.db.rls;have qfV:=qa (HR1.o _ HF.o);clear hA9 hs9 hl9 hl1 hl2 hl3
     go_wp2_with(first|(refine dQ rfl _ rfl g rfl A9 HS9.o HA9.o ?_)|(refine iX rfl _ _ rfl (w.heap.size+1) rfl A9 rfl HL9.o HBT.o.db.box.len qfl qfh qfV.o ?_;intro w12 qcQ qcP;have qci:=qa qcQ;have qbZ:=qa qcP;clear qcQ qcP))
     have qfi:=((HBT.o.db.rows.keep' qbZ.o (HBT.o.db.rows.free_below (by omega))).rowsG.ints)
     have qfg:eE w12 rv (fP r R i):=(HBT.o.db.rls.keep qbZ.o (by
      cases hro:rv.ownBlock with
      |none=>exact .inl rfl
      |some k=>exact .inr (fun e=>by injection e with e;have:=(HBT.o.db.rls.lt k hro).1;omega))).sl
     refine W9 rfl rfl rfl rfl qci.o qfi qfg fun v hv=>⟨v,by rw[HE.o.1];rfl,?_,?_⟩
     ·rw[HE.o.2]
      rw[HRW.o,HRU.o,HCO.o]at hv;exact hv
     have h1:=HFR.o _ (HF.o.mono (by have:=HBB.o;omega));exact h1.grown qbZ.o h1.size (fun j hj=>by injection hj with hj;omega)
   |succ d=>
    rw[show((d+1:Nat):Int)-1=d by omega];have qcr:d<256:=by omega
    have hmd:(d:Int)%256=d:=by omega
    have HBC:=qa (qdu.o.keep HG.o (by intro hh;injection hh with hh;have:=HPO.o;omega))
    have hcc:wr.cell? ⟨p4,d,none⟩=some (.int .i64 (uG e d:Nat)):=by
     rw[HBC.o.cell qcr,HCO.o,G7 e qcr]
    have hkz:uG e d<KO:=by rw[HKO.o];exact q74 e qcr
    have hpw:p4<wr.heap.size:=HBC.o.lt;have qkx:pf<wr.heap.size:=HOW.o.blk.2;have hff:=HOW.o.free (uG e d);have hlen:(q22 l).length=KO:=by rw[q0X,HFO.o.1,HKO.o]
    have hcf:=HOW.o.cell (i:=uG e d) (by omega);have HST:=qa (HOW.o.store (uG e d) (.int .u8 (d:Int)));have HNX:=qa (q1E HFO.o qcr);rw[q5z]at HST;generalize (q22 l).getD (uG e d) undef=y0 at*;generalize uG e d=kc at*;clear hlen;go_wp2
    go_roundg d
    case measure=>omega
    case rel=>exact⟨d,l.set kc d,rfl,by omega,HST.o.1,HNX.o,aC HG.o HST.o.2,rfl⟩
 have hrf:dZ e F r=false:=by simpa using hrt
 have HE:Hid (xU e F r=4/\z6 e F r=q2L):=qa ⟨by unfold xU;rw[qr hrt],by unfold z6;rw[qr hrt]⟩;obtain rfl:=HCN.o.2 hrf;clear hrf hrt;go_enter func196,ntmps196
 go_wp2_with(first
  |(refine aH rfl 209 _ rfl w.heap.size 0 3 rfl _ _ (o8 HBX.o) rfl underlying209 rfl (by kernel_rfl) ?_)
  |((with_reducible go_at_call 197);refine HCL.o.mono ?_;rintro en w1 ⟨rfl,hb1⟩;have HE1:=qa (hb1.trans ((aA w1 (.cells ZC 37)).mono hb1.size));have hs1:=hb1.size;clear hb1)
  |(refine kT rfl 37 256 _ _ rfl w1.heap.size rfl _ CO rfl qf0.o (by kernel_rfl) (HBZ.o w1) ?_;intro w2 hb2 hg2;have HB2:=qa hb2;have HE2:=qa (HE1.o.grown hg2 HE1.o.size (fun k hk=>by cases hk;exact hs1));clear hb2 hg2)
  |(refine iX rfl _ _ rfl (w.heap.size+1) rfl Z rfl HZL.o qL rfl rfl (HB1.o.up HE2.o) ?_;intro w3 hb3 hg3;have HB3:=qa hb3;have HG3:=qa hg3;clear hb3 hg3))
 refine W9 rfl rfl rfl rfl HB3.o (q0u _) (rules:=[]) (Sl.nil _) fun v hv=>⟨v,by rw[HE.o.1];rfl,by rw[HE.o.2];exact hv,?_⟩;have h1:=HA.o.trans (HE2.o.mono HA.o.size);exact h1.grown HG3.o h1.size (fun k hk=>by cases hk;omega)
end Go.Cm
namespace Go.Cm
open Go.RowKit Go.Proofs
theorem q3U(e:List (List Ed))(F:Int)(r:List Int):(xU e F r=0/\dZ e F r=true/\∃R,lI e F r=some R/\z6 e F r=rS e F r R)\/((xU e F r=3\/xU e F r=4)/\z6 e F r=q2L):=by
 unfold xU z6;by_cases h:dZ e F r=true
 ·rw[qt h,qt h]
  cases hl:lI e F r with
  |some R=>exact .inl ⟨rfl,h,R,rfl,rfl⟩
  |none=>exact .inr ⟨.inl rfl,rfl⟩
 rw[qr h,qr h];exact .inr ⟨.inr rfl,rfl⟩
theorem q97{w:World}{v:Value}{ll:List (List Nd)}(h:gW w v ll):Calls prog 163 #[v] w fun e w'=>∃A,e=.returned (.tuple #[.iface 213 (.agg A),.int .i64 (rH ll)])/\(rH ll=0->zW w' A (mkS ll ll.length).e 0 (mkS ll ll.length).r)/\Below w.heap.size w w':=by
 have HMK:=qa (q4T h);have hH:=h;obtain⟨oa,cap,b,off,rfl,-,-⟩:=h.open;generalize (mkS ll ll.length).e=e at*;generalize (mkS ll ll.length).r=r at*;clear hH h;by_cases h0:rH ll=0
 ·rw[h0]at HMK⊢
  go_enter func163,ntmps163
  go_wp2_with((with_reducible refine HMK.o.mono ?_);rintro en w3 ⟨A,rfl,h1,-,hb⟩;obtain⟨ve,vr,rfl,he,hr⟩:=h1 rfl;have HV:=qa (show zW w3 #[ve,.int .i64 0,vr] e 0 r from⟨ve,vr,rfl,he,hr⟩);have HB3:=qa hb;obtain⟨oe,ce,be,fe,rfl,-,-⟩:=he.open;obtain⟨orr,cr,br,fr,rfl,-,-⟩:=hr.open;clear he hr hb h1)
  go_ret2
  exact⟨_,rfl,fun _=>HV.o.up (aA _ _),HB3.o.trans ((aA _ _).mono HB3.o.size)⟩
 obtain⟨c,hc⟩:∃c,c=rH ll:=⟨_,rfl⟩;rw[<-hc]at HMK h0⊢;clear hc;go_enter func163,ntmps163
 go_wp2_with((with_reducible refine HMK.o.mono ?_);rintro en w3 ⟨A,rfl,-,h1,hb⟩;obtain rfl:=h1 h0;have HB3:=qa hb;clear hb h1)
 go_ret2
 exact⟨_,rfl,fun h=>absurd h h0,HB3.o.trans ((aA _ _).mono HB3.o.size)⟩
theorem D2(T:TypeId)(hb:∀v,prog.built T [(0,v)]=Instr.fill (fun i=>#[(0,258)][i]?) rN [(0,v)]){C:Array Value}(hC:C.size=258)(W:World):(Instr.build T #[(0,.agg C)]).run prog W=.ok (.agg C) W:=by
 obtain⟨D,hD⟩:∃D,D=(C.zipIdx.foldl (fun cs x=>cs.setIfInBounds (0+x.2) x.1) rN):=⟨_,rfl⟩
 have e:D=C:=by
  have h1:=q0V C.toList 0 rN (by rw[gN,qN,hC];decide);have hz:=gN
  have e2:(C.zipIdx.foldl (fun cs x=>cs.setIfInBounds (0+x.2) x.1) rN)=(C.toList.zipIdx 0).foldl (fun cs x=>cs.setIfInBounds (0+x.2) x.1) rN:=by
   obtain⟨c⟩:=C;generalize rN=Z;simp
  apply Array.ext';rw[hD,e2,h1,qE,qN,hC,List.take_zero,jm (by rw[qN,hz];exact qb _)];simp
 have h:=run_build W T #[(0,.agg C)] D (by
  show prog.built T [(0,.agg C)]=some D;rw[hb];have hz:=gN;generalize rN=Z at*;unfold Instr.fill;have hc:(Value.agg C).cells=C:=rfl;simp only[hc,hC,hz,hD]
  rfl)
 rw[e]at h;exact h
theorem q98{w:World}{A:Array Value}{e:List (List Ed)}{F:Int}{r:List Int}(h:zW w A e F r)(hw:∀a x,x∈Row e a->EdW x)(ht:tot e<=1000000):
  Calls prog 195 #[.agg A] w fun en w'=>∃C,en=.returned (.tuple #[.iface 242 (.agg C),.int .i64 (xU e F r)])/\yU w' C (z6 e F r)/\Below w.heap.size w w':=by
 obtain⟨ve,vr,rfl,he,hr⟩:=h;obtain⟨oe,ce,be,fe,rfl,-,-⟩:=he.open;obtain⟨orr,cr,br,fr,rfl,-,-⟩:=hr.open;have HV:Hid (zW w #[.slice oe e.length ce,.int .i64 F,.slice orr r.length cr] e F r):=qa ⟨_,_,rfl,he,hr⟩;have hB:=aA w (.cells #[.slice oe e.length ce,.int .i64 F,.slice orr r.length cr] 213);have HSP:=qa (q5B (HV.o.up hB) hw ht);unfold q6r at HSP;have hz:=nA;obtain⟨Z,hZ⟩:∃Z,Z=rN:=⟨_,rfl⟩;rw[<-hZ]at hz;have HBN:Hid (∀W:World,lA (W.alloc (.cells Z 41)) W.heap.size (.slice none 0 0) (.slice none 0 0) (List.replicate 256 0)):=qa (fun W=>hZ▸nB W);have HB:=qa hB;clear hZ hB he hr;generalize xU e F r=ee at*;generalize z6 e F r=ei at*;obtain⟨el,hel⟩:∃el,el=e.length:=⟨_,rfl⟩;obtain⟨rl,hrl⟩:∃rl,rl=r.length:=⟨_,rfl⟩;rw[<-hrl,<-hel]at HV HSP HB⊢;clear hrl hel;go_enter func195,ntmps195
 go_wp2_with(first
  |((with_reducible refine HSP.o.mono ?_);rintro en w5 ⟨v5,rfl,⟨C5,rfl,hv5⟩,hb5⟩;have HV5:=qa hv5;have HB5:=qa (HB.o.trans (hb5.mono HB.o.size));clear hv5 hb5)
  |(refine fL rfl _ _ rfl w5.heap.size rfl C5 rfl HV5.o (HBN.o w5) ?_;intro w6 hg6 qcO;have HN6:=qa (pU.new HV5.o hg6 qcO);clear hg6 qcO)
  |(refine dQ rfl _ rfl w5.heap.size rfl C5 HV5.o.hsize HN6.o.1.1 ?_)
  |(refine iO rfl 242 _ rfl #[(0,.agg C5)] (by kernel_rfl) C5 (D2 242 (fun v=>by kernel_rfl) HV5.o.hsize) ?_))
 go_ret2
 exact⟨C5,rfl,HV5.o.up HN6.o.2,HB5.o.trans (HN6.o.2.mono HB5.o.size)⟩
theorem q3Z{ops:Array Oper}{rest:List Oper}{o:Oper}{a:Act}{w:World}{Q:Exit->Act->World->Prop}(T:TypeId)(hgd:o.guard=none)(x:Operand)(ho:o.op=.load 41 x)
  (g:Nat) (hx:a.eval x=.pointer (some ⟨g,0,none⟩)) (A:Array Value) (hs:A.size=258) (hg:w.heap[g]? =some (.cells A T (0,0)))
  (h:wpList prog ops Q rest (a.put o.dst (.agg A)) w):wpList prog ops Q (o::rest) a w:=
 fS hgd 41 x ho g 0 258 hx T A A (0,0) _ hg underlying41 rfl (by kernel_rfl) (by rw[hs];decide) (by rw[<-hs];simp) h
theorem q99{w:World}{A:Array Value}{d:Dfa}(h:yU w A d):
  Calls prog 210 #[.agg A] w fun en w'=>∃C,en=.returned (.tuple #[.iface 116 (.agg C),.int .i64 (pN d)])/\K1 w' w.heap.size C (yY d)/\Below w.heap.size w w':=by
 have hB:=aA w (.cells A 242);have HSP:=qa (qab (.agg A) d _ ⟨A,rfl,h.up hB⟩);unfold q11 at HSP;have HS:=qa h.hsize;have HG0:Hid ((w.alloc (.cells A 242)).heap[w.heap.size]? =some (.cells A 242 (0,0))):=qa (heap_alloc_new w (.cells A 242));have hz:=nA;obtain⟨Z,hZ⟩:∃Z,Z=rN:=⟨_,rfl⟩;rw[<-hZ]at hz;have HBN:Hid (∀W:World,lA (W.alloc (.cells Z 41)) W.heap.size (.slice none 0 0) (.slice none 0 0) (List.replicate 256 0)):=qa (fun W=>hZ▸nB W);have HB:=qa hB;clear hZ hB h;generalize pN d=ee at*;generalize yY d=ei at*;go_enter func210,ntmps210
 go_wp2_with(first
  |(refine q3Z 242 rfl _ rfl w.heap.size rfl A HS.o HG0.o ?_)
  |((with_reducible refine HSP.o.mono ?_);rintro en w5 ⟨C5,rfl,hv5,hb5⟩;have HO5:=qa (hv5.mono HB.o.size);have HV5:=qa hv5.val;have HB5:=qa (HB.o.trans (hb5.mono HB.o.size));clear hv5 hb5)
  |(refine fL rfl _ _ rfl w5.heap.size rfl C5 rfl HV5.o (HBN.o w5) ?_;intro w6 hg6 qcO;have HN6:=qa (pU.new HV5.o hg6 qcO);clear hg6 qcO)
  |(refine dQ rfl _ rfl w5.heap.size rfl C5 HV5.o.hsize HN6.o.1.1 ?_)
  |(refine iO rfl 116 _ rfl #[(0,.agg C5)] (by kernel_rfl) C5 (D2 116 (fun v=>by kernel_rfl) HV5.o.hsize) ?_))
 go_ret2
 exact⟨C5,rfl,HO5.o.up HN6.o.2,HB5.o.trans (HN6.o.2.mono HB5.o.size)⟩
noncomputable def q40(ll:List (List Nd)):Int:=if rH ll≠0 then rH ll else if xU (mkS ll ll.length).e 0 (mkS ll ll.length).r≠0 then xU (mkS ll ll.length).e 0 (mkS ll ll.length).r else pN (z6 (mkS ll ll.length).e 0 (mkS ll ll.length).r)
noncomputable def q13(ll:List (List Nd)):Dfa:=yY (z6 (mkS ll ll.length).e 0 (mkS ll ll.length).r)
def q9a(ll:List (List Nd)):Prop:=rH ll=0->∀a x,x∈Row (mkS ll ll.length).e a->EdW x
def q41(ll:List (List Nd))(w:World)(e:Ending)(w':World):Prop:=∃C,e=.returned (.tuple #[.agg C,.int .i64 (q40 ll)])/\K1 w' w.heap.size C (if q40 ll=0 then q13 ll else cG)/\Below w.heap.size w w'
theorem tF{w:World}{g:Nat}{A:Array Value}{d:Dfa}(h:pU w g A d):(loadVar 41 ⟨g,0,none⟩).run prog w=.ok (.agg A) w:=by
 have hl:=cQ (P:=prog) w g 0 258 41 41 A (0,0) _ h.1 underlying41 rfl (by kernel_rfl) (by rw[h.2.hsize];decide);have e:A.extract 0 (0+258)=A:=by rw[qE,<-h.2.hsize];simp
 rwa [e]at hl
theorem q7F{w:World}{C:Array Value}{d:Dfa}(h:yU w C d):∀u∈C.toList,u.oneCell'=true:=by
 obtain⟨vn,vr,hl,h1,h2⟩:=vJ h;intro u hu;rw[hl]at hu;rcases List.mem_append.1 hu with hu|hu
 ·obtain⟨x,-,rfl⟩:=List.mem_map.1 hu;rfl
 simp only[jJ,List.not_mem_nil,or_false]at hu;rcases hu with rfl|rfl
 ·exact h1
 exact h2
theorem Y9{ops:Array Oper}{rest:List Oper}{o:Oper}{a:Act}{w w0:World}{Q:Exit->Act->World->Prop}(hgd:o.guard=none)(x y:Operand)(ho:o.op=.store 116 x y)
  (g:Nat) (hx:a.eval x=.pointer (some ⟨g,0,none⟩)) (C:Array Value) (hy:a.eval y=.agg C) {d:Dfa} (hC:yU w0 C d) {zs:List Value} (hB:Own w g 116 (.slice (some ⟨g,0,none⟩) 258 258) zs) (hz:zs.length=258)
  (h:∀w',w'.heap[g]? =some (.cells C 116 (0,0))->w.grownBy w' (some g)->wpList prog ops Q rest (a.put o.dst undef) w'):wpList prog ops Q (o::rest) a w:=by
 refine bD hgd 116 x y ho g 116 g 258 258 hx C hy (by rw[hC.hsize];kernel_rfl) zs hB (by rw[hz,hC.hsize];exact qb _) (q7F hC) fun w' hw hg=>h w' ?_ hg;rw[jm (by rw[hz,hC.hsize];exact qb _),j4]at hw;obtain⟨A,hA,-,hAl⟩:=hw.whole;rw[hA,show A=C from Array.ext' hAl]
theorem q1R(W:World):(zeroValue 116).run prog W=.ok (.agg rN) W:=by kernel_rfl
theorem q7G(v:Value)(W:World):(method 377 110 v "collimator/compile.step").run prog W=.ok (163,v) W:=by kernel_rfl
theorem q7H(v:Value)(W:World):(method 377 213 v "collimator/compile.step").run prog W=.ok (195,v) W:=by kernel_rfl
theorem q7I(v:Value)(W:World):(method 377 242 v "collimator/compile.step").run prog W=.ok (210,v) W:=by kernel_rfl
theorem q9b(v:Value)(W:World):(Instr.typeAssert (.iface 213 v) 112 116 true).run prog W=.ok (.tuple #[.agg rN,.bool false]) W:=by kernel_rfl
theorem q9c(v:Value)(W:World):(Instr.typeAssert (.iface 242 v) 112 116 true).run prog W=.ok (.tuple #[.agg rN,.bool false]) W:=by kernel_rfl
theorem q9d(v:Value)(W:World):(Instr.typeAssert (.iface 116 v) 112 116 true).run prog W=.ok (.tuple #[v,.bool true]) W:=by kernel_rfl
theorem qac{w:World}{v:Value}{ll:List (List Nd)}(h:gW w v ll)(hq:q9a ll):Calls prog 29 #[v] w (q41 ll w):=by
 have hz:=nA;obtain⟨Z,hZ⟩:∃Z,Z=rN:=⟨_,rfl⟩;rw[<-hZ]at hz;have HBN:Hid (∀W:World,lA (W.alloc (.cells Z 41)) W.heap.size (.slice none 0 0) (.slice none 0 0) (List.replicate 256 0)):=qa (fun W=>hZ▸nB W);have hb0:=aA w (.cells Z 41);have HB0:=qa hb0;have HS1:=qa (q97 (h.up hb0));have hbd:=oE;have hz2:=q1R;rw[<-hZ]at hz2 hbd;have hm1:=q7G;have hm2:=q7H;have hm3:=q7I;have ha1:=q9b;have ha2:=q9c;have ha3:=q9d;rw[<-hZ]at ha1 ha2;have HZV:Hid (∀W:World,K1 W w.heap.size Z cG):=qa (fun W=>hZ▸⟨_,[],_,_,_,iE,qL,qb _,qb _,dV.nil _ _ _ _,Own.nil _ _ _⟩)
 have HZO:Hid (∀W:World,Own (W.alloc (.cells Z 116)) W.heap.size 116 (.slice (some ⟨W.heap.size,0,none⟩) 258 258) Z.toList):=qa (fun W=>by
  have h:=bU W W.heap.size Z 116 (by rw[hZ,gN];decide) (qb _);rwa [show Z.size=258 by rw[hZ,gN]]at h)
 have HZL:Hid (Z.toList.length=258):=qa (by rw[qN,hZ,gN]);clear hZ hb0;obtain⟨E,hE⟩:∃E,E=q40 ll:=⟨_,rfl⟩;have HE:=qa hE;have HI:Hid (q13 ll=yY (z6 (mkS ll ll.length).e 0 (mkS ll ll.length).r)):=qa rfl;have HEF:Hid (E=if rH ll≠0 then rH ll else if xU (mkS ll ll.length).e 0 (mkS ll ll.length).r≠0 then xU (mkS ll ll.length).e 0 (mkS ll ll.length).r else pN (z6 (mkS ll ll.length).e 0 (mkS ll ll.length).r)):=qa (by rw[hE];rfl);unfold q41;rw[<-hE];clear hE HE;by_cases h0:rH ll=0
 ·have qdR:=q8y h0
  have qh5:∀a x,x∈Row (mkS ll ll.length).e a->EdW x:=hq h0
  have HTE:Hid (tot (mkS ll ll.length).e<=1000000):=qa (by
   have hk:=(q6I ll qdR.1 qdR.2.1 ll.length (qb _)).tot;rw[q05]at hk;have h1:=qdR.2.1;have h2:=qdR.2.2.1;omega)
  have HEW:=qa qh5;rw[h0]at HS1;rw[qr (fun h=>h h0)]at HEF;clear qdR qh5;generalize (mkS ll ll.length).e=e at*;generalize (mkS ll ll.length).r=r at*;generalize q13 ll=ai at*;go_enter func29,ntmps29;go_wp2;refine wp_loop_rounds 3 ?_;rw[rounds_succ]
  go_wp2_with((with_reducible refine HS1.o.mono ?_);rintro en w1 ⟨A,rfl,h1,hb⟩;have HV1:=qa (h1 (by trivial));have HB1:=qa (HB0.o.trans (hb.mono HB0.o.size));have HD1:=qa ((HBN.o w).up hb);clear h1 hb)
  have HS2:=qa (q98 HV1.o HEW.o HTE.o);clear HS1 HEW HTE;by_cases h2:xU e 0 r=0
  ·rw[h2]at HS2
   rw[qr (fun h=>h h2)]at HEF;generalize z6 e 0 r=d at*;rw[rounds_succ]
   go_wp2_with((with_reducible refine HS2.o.mono ?_);rintro en w2 ⟨C,rfl,hC,hb⟩;have HV2:=qa hC;have HB2:=qa (HB1.o.trans (hb.mono HB1.o.size));have HD2:=qa (HD1.o.up hb);clear hC hb)
   have HS3:=qa (q99 HV2.o);by_cases h3:pN d=0
   ·rw[h3]at HS3 HEF
    have HE0:Hid (E=0):=qa HEF.o;have HNL:Hid (∀W:World,Own (W.alloc (.cells Z 116)) W.heap.size 116 (.slice (some ⟨W.heap.size,0,none⟩) 258 258) Z.toList):=HZO;rw[rounds_succ]
    go_wp2_with(first
     |((with_reducible refine HS3.o.mono ?_);rintro en w3 ⟨C3,rfl,hC,hb⟩;have HO3:=qa hC;have HV3:=qa hC.val;have HB3:=qa (HB2.o.trans (hb.mono HB2.o.size));have HN3:=qa (HNL.o w3);have hs3:=hb.size;have HD3:=qa ((HD2.o.up hb).up (aA w3 (.cells Z 116)));clear hC hb)
     |(refine Y9 rfl _ _ rfl w3.heap.size rfl C3 rfl HV3.o HN3.o HZL.o ?_;intro w4 hg4 qdY;have HG4:=qa hg4;have HB4:=qa ((HB3.o.trans ((aA w3 (.cells Z 116)).mono HB3.o.size)).grown qdY (qc HB3.o.size (aA w3 (.cells Z 116)).size) (fun k e=>by injection e with e;have:=HB3.o.size;omega));have HV4:=qa (HV3.o.up ((aA w3 (.cells Z 116)).grown qdY (aA w3 (.cells Z 116)).size (fun k e=>by injection e with e;omega)));have HO4:=qa (HO3.o.up ((aA w3 (.cells Z 116)).grown qdY (aA w3 (.cells Z 116)).size (fun k e=>by injection e with e;omega)));have HD4:=qa (HD3.o.keep qdY (fun e=>by injection e with e;have:=HD2.o.lt;omega));clear hg4 qdY)
     |(refine q3Z 116 rfl _ rfl w3.heap.size rfl C3 HV3.o.hsize HG4.o ?_)
     |(refine fL rfl _ _ rfl w.heap.size rfl C3 rfl HV4.o HD4.o ?_;intro w5 hg5 qh2;have HG5:=qa hg5;have qhV:=qa qh2;clear hg5 qh2))
    have HO5:=qa (HO4.o.keep qhV.o (HD2.o.lt));have HI5:Hid (pU w5 w.heap.size C3 (yY d)):=qa ⟨HG5.o,HO5.o.val⟩;have HB5:=qa (HB4.o.grown qhV.o HB4.o.size (fun k e=>by injection e with e;omega));refine aX (s:=2) (b:=3) (ad:=⟨w.heap.size,0,none⟩) (x:=.agg C3) (y:=.int .i64 0) rfl rfl rfl rfl (tF HI5.o) ?_;exact⟨C3,by first|rfl|rw[HE0.o],by first|(rw[qt HE0.o,HI.o];exact HO5.o.mono (jn HD2.o.lt))|(rw[HI.o];exact HO5.o.mono (jn HD2.o.lt)),HB5.o⟩
   have HEE:Hid (E=pN d):=qa HEF.o;have qeY:Hid (E≠0):=qa (by rw[HEE.o];exact h3);generalize pN d=c at*;have hcb:(c != 0)=true:=by simpa using h3
   clear HEF;rw[rounds_succ]
   go_wp2_with(first
    |((with_reducible refine HS3.o.mono ?_);rintro en w3 ⟨C3,rfl,hC,hb⟩;have HB3:=qa (HB2.o.trans (hb.mono HB2.o.size));have HD3:=qa (HD2.o.up hb);clear hC hb)
    |(refine fL rfl _ _ rfl w.heap.size rfl Z rfl (HZV.o w).val HD3.o ?_;intro w8 hg8 qcN;have HG8:=qa hg8;have qeu:=qa qcN;clear hg8 qcN))
   have HI8:Hid (pU w8 w.heap.size Z cG):=qa ⟨HG8.o,(HZV.o w8).val⟩;have HB8:=qa (HB3.o.grown qeu.o HB3.o.size (fun k e=>by injection e with e;omega));refine aX (s:=2) (b:=3) (ad:=⟨w.heap.size,0,none⟩) (x:=.agg Z) rfl rfl rfl rfl (tF HI8.o) ?_;exact⟨Z,by rw[HEE.o];rfl,HZV.o w8,HB8.o⟩
  rw[qt h2]at HEF;have HEE:Hid (E=xU e 0 r):=qa HEF.o;have qeY:Hid (E≠0):=qa (by rw[HEE.o];exact h2);generalize xU e 0 r=c at*;have hcb:(c != 0)=true:=by simpa using h2
  clear HEF;rw[rounds_succ]
  go_wp2_with(first
   |((with_reducible refine HS2.o.mono ?_);rintro en w2 ⟨C,rfl,hC,hb⟩;have HB2:=qa (HB1.o.trans (hb.mono HB1.o.size));have HD2:=qa (HD1.o.up hb);clear hC hb)
   |(refine fL rfl _ _ rfl w.heap.size rfl Z rfl (HZV.o w).val HD2.o ?_;intro w8 hg8 qcN;have HG8:=qa hg8;have qeu:=qa qcN;clear hg8 qcN))
  have HI8:Hid (pU w8 w.heap.size Z cG):=qa ⟨HG8.o,(HZV.o w8).val⟩;have HB8:=qa (HB2.o.grown qeu.o HB2.o.size (fun k e=>by injection e with e;omega));refine aX (s:=2) (b:=3) (ad:=⟨w.heap.size,0,none⟩) (x:=.agg Z) rfl rfl rfl rfl (tF HI8.o) ?_;exact⟨Z,by rw[HEE.o];rfl,by first|exact HZV.o w8|(rw[qr qeY.o];exact HZV.o w8),HB8.o⟩
 rw[qt h0]at HEF;have HEE:Hid (E=rH ll):=qa HEF.o;have qeY:Hid (E≠0):=qa (by rw[HEE.o];exact h0);generalize rH ll=c at*;have hcb:(c != 0)=true:=by simpa using h0
 clear HEF;generalize (mkS ll ll.length).e=e at*;generalize (mkS ll ll.length).r=r at*;go_enter func29,ntmps29;go_wp2;refine wp_loop_rounds 3 ?_;rw[rounds_succ]
 go_wp2_with(first
  |((with_reducible refine HS1.o.mono ?_);rintro en w1 ⟨A,rfl,h1,hb⟩;have HB1:=qa (HB0.o.trans (hb.mono HB0.o.size));have HD1:=qa ((HBN.o w).up hb);clear h1 hb)
  |(refine fL rfl _ _ rfl w.heap.size rfl Z rfl (HZV.o w).val HD1.o ?_;intro w8 hg8 qcN;have HG8:=qa hg8;have qeu:=qa qcN;clear hg8 qcN))
 have HI8:Hid (pU w8 w.heap.size Z cG):=qa ⟨HG8.o,(HZV.o w8).val⟩;have HB8:=qa (HB1.o.grown qeu.o HB1.o.size (fun k e=>by injection e with e;omega));refine aX (s:=2) (b:=3) (ad:=⟨w.heap.size,0,none⟩) (x:=.agg Z) rfl rfl rfl rfl (tF HI8.o) ?_;exact⟨Z,by rw[HEE.o];rfl,by first|exact HZV.o w8|(rw[qr qeY.o];exact HZV.o w8),HB8.o⟩
theorem Z0{P:Program}{fn:Func}{tmps:Array Value}{w:World}{a t a' t' b:Nat}{ad ad':Addr}{v v':Value}(hf:fn.results=#[.tmp b,.cell a t,.cell a' t'])(ha:tmps.getD a undef=.pointer (some ad))(hl:(loadVar t ad).run P w=.ok v w)(ha':tmps.getD a' undef=.pointer (some ad'))(hl':(loadVar t' ad').run P w=.ok v' w):
  (results fn tmps).run P w=.ok (.tuple #[tmps.getD b undef,v,v']) w:=by
 have h1:tmps[a]?.getD undef=.pointer (some ad):=by simpa using ha
 have h2:tmps[a']?.getD undef=.pointer (some ad'):=by simpa using ha'
 simp[results,hf,asAddr,h1,h2,hl,hl']
theorem q7J{P:Program}{fn:Func}{tmps:Array Value}{w:World}{ds:List Deferred}{a t a' t' b:Nat}{ad ad':Addr}{x v v':Value}{R:Ending->World->Prop}(hf:fn.results=#[.tmp b,.cell a t,.cell a' t'])(hb:tmps.getD b undef=x)(ha:tmps.getD a undef=.pointer (some ad))(ha':tmps.getD a' undef=.pointer (some ad'))(hd:ds=[])
  (hl:(loadVar t ad).run P w=.ok v w) (hl':(loadVar t' ad').run P w=.ok v' w) (h:R (.returned (.tuple #[x,v,v'])) w):bodyPost P fn R .ret ⟨tmps,ds⟩ w:=
 bodyPost_ret (v:=.tuple #[x,v,v']) (by rw[Z0 hf ha hl ha' hl',hb]) hd h
noncomputable def q7K(s:cX):List Rul×Dfa×List (Nat×Nat):=
 if(eI s).2≠[]then([],cG,(eI s).2)
 else if q40 (vI (eI s).1).1≠0 then([],cG,[((q40 (vI (eI s).1).1).toNat,0)])
 else((eI s).1,q13 (vI (eI s).1).1,[])
def q14(y:List Rul×Dfa×List (Nat×Nat))(w:World)(e:Ending)(w':World):Prop:=
 ∃v C u,e=.returned (.tuple #[v,.agg C,u])/\uU w' w.heap.size v y.1/\yU w' C y.2.1/\gX w' y.2.2 u/\Below w.heap.size w w'
structure CmB(w0 w:World)(b3 b4:Nat):Prop where
 bd:lA w b3 (.slice none 0 0) (.slice none 0 0) (List.replicate 256 0)
 bu:Own w b4 45 (.slice (some ⟨b4,0,none⟩) 1 1) [.nilIface]
 bl:Below w0.heap.size w0 w
 lo:w0.heap.size<=b3
 ne:b3<b4
theorem CmB.up{w0 w w':World}{b3 b4:Nat}(h:CmB w0 w b3 b4)(hb:Below w.heap.size w w'):CmB w0 w' b3 b4:=⟨h.bd.up hb,h.bu.up hb,h.bl.trans (hb.mono h.bl.size),h.lo,h.ne⟩
theorem CmB.lt{w0 w:World}{b3 b4:Nat}(h:CmB w0 w b3 b4):b4<w.heap.size:=(h.bu.lt b4 rfl).2
theorem q7L{w:World}{g:Nat}{nv rv:Value}{cl:List Int}(h:lA w g nv rv cl):∀t u,w.cell? ⟨g,2,none⟩≠some (.iface t u):=by
 intro t u e;have hl:2<(ints cl).length:=by rw[aV,h.len];decide
 have h2:=h.own.cell (i:=2) (by rw[qi];omega);rw[qq,qS hl,qv hl]at h2;simp only[ints,jt,qJ]at h2;rw[h2]at e;cases e
theorem Z1{fn:Func}{tmps:Array Value}{ds:List Deferred}{w W W1 W2:World}{b3 b4:Nat}{v e:Value}{A:Array Value}{d:Dfa}{ls:List Rul}{bl:List (Nat×Nat)}(hf:fn.results=#[.tmp 2,.cell 3 41,.cell 4 45])(hb:tmps.getD 2 undef=v)(h3:tmps.getD 3 undef=.pointer (some ⟨b3,0,none⟩))(h4:tmps.getD 4 undef=.pointer (some ⟨b4,0,none⟩))(hd:ds=[])
  (hC:CmB w W b3 b4) (hl:uU W (b4+1) v ls) (hD:K1 W (b4+1) A d) (hE:dF W bl e)
  (g1:W1.heap[b3]? =some (.cells A 41 (0,0))) (gr1:W.grownBy W1 (some b3)) (o2:Own W2 b4 45 (.slice (some ⟨b4,0,none⟩) 1 1) [e]) (gr2:W1.grownBy W2 (some b4)):bodyPost prog fn (q14 (ls,d,bl) w) .ret ⟨tmps,ds⟩ W2:=by
 have h34:=hC.ne;have h4l:=hC.lt;have hlo:=hC.lo;have hs1:=gr1.size;have g2:W2.heap[b3]? =some (.cells A 41 (0,0)):=(gr2.block b3 (by omega) (by intro e;have:=qo e;omega)).trans g1;have hD2:=(hD.keep gr1 (by omega)).keep gr2 (qR _);have hE1:=t6 gr1 (q7L hC.bd) hE;have hE2:=t6 gr2 (rQ (hC.bu.keep gr1 (.inr (fun e=>absurd (qo (show some b4=some b3 from e)) (by omega))))) hE1
 have hk:∀(k:Nat),k<b4+1->v.ownBlock=none\/v.ownBlock≠some k:=fun k hk=>by
  cases hq:v.ownBlock with
  |none=>exact .inl rfl
  |some q=>right;intro e;have:=(cA.lt hl q hq).1;have:=qo e;omega
 have hl2:=cA.keep (cA.keep hl gr1 (hk b3 (by omega))) gr2 (hk b4 (qR _));refine q7J hf hb h3 h4 hd (tF ⟨g2,hD2.val⟩) (Y4 o2) ⟨v,A,_,rfl,cA.mono hl2 (by omega),hD2.val,⟨e,rfl,hE2⟩,?_⟩;exact(hC.bl.grown gr1 hC.bl.size (by rintro k ⟨⟩;exact hlo)).grown gr2 (qc hC.bl.size hs1) (by rintro k ⟨⟩;omega)
theorem yO{C:World->Prop}{o:Oper}{a:Act}{K:Act->Prop}(x:Operand)(ho:o.op=.load 41 x)(g:Nat)(hx:a.eval x=.pointer (some ⟨g,0,none⟩))(A:Array Value)(hs:A.size=258)
  (hg:∀w',C w'->w'.heap[g]? =some (.cells A 41 (0,0))) (h:K (a.put o.dst (.agg A))):o.quiet prog a C K:=
 lV 41 258 x ho g hx A hs hg _ underlying41 rfl (by kernel_rfl) h
theorem q42(d:Dfa):pN d=0\/pN d=4:=by
 unfold pN;split
 ·exact .inl rfl
 exact .inr rfl
theorem q5E(ll:List (List Nd)):rH ll=0\/rH ll=3\/rH ll=4\/rH ll=17:=by
 unfold rH;split
 ·exact .inr (.inr (.inr rfl))
 split
 ·exact .inr (.inl rfl)
 split
 ·exact .inr (.inr (.inl rfl))
 split
 ·exact .inr (.inl rfl)
 exact .inl rfl
theorem q5F(ll:List (List Nd)):∃c:Nat,q40 ll=(c:Int)/\c<=27:=by
 unfold q40;have h1:=q5E ll;have h2:=q3U (mkS ll ll.length).e 0 (mkS ll ll.length).r;have h3:=q42 (z6 (mkS ll ll.length).e 0 (mkS ll ll.length).r);generalize pN (z6 (mkS ll ll.length).e 0 (mkS ll ll.length).r)=c at*;generalize xU (mkS ll ll.length).e 0 (mkS ll ll.length).r=b at*;generalize rH ll=a at*;split
 ·exact⟨a.toNat,by omega,by omega⟩
 split
 ·have:b=0\/b=3\/b=4:=by rcases h2 with⟨h2,-⟩|⟨h2|h2,-⟩<;>omega
  exact⟨b.toNat,by omega,by omega⟩
 exact⟨c.toNat,by omega,by omega⟩
theorem q5G{x:Rul}(h:q7a x):(iY x.2).2.1=0/\q5f (iY x.2).1=false:=by
 have:=h.ex 0;unfold uO at this;split at this
 ·cases this
 rename_i h1;split at this
 ·cases this
 rename_i h2;exact⟨by omega,by simpa using h2⟩
theorem q5H{ls:List Rul}(h:nL ls):vI ls=(ls.map (fun x=>(iY x.2).1),0)/\∀x∈ls,(iY x.2).2.1=0:=by
 have h1:∀x∈ls,(iY x.2).2.1=0:=fun x hx=>(q5G (h.all x hx)).1;refine⟨?_,h1⟩;unfold vI;rw[qr];simp only[List.any_eq_true,not_exists,not_and];intro x hx;rw[h1 x hx];decide
theorem q43(s:cX):∀(f a:Nat) (l:List Rul),l.length<=32->(uP s f a l).1.length<=32
 |0,_,_,h=>h
 |f+1,a,l,h=>by
  unfold uP;simp only;split
  ·split
   ·exact qd _
   exact q43 s f _ _ (q0T h)
  split
  ·exact qd _
  exact h
theorem q5I(s:cX):(eI s).1.length<=32:=by
 unfold eI;split
 ·exact qd _
 exact q43 s _ _ _ (qd _)
theorem q15{s:cX}:∀(f a:Nat) (l:List Rul),(uP s f a l).2.length<=2
 |0,_,_=>qd _
 |f+1,a,l=>by
  unfold uP;simp only;split
  ·split
   ·exact q3Q _ _ _
   exact q15 f _ _
  split
  ·exact(by decide:(1:Nat)<=2)
  exact qd _
theorem q44(s:cX):(eI s).2.length<=2:=by
 unfold eI;split
 ·exact(by decide:(1:Nat)<=2)
 exact q15 _ _ _
theorem q9e{w:World}{s:ByteArray}(hL:gJ w)(hT:iZ w)(hs:s.size<=1000000)(hEQ:q9a ((eI (bys s)).1.map fun x=>(iY x.2).1)):Calls prog 12 #[.string s] w (q14 (q7K (bys s)) w):=by
 have hz:=nA;have hbd:=oE;obtain⟨Z,hZ⟩:∃Z,Z=rN:=⟨_,rfl⟩;rw[<-hZ]at hz hbd;have HBN:Hid (∀W:World,lA (W.alloc (.cells Z 41)) W.heap.size (.slice none 0 0) (.slice none 0 0) (List.replicate 256 0)):=qa (fun W=>hZ▸nB W);have HZD:Hid (∀(W:World) (B:Nat),K1 W B Z cG):=qa (fun W B=>hZ▸⟨_,[],_,B,B,iE,qL,qb _,qb _,dV.nil _ _ _ _,Own.nil _ _ _⟩);have HZV:Hid (∀W:World,yU W Z cG):=qa (fun W=>hZ▸q7E W);obtain⟨w1,hw1⟩:∃w1,w1=(w.alloc (.cells Z 41)).alloc (.cells #[.nilIface] 45):=⟨_,rfl⟩
 have hC0:CmB w w1 w.heap.size (w.heap.size+1):=by
  rw[hw1];refine⟨(HBN.o w).up (aA _ _),?_,kO (aA _ _) _,qb _,qR _⟩;have:=oN (w.alloc (.cells Z 41)) 45;rwa [show(w.alloc (.cells Z 41)).heap.size=w.heap.size+1 by simp]at this
 have HLW:=qa (hL.up hC0.bl);have HTW:=qa (hT.up hC0.bl);have HRP:=qa (q95 (s:=s) HLW.o HTW.o (by omega));have HW:=qa hw1;have HC0:=qa hC0;have HY:Hid (q7K (bys s)=if(eI (bys s)).2≠[]then([],cG,(eI (bys s)).2)else if q40 (vI (eI (bys s)).1).1≠0 then([],cG,[((q40 (vI (eI (bys s)).1).1).toNat,0)])else((eI (bys s)).1,q13 (vI (eI (bys s)).1).1,[])):=qa rfl;generalize q7K (bys s)=Y at*;have HOK:=qa (fun h=>@q5i (bys s) h);have qgp:=qa (q44 (bys s));have HLN:=qa (q5I (bys s));have HEQ:=qa hEQ;clear hEQ;generalize eI (bys s)=R at*;obtain⟨ls,b⟩:=R;simp only at HRP HY HOK qgp HLN HEQ;rw[hw1]at HC0 HLW HTW HRP;clear hZ hL hT hw1 hC0;go_enter func12,ntmps12
 go_upto_if 17 with(first
  |((with_reducible refine HRP.o.mono ?_);rintro e w2 ⟨v,u,rfl,hO,⟨u0,rfl,hu⟩,hb⟩;have HC2:=qa (HC0.o.up hb);have HO2:=qa hO;have HU2:=qa hu;have qhN:=qa (HLW.o.up hb);have qeP:=qa (HTW.o.up hb);have qbm:=qa (oN w2 45);have HAL:=qa (aA w2 (.cells #[.nilIface] 45));clear hO hu hb)
  |(refine cY rfl _ _ rfl w2.heap.size w2.heap.size rfl _ u0 rfl HU2.o.one qbm.o ?_;intro w3 ho hg;have qds:=qa ho;have hbl:=cF HAL.o hg (by rintro k ⟨⟩;exact qb _);have HC3:=qa (HC2.o.up hbl);have HU3:=qa (dF.up hbl HU2.o);have HO3:=qa (cA.up HO2.o hbl);have qg7:=qa (qhN.o.up hbl);have qhx:=qa (qeP.o.up hbl);have HDP:=qa (q5r qg7.o ⟨u0,rfl,HU3.o⟩ (by have:=qgp.o;omega));clear ho hg hbl)
  |(refine yK rfl _ rfl w2.heap.size w2.heap.size rfl _ qds.o ?_)
  |((with_reducible refine HDP.o.mono ?_);rintro e w4 ⟨rfl,hx⟩;have hbl:=aB hx;have HC4:=qa (HC3.o.up hbl);have HU4:=qa (dF.up hbl HU3.o);have HO4:=qa (cA.up HO3.o hbl);have qbQ:=qa (qds.o.up hbl);have qhM:=qa (qg7.o.up hbl);have qhw:=qa (qhx.o.up hbl);clear hx hbl))
 obtain⟨b3,hb3⟩:∃b3,b3=w.heap.size:=⟨_,rfl⟩;obtain⟨b4,hb4⟩:∃b4,b4=w.heap.size+1:=⟨_,rfl⟩;obtain⟨b6,hb6⟩:∃b6,b6=w2.heap.size:=⟨_,rfl⟩
 have HO5:Hid (uU w4 (b4+1) v ls):=qa (by
  have:=HO4.o;rwa [show((w.alloc (.cells Z 41)).alloc (.cells #[.nilIface] 45)).heap.size=b4+1 by rw[hb4];simp]at this)
 rw[<-hb4,<-hb3]at HC4;rw[<-hb6]at qbQ;rw[<-hb4,<-hb3,<-hb6];have HN4:Hid (b4<b6):=qa (by rw[hb4,hb6];exact HC2.o.lt);have qdm:Hid (b3<b4):=qa HC4.o.ne;clear hb3 hb4 hb6 HC0 HC2 HC3 HO2 HO3 HO4 HU2 HU3 qbm qds HAL HLW qhN qg7 HTW qeP qhx HRP HDP HW;by_cases hb:b=[];rotate_left 1
 ·have HYE:Hid (Y=([],cG,b)):=qa (by rw[HY.o,qt hb])
  have hbl:0<b.length:=by
   cases b with
   |nil=>exact absurd rfl hb
   |cons x y=>simp
  have hbi:(b.length:Int)>0:=by omega
  clear HY HOK HLN HEQ hb
  go_upto_region 3 with(fail)
  refine cU (C:=fun w'=>∃x,w'=chg w4 (some b3) x) [0,1,2] [3] [4] (by kernel_rfl) (by kernel_rfl) (bX (cJ _ _)) ?_;simp only[pk];go_simp
  repeat(first
   |(go_big_quiet_want;refine nF _ rfl b6 b6 rfl u0 (fun w' hw=>by obtain⟨y,rfl⟩:=hw;exact qbQ.o.keep (fT _ _ _) (.inr (fun e=>absurd (qo (show some b6=some b3 from e)) (by have:=HN4.o;have:=qdm.o;omega)))) ?_;go_simp;go_big_quiet_on)
   |go_big_quiet_step (fail))
  refine wpQuiet_nil ?_;have qcw:=gH (qk w4.heap.size w4);have HC5:=qa (HC4.o.up qcw);have HU5:=qa (dF.up qcw HU4.o);have HG5:Hid (w4.grownBy w4.drew (some b3)):=qa (cJ _ _);clear qcw;generalize w4.drew=w5 at*;unfold aG
  go_wp2_with(refine fL rfl _ _ rfl b3 rfl Z rfl (HZV.o w5) HC5.o.bd ?_;intro w6 hg6 qcO;have HG6:=qa hg6;have HR6:=qa qcO;clear hg6 qcO)
  refine⟨bX (aC HG5.o HR6.o),?_⟩;unfold aG;unfold aG;have HBU:=qa (HC5.o.bu.keep HR6.o (.inr (fun e=>absurd (qo (show some b4=some b3 from e)) (by have:=qdm.o;omega))))
  go_wp2_with(refine cY rfl _ _ rfl b4 b4 rfl _ u0 rfl HU5.o.one HBU.o ?_;intro w7 ho hg;have HO7:=qa ho;have HR7:=qa hg;clear ho hg)
  refine⟨trivial,?_⟩;unfold aG;go_wp2;rw[HYE.o];exact Z1 rfl rfl rfl rfl rfl HC5.o (cA.nil 2 w5 (b4+1) 25) (HZD.o w5 (b4+1)) HU5.o HG6.o HR6.o HO7.o HR7.o
 subst hb;have hok:=(HOK.o rfl).1;obtain⟨htr,-⟩:=q5H hok;have hY2:=HY.o;rw[qr (by simp),htr]at hY2;have hq:=HEQ.o;have HTC:=qa (q6q (v:=v) (ls:=ls) qhw.o (cA.sl HO5.o) (by have:=HLN.o;omega));rw[htr]at HTC;have HY2:=qa hY2;have HAC:=qa (q5F (ls.map fun x=>(iY x.2).1));have HAP:=qa (fun(W:World) (u:Value) (h:gW W u (ls.map fun x=>(iY x.2).1))=>qac h hq);have hbi:¬((([]:List (Nat×Nat)).length:Nat):Int)>0:=by simp
 clear HY HOK htr hok hY2 hq HEQ;generalize (ls.map fun x=>(iY x.2).1)=tl at*;unfold C7 q96 at HTC;unfold q41 at HAP
 go_upto_if 36 with(first
  |((with_reducible refine HTC.o.mono ?_);rintro e w5 ⟨v5,rfl,⟨vs5,ho5,hr5⟩,hb⟩;have HT5:Hid (gW w5 v5 tl):=qa ⟨vs5,ho5.sl,hr5.1,hr5.nodes (qk _ _)⟩;have HC5:=qa (HC4.o.up hb);have HO6:=qa (cA.up HO5.o hb);have HU5:=qa (dF.up hb HU4.o);have qbI:=qa (qbQ.o.up hb);have HL5:=qa (qhM.o.up hb);clear ho5 hr5 hb)
  |((with_reducible refine(HAP.o _ _ HT5.o).mono ?_);rintro e w6 ⟨C,rfl,hD,hb⟩;have HD6:=qa hD;have HC6:=qa (HC5.o.up hb);have qhI:=qa (cA.up HO6.o hb);have HU6:=qa (dF.up hb HU5.o);have qdr:=qa (qbI.o.up hb);have HL6:=qa (HL5.o.up hb);have HS6:=qa (hb.size);clear hD hb)
  |(refine fL rfl _ _ rfl w6.heap.size rfl C rfl HD6.o.val (HBN.o w6) ?_;intro w7 hg7 qh1;have HN7:=qa (pU.new HD6.o.val hg7 qh1);have HD7:=qa (HD6.o.up HN7.o.2);have HC7:=qa (HC6.o.up HN7.o.2);have HO7:=qa (cA.up qhI.o HN7.o.2);have HU7:=qa (dF.up HN7.o.2 HU6.o);have qcT:=qa (qdr.o.up HN7.o.2);have HL7:=qa (HL6.o.up HN7.o.2);clear hg7 qh1))
 obtain⟨c,hc,qja⟩:=HAC.o;rw[hc]at HY2 HD7⊢;have HD8:Hid (K1 w7 (b4+1) C (if(c:Int)=0 then q13 tl else cG)):=qa (HD7.o.mono HC5.o.lt);have HNB:Hid (b6<w6.heap.size):=qa (qe (qbI.o.lt b6 rfl).2 HS6.o);clear hc HAC HAP HTC HD6 HD7 HC6 HC5 HC4 HO5 HO6 qhI HU4 HU5 HU6 qbQ qbI qdr HL6 HL5 HT5 HLN qgp qhM qhw;by_cases hc0:c=0
 ·subst hc0
  have HYE:Hid (Y=(ls,q13 tl,[])):=qa (by rw[HY2.o,qr (by simp)]);have HD9:Hid (K1 w7 (b4+1) C (q13 tl)):=qa (by simpa using HD8.o);clear HY2 HD8
  go_upto_region 10 with(fail)
  refine cU (C:=fun w'=>∃x,w'=chg w7 (some b3) x) [0,1,2,3] [4] [5] (by kernel_rfl) (by kernel_rfl) (bX (cJ _ _)) ?_;simp only[pk];go_simp
  repeat(first
   |(go_big_quiet_want;refine nF _ rfl b6 b6 rfl u0 (fun w' hw=>by obtain⟨y,rfl⟩:=hw;exact qcT.o.keep (fT _ _ _) (.inr (fun e=>absurd (qo (show some b6=some b3 from e)) (by have:=HN4.o;have:=qdm.o;omega)))) ?_;go_simp;go_big_quiet_on)
   |(go_big_quiet_want;refine yO _ rfl w6.heap.size rfl C HD9.o.val.hsize (fun w' hw=>by obtain⟨y,rfl⟩:=hw;exact((fT _ _ _).block _ HN7.o.1.lt (fun e=>absurd (qo e) (by have:=HN4.o;have:=qdm.o;have:=HNB.o;omega))).trans HN7.o.1.1) ?_;go_simp;go_big_quiet_on)
   |go_big_quiet_step (fail))
  refine wpQuiet_nil ?_;have qcw:=gH (qk w7.heap.size w7);have HC8:=qa (HC7.o.up qcw);have HU8:=qa (dF.up qcw HU7.o);have HO8:=qa (cA.up HO7.o qcw);have qi3:=qa (HD9.o.up qcw);have HG8:Hid (w7.grownBy w7.drew (some b3)):=qa (cJ _ _);clear qcw;generalize w7.drew=w8 at*;unfold aG
  go_wp2_with(refine fL rfl _ _ rfl b3 rfl C rfl qi3.o.val HC8.o.bd ?_;intro w9 hg9 qdj;have HG9:=qa hg9;have HR9:=qa qdj;clear hg9 qdj)
  refine⟨bX (aC HG8.o HR9.o),?_⟩;unfold aG;unfold aG;have HBU:=qa (HC8.o.bu.keep HR9.o (.inr (fun e=>absurd (qo (show some b4=some b3 from e)) (by have:=qdm.o;omega))))
  go_wp2_with(refine cY rfl _ _ rfl b4 b4 rfl _ u0 rfl HU8.o.one HBU.o ?_;intro w10 ho hg;have qeo:=qa ho;have qfY:=qa hg;clear ho hg)
  refine⟨trivial,?_⟩;unfold aG;go_wp2;rw[HYE.o];exact Z1 rfl rfl rfl rfl rfl HC8.o HO8.o qi3.o HU8.o HG9.o HR9.o qeo.o qfY.o
 have HYE:Hid (Y=([],cG,[(c,0)])):=qa (by rw[HY2.o,qt (by simpa using hc0)];simp);have hci:((c:Int) != 0)=true:=by simpa using hc0
 have qg0:Hid (∀W,gJ W->Calls prog 28 #[.int .i64 c,.int .i64 0] W (dI [(c,0)] W)):=qa (fun W h=>qaB (at_:=0) h qja hc0);clear HY2 HD8
 go_wp2_with(first
  |((with_reducible refine(qg0.o _ HL7.o).mono ?_);rintro e w8 ⟨v8,rfl,⟨u8,rfl,hu⟩,hx⟩;have hb:=aB hx;have HU8:=qa hu;have HC8:=qa (HC7.o.up hb);clear hx hu hb)
  |(refine fL rfl _ _ rfl b3 rfl Z rfl (HZV.o w8) HC8.o.bd ?_;intro w9 hg9 qdj;have HG9:=qa hg9;have HR9:=qa qdj;have HBU:=qa (HC8.o.bu.keep qdj (.inr (fun e=>absurd (qo (show some b4=some b3 from e)) (by have:=qdm.o;omega))));clear hg9 qdj)
  |(refine cY rfl _ _ rfl b4 b4 rfl _ u8 rfl HU8.o.one HBU.o ?_;intro w10 ho hg;have qeo:=qa ho;have qfY:=qa hg;clear ho hg))
 rw[HYE.o];exact Z1 rfl rfl rfl rfl rfl HC8.o (cA.nil 2 w8 (b4+1) 25) (HZD.o w8 (b4+1)) HU8.o HG9.o HR9.o qeo.o qfY.o
end Go.Cm
namespace Go.Cm
def pwl:List Nat->List (List Nat)
 |[]=>[[]]
 |a::l=>pwl l++(pwl l).map (a:: ·)
theorem q45:∀l,(pwl l).length=2^l.length
 |[]=>rfl
 |a::l=>by rw[pwl,qi,qy,q45 l,qx,Nat.pow_succ];omega
theorem pL(p:Nat->Bool):∀l:List Nat,l.filter p∈pwl l
 |[]=>by simp[pwl]
 |a::l=>by
  rw[pwl,jR];split
  ·exact List.mem_append_right _ (List.mem_map.2 ⟨_,pL p l,rfl⟩)
  exact qZ _ (pL p l)
def q16(e:List (List Ed))(T:Nat->Bool):Bool:=(List.range e.length).all fun a=>(e.getD a []).all fun x=>if x.free then(!T a)||T x.to.toNat else T x.to.toNat
theorem q1S{e:List (List Ed)}(F:Int)(r:List Int)(T:Nat->Bool)(hT:((List.range e.length).filter T).length<=9)(hb:q16 e T=true):∃R,lI e F r=some R:=by
 have hok:∀a x,x∈e.getD a []->(if x.free then(!T a)||T x.to.toNat else T x.to.toNat)=true:=fun a x hx=>by
  by_cases ha:a<e.length
  ·unfold q16 at hb
   rw[List.all_eq_true]at hb;have:=hb a (List.mem_range.2 ha);rw[List.all_eq_true]at this;exact this x hx
  rw[qq,qM (by omega)]at hx;cases hx
 have hlen:((List.range e.length).filter T).length<=9:=hT
 have hst:∀st c,mL e F r st c∈pwl ((List.range e.length).filter T):=fun st c=>by
  unfold mL;split
  ·unfold pQ
   have hP:∀i,Rch e (By e (InL e.length st) c) i->T i=true:=fun i hi=>by
    refine Rch.least (M:=fun i=>T i=true) (fun i h=>?_) (fun a b ha h=>?_) hi
    ·obtain⟨a,-,x,hx,hfr,-,hto⟩:=h
     have:=hok a x hx;rw[hfr,hto,qA]at this;exact this
    obtain⟨x,hx,hfr,hto⟩:=h;have:=hok a x hx;rw[hfr,qt rfl,ha,hto,qA]at this;exact this
   have e1:nO e.length (Rch e (By e (InL e.length st) c))=((List.range e.length).filter T).filter fun i=>@decide (Rch e (By e (InL e.length st) c) i) (Classical.propDecidable _):=by
    unfold nO;rw[List.filter_filter];refine List.filter_congr fun i _=>?_;by_cases hp:Rch e (By e (InL e.length st) c) i
    ·rw[hP i hp,Bool.and_true]
    rw[@qu _ (Classical.propDecidable _) hp,jL]
   rw[e1];exact pL _ _
  have:=pL (fun _=>false) ((List.range e.length).filter T);rwa [show((List.range e.length).filter T).filter (fun _=>false)=[]from List.filter_eq_nil_iff.2 (by simp)]at this
 refine q5a (bW e F r) [] (O0 e F r [F]::pwl ((List.range e.length).filter T)) ?_ (fun L x hx=>?_) 1001 0 _ rfl (qd _) (by simp) (fun x hx=>by rw[List.mem_singleton.1 hx];exact je)
 ·rw[qx,q45]
  have:=qg (show 0<2 by decide) hlen;omega
 obtain⟨c,-,rfl⟩:=List.mem_map.1 hx;exact qU _ (hst _ c)
def q46:cX:=[108,101,116]
def q8f:cX:=[91,97,45,122,93,43]
def q9f:cX:=[119,111,114,100]
def fKn:cX:=[108,101,116,32,61,32,108,101,116,10,119,111,114,100,32,61,32,91,97,45,122,93,43]
theorem q47:eI fKn=([(q46,q46),(q9f,q8f)],[]):=by decide+kernel
theorem q17:eI []=([],[(17,0)]):=by decide+kernel
def q1T(c:Nat):Nd:=⟨1,0,0,2^(c-64),0,0,0,0⟩
def azT:Nd:=⟨1,0,0,576460743713488896,0,0,0,0⟩
def iP:List Nd:=[⟨3,3,0,0,0,0,0,0⟩,q1T 108,q1T 101,q1T 116]
def iQ:List Nd:=[⟨6,1,0,0,0,0,0,0⟩,azT]
theorem q6t:iY q46=(iP,0,0):=by kernel_rfl
theorem q6u:iY q8f=(iQ,0,0):=by kernel_rfl
def q9g:Fo:=.cons (q1T 108) .nil (.cons (q1T 101) .nil (.cons (q1T 116) .nil .nil))
def q9h:Fo:=.cons azT .nil .nil
theorem q9i:vE iP=.cons ⟨3,3,0,0,0,0,0,0⟩ q9g .nil:=iM ⟨3,3,0,0,0,0,0,0⟩ q9g (by decide) ⟨by decide,trivial,by decide,trivial,by decide,trivial,trivial⟩
theorem q9j:vE iQ=.cons ⟨6,1,0,0,0,0,0,0⟩ q9h .nil:=iM ⟨6,1,0,0,0,0,0,0⟩ q9h (by decide) ⟨by decide,trivial,trivial⟩
theorem q6v:Chk iP:=by decide+kernel
theorem q6w:Chk iQ:=by decide+kernel
theorem q7M:iH iP=6:=by unfold iH;rw[qt q6v,q9i];decide
theorem q7N:iH iQ=4:=by unfold iH;rw[qt q6w,q9j];decide
theorem qad:rH [iP,iQ]=0:=by
 unfold rH;rw[qr (by decide),qr (by decide),qr,qr]
 ·simp[q7M,q7N]
 intro h;refine h fun l hl=>?_;simp at hl;rcases hl with rfl|rfl
 ·exact q6v
 exact q6w
theorem q9L:mkS [iP,iQ] 2=mkF [.cons ⟨3,3,0,0,0,0,0,0⟩ q9g .nil,.cons ⟨6,1,0,0,0,0,0,0⟩ q9h .nil] 2:=by
 unfold mkS;rw[qF,qF,jq,q9i,q9j]
theorem q7O:∃R,lI (mkS [iP,iQ] 2).e 0 (mkS [iP,iQ] 2).r=some R:=by
 rw[q9L];exact q1S 0 _ (fun i=>decide (i≠0/\i≠1/\i≠9)) (by decide+kernel) (by decide+kernel)
def qb2(c:UInt8):Bool:=decide (97<=c.toNat/\c.toNat<=122)
def dK(q:Nat)(c:UInt8):Nat:=
 if q=5 then 5 else if qb2 c then(if q=0/\c=108 then 1 else if q=1/\c=101 then 2 else if q=2/\c=116 then 3 else 4)else 5
def oK(q:Nat):Int:=if q=3 then 0 else if q=0\/q=5 then -1 else 1
def tK(q:Nat):List Nat:=[[0,1,9,7],[2,3,8,7,10],[4,5,8,7,10],[6,8,7,10],[8,7,10],[]].getD q []
def qb3(e:List (List Ed))(S:List Nat)(c b:Nat):Bool:=S.any fun a=>(e.getD a []).any fun x=> !x.free&&tI x c&&decide (x.to=(b:Int))
def qae(T:List Nat)(x:Ed):Bool:=T.any fun b=>decide (x.to=(b:Int))
def q48(e:List (List Ed))(T:List Nat):Bool:=T.all fun a=>(e.getD a []).all fun x=> !x.free||qae T x
def grown(e:List (List Ed))(hit:Nat->Bool):List Nat->List Nat->Bool
 |_,[]=>true
 |pre,b::l=>(hit b||pre.any fun a=>(e.getD a []).any fun x=>x.free&&decide (x.to=(b:Int)))&&grown e hit (b::pre) l
theorem yP{e:List (List Ed)}{hit:Nat->Bool}{P:Nat->Prop}(h:∀b,hit b=true->P b):∀(l pre:List Nat),(∀b∈pre,Rch e P b)->grown e hit pre l=true->∀b∈l,Rch e P b
 |[],_,_,_,b,hb=>by cases hb
 |b::l,pre,hp,hg,x,hx=>by
  unfold grown at hg;rw[qG,Bool.or_eq_true]at hg
  have hb:Rch e P b:=by
   rcases hg.1 with h1|h1
   ·exact .base (h b h1)
   obtain⟨a,ha,h2⟩:=List.any_eq_true.1 h1;obtain⟨y,hy,h3⟩:=List.any_eq_true.1 h2;rw[qG,jU]at h3;exact .step (hp a ha) ⟨y,hy,h3.1,h3.2⟩
  rcases List.mem_cons.1 hx with rfl|hx
  ·exact hb
  exact yP h l (b::pre) (fun z hz=>(List.mem_cons.1 hz).elim (fun e=>e▸hb) (hp z)) hg.2 x hx
theorem q18{T:List Nat}{x:Ed}{b:Nat}(h:qae T x=true)(hb:x.to=(b:Int)):b∈T:=by
 obtain⟨z,hz,h⟩:=List.any_eq_true.1 h;have:=j9 h;rw[show b=z by omega];exact hz
theorem D3{e:List (List Ed)}{T:List Nat}{P:Nat->Prop}(hP:∀b,P b->b∈T)(hc:q48 e T=true){b:Nat}(h:Rch e P b):b∈T:=
 Rch.least (M:=fun b=>b∈T) hP (fun a b ha hf=>by
  obtain⟨x,hx,hfr,hto⟩:=hf;have h1:=List.all_eq_true.1 (List.all_eq_true.1 hc a ha) x hx;rw[hfr,Bool.not_true,Bool.false_or]at h1;exact q18 h1 hto) h
def eK:List (List Ed):=(mkF [.cons ⟨3,3,0,0,0,0,0,0⟩ q9g .nil,.cons ⟨6,1,0,0,0,0,0,0⟩ q9h .nil] 2).e
def rK:List Int:=(mkF [.cons ⟨3,3,0,0,0,0,0,0⟩ q9g .nil,.cons ⟨6,1,0,0,0,0,0,0⟩ q9h .nil] 2).r
def q6x(q:Nat)(c:UInt8):Bool:=
 ((tK q).all fun a=>(eK.getD a []).all fun x=> !(!x.free&&tI x c.toNat)||qae (tK (dK q c)) x)&&q48 eK (tK (dK q c))&&grown eK (qb3 eK (tK q) c.toNat) [] (tK (dK q c))
theorem q5J:∀q,q<6->∀c,c<256->q6x q (UInt8.ofNat c)=true:=by decide+kernel
theorem q1U{q:Nat}(hq:q<6)(c:UInt8){S:Nat->Prop}(hS:∀b,S b↔b∈tK q)(b:Nat):Rch eK (By eK S c.toNat) b↔b∈tK (dK q c):=by
 have h:=q5J q hq c.toNat c.toNat_lt;rw[UInt8.ofNat_toNat]at h;unfold q6x at h;rw[qG,qG]at h;obtain⟨⟨h1,h2⟩,h3⟩:=h
 constructor
 ·refine D3 (fun b hb=>?_) h2
  obtain⟨a,ha,x,hx,hfr,hh,hto⟩:=hb;have h4:=List.all_eq_true.1 (List.all_eq_true.1 h1 a ((hS a).1 ha)) x hx;rw[hfr,hh]at h4;exact q18 (by simpa using h4) hto
 refine fun hb=>yP (fun b hb=>?_) _ [] (by simp) h3 b hb;obtain⟨a,ha,h4⟩:=List.any_eq_true.1 hb;obtain⟨x,hx,h5⟩:=List.any_eq_true.1 h4;rw[qG,qG,jU]at h5;exact⟨a,(hS a).2 ha,x,hx,by simpa using h5.1.1,h5.1.2,h5.2⟩
theorem q5K:∀(t:List UInt8) (q:Nat),q<6->t.foldl dK q<6
 |[],_,h=>h
 |c::t,q,h=>by
  refine q5K t _ ?_;unfold dK
  (repeat' split)<;>omega
theorem T0:∀(t:List UInt8) (b:Nat),vS eK 0 (t.map UInt8.toNat) b↔b∈tK (t.reverse.foldl dK 0)
 |[],b=>by
  show Rch eK (fun i=>i=0) b↔b∈tK 0;exact⟨D3 (fun b hb=>by rw[show b=0 from hb];decide) (by decide+kernel),yP (hit:=fun b=>b==0) (fun b hb=>by simpa using hb) _ [] (by simp) (by decide+kernel) b⟩
 |c::t,b=>by
  rw[List.reverse_cons,qV];show Rch eK (By eK (vS eK 0 (t.map UInt8.toNat)) c.toNat) b↔b∈tK (dK (t.reverse.foldl dK 0) c);exact q1U (q5K _ _ (by decide)) c (T0 t) b
def q7P(q k:Nat):Bool:=(tK q).any fun x=>decide (rK.getD x 0=(k:Int))
theorem q5L:∀q,q<6->q6S ((List.range 32).filter (q7P q))=oK q:=by decide+kernel
theorem qaf:∀q,q<6->∀x∈tK q,x<eK.length:=by decide+kernel
theorem yQ:dZ eK 0 rK=true:=by decide+kernel
theorem qag(t:List UInt8):q6S (q9F eK 0 rK (t.map UInt8.toNat))=oK (t.foldl dK 0):=by
 have hq:=q5K t 0 (by decide);rw[<-q5L _ hq];unfold q9F;rw[qt yQ];rw[q09 (q7P (t.foldl dK 0)) fun k _=>?_]
 have ha:∀x,vS eK (0:Int).toNat (t.map UInt8.toNat).reverse x↔x∈tK (t.foldl dK 0):=fun x=>by
  have h:=T0 t.reverse x;rwa [List.reverse_reverse,List.map_reverse]at h
 unfold q7P;rw[List.any_eq_true]
 constructor
 ·rintro⟨x,-,h1,h2⟩;exact⟨x,(ha x).1 h1,qw h2⟩
 rintro⟨x,h1,h2⟩;exact⟨x,qaf _ hq x h1,(ha x).2 h1,j9 h2⟩
theorem qah:q9a [iP,iQ]:=fun _ a x hx=>by
 have h:∀row∈eK,∀x∈row,EdW x:=by unfold EdW WQ;decide+kernel
 rw[show mkS [iP,iQ] [iP,iQ].length=mkS [iP,iQ] 2 from rfl,q9L]at hx;have hx:x∈eK.getD a []:=hx;by_cases ha:a<eK.length
 ·rw[qq,qv ha,qJ]at hx
  exact h _ (ji ha) x hx
 rw[qq,qM (by omega)]at hx;cases hx
def q9k:List (List UInt8):=[[],[116],[101,116],[108,101,116],[97]]
def qaC(q:Nat):List Int:=q9k.map fun u=>oK (u.foldl dK q)
theorem q7Q:∀p,p<6->∀q,q<6->qaC p=qaC q->p=q:=by decide+kernel
theorem q9l:q40 [iP,iQ]=0/\(q13 [iP,iQ]).next.length=6/\∀t,iI (q13 [iP,iQ]) t=oK (t.foldl dK 0):=by
 obtain⟨R,hR⟩:=q7O;have em:mkS [iP,iQ] [iP,iQ].length=mkS [iP,iQ] 2:=rfl;have e1:(mkS [iP,iQ] [iP,iQ].length).e=eK:=by rw[em,q9L];rfl
 have e2:(mkS [iP,iQ] [iP,iQ].length).r=rK:=by rw[em,q9L];rfl
 rw[<-em,e1,e2]at hR;have hv:=A1 yQ hR;have hI:z6 eK 0 rK=rS eK 0 rK R:=by unfold z6;rw[qt yQ,hR]
 have hE:xU eK 0 rK=0:=by unfold xU;rw[qt yQ,hR]
 have hA:q13 [iP,iQ]=hU (rS eK 0 rK R):=by
  unfold q13;rw[e1,e2,hI,M0 hv]
 have h5:∀t,iI (rS eK 0 rK R) t=oK (t.foldl dK 0):=fun t=>(q1v yQ hR t).trans (qag t);refine⟨?_,?_,fun t=>?_⟩
 ·unfold q40
  rw[qr (by rw[qad];simp),e1,e2,qr (by rw[hE];simp),hI,M1 hv]
 ·rw[hA,sA]
  refine X1 hv (sN _) 6 dK oK h5 (fun t=>q5K t 0 (by decide)) (fun q hq=>?_) (fun p q hp hq h=>q7Q p hp q hq ?_)
  ·rcases(show q=0\/q=1\/q=2\/q=3\/q=4\/q=5 by omega)with rfl|rfl|rfl|rfl|rfl|rfl
   ·exact⟨[],rfl⟩
   ·exact⟨[108],rfl⟩
   ·exact⟨[108,101],rfl⟩
   ·exact⟨[108,101,116],rfl⟩
   ·exact⟨[97],rfl⟩
   exact⟨[0],rfl⟩
  exact List.map_congr_left fun u _=>h u
 rw[hA,q1j hv (sN _),h5]
theorem qai:q7K fKn=([(q46,q46),(q9f,q8f)],q13 [iP,iQ],[]):=by
 unfold q7K;rw[q47]
 have ht:vI [(q46,q46),(q9f,q8f)]=([iP,iQ],0):=by
  unfold vI;simp only[List.any_cons,List.any_nil,qF,jq,q6t,q6u]
  rfl
 simp only[ht,q9l.1,ne_eq,not_true_eq_false,jp]
theorem q7R:q9a ((eI fKn).1.map fun x=>(iY x.2).1):=by
 rw[q47]
 have e:([(q46,q46),(q9f,q8f)]:List Rul).map (fun x=>(iY x.2).1)=[iP,iQ]:=by
  simp only[qF,jq,q6t,q6u]
 rw[e];exact qah
theorem q9m:q9a ((eI []).1.map fun x=>(iY x.2).1):=by
 rw[q17];intro h;exact absurd h (by unfold rH;simp)
theorem q9n:q7K []=([],cG,[(17,0)]):=by
 unfold q7K;rw[q17,qt (by simp)]
end Go.Cm
namespace Go.Cm
open Go.RowKit Go.Proofs
theorem q49:Q8 [(17,0)]=[101,109,112,116,121,32,97,116,32,48]:=by decide+kernel
structure BlB(W:World)(g:Nat)(u:Value)(b:List (Nat×Nat)):Prop where
 box:Own W g 45 (.slice (some ⟨g,0,none⟩) 1 1) [u]
 err:dF W b u
theorem BlB.up{W W':World}{g:Nat}{u:Value}{b:List (Nat×Nat)}(h:BlB W g u b)(hb:Below W.heap.size W W'):BlB W' g u b:=⟨h.box.up hb,dF.up hb h.err⟩
theorem BlB.cell{W:World}{g:Nat}{u:Value}{b:List (Nat×Nat)}(h:BlB W g u b):W.cell? ⟨g,0,none⟩=some u:=h.box.cell (i:=0) (by simp)
structure DB(W:World)(g:Nat)(A:Array Value)(d:Dfa)(u:Value)(b:List (Nat×Nat)):Prop where
 din:pU W g A d
 bl:BlB W (g+1) u b
theorem DB.up{W W':World}{g:Nat}{A:Array Value}{d:Dfa}{u:Value}{b:List (Nat×Nat)}(h:DB W g A d u b)(hb:Below W.heap.size W W'):DB W' g A d u b:=⟨h.din.up hb,h.bl.up hb⟩
theorem DB.first{W w1:World}{A Z:Array Value}(_hg:w1.heap[W.heap.size]? =some (.cells A 41 (0,0)))(hgr:((W.alloc (.cells Z 41)).alloc (.cells #[.nilIface] 45)).grownBy w1 (some W.heap.size)):
  Own w1 (W.heap.size+1) 45 (.slice (some ⟨W.heap.size+1,0,none⟩) 1 1) [.nilIface]/\Below W.heap.size W w1:=by
 have h1:=oN (W.alloc (.cells Z 41)) 45;rw[show(W.alloc (.cells Z 41)).heap.size=W.heap.size+1 by simp]at h1;refine⟨h1.keep hgr (.inr (fun e=>absurd (qo (show some (W.heap.size+1)=some W.heap.size from e)) (by omega))),?_⟩;exact(kO (aA W (.cells Z 41)) _).grown hgr (by simp;omega) (by rintro k ⟨⟩;exact qb _)
theorem DB.second{W w1 w2:World}{A:Array Value}{d:Dfa}{u:Value}{b:List (Nat×Nat)}(hg:w1.heap[W.heap.size]? =some (.cells A 41 (0,0)))(hb:Below W.heap.size W w1)(hd:yU W A d)(he:dF W b u)
  (ho:Own w2 (W.heap.size+1) 45 (.slice (some ⟨W.heap.size+1,0,none⟩) 1 1) [u]) (hgr:w1.grownBy w2 (some (W.heap.size+1))):DB w2 W.heap.size A d u b/\Below W.heap.size W w2:=by
 have hb2:=hb.grown hgr hb.size (by rintro k ⟨⟩;omega);refine⟨⟨⟨(hgr.block W.heap.size (lt_of_block hg) (by intro e;have:=qo e;omega)).trans hg,hd.up hb2⟩,ho,dF.up hb2 he⟩,hb2⟩
theorem q7S{w:World}(hL:gJ w)(hT:iZ w):Calls prog 6 #[] w fun e w'=>e=.returned (.bool true)/\∃x,w'=ext w x:=by
 have hz:=nA;have hbd:=oE;obtain⟨Z,hZ⟩:∃Z,Z=rN:=⟨_,rfl⟩;rw[<-hZ]at hz hbd;have HBN:Hid (∀W:World,lA (W.alloc (.cells Z 41)) W.heap.size (.slice none 0 0) (.slice none 0 0) (List.replicate 256 0)):=qa (fun W=>hZ▸nB W);have HB:=qa (qk w.heap.size w);obtain⟨-,c2,c3⟩:=q9l;have c1:=qai;generalize q13 [iP,iQ]=D at*
 have HP0:Hid (∀W,Below w.heap.size w W->Calls prog 12 #[.string ⟨#[108,101,116,32,61,32,108,101,116,10,119,111,114,100,32,61,32,91,97,45,122,93,43]⟩] W (q14 ([(q46,q46),(q9f,q8f)],D,[]) W)):=qa (fun W hb=>by
  have h:=q9e (s:=⟨#[108,101,116,32,61,32,108,101,116,10,119,111,114,100,32,61,32,91,97,45,122,93,43]⟩) (hL.up hb) (hT.up hb) (by decide+kernel) q7R;rw[show bys ⟨#[108,101,116,32,61,32,108,101,116,10,119,111,114,100,32,61,32,91,97,45,122,93,43]⟩=fKn from rfl,c1]at h;exact h)
 have HP1:Hid (∀W,Below w.heap.size w W->Calls prog 12 #[.string ⟨#[]⟩] W (q14 ([],cG,[(17,0)]) W)):=qa (fun W hb=>by
  have h:=q9e (s:=⟨#[]⟩) (hL.up hb) (hT.up hb) (by decide+kernel) q9m;rw[show bys ⟨#[]⟩=[]from rfl,q9n]at h;exact h)
 have HD:Hid (∀W u,Below w.heap.size w W->dF W [] u->Calls prog 13 #[.agg #[u]] W fun e w'=>e=.returned (.int .i64 0)/\∃x,w'=ext W x):=qa (fun W u hb h=>q5r (hL.up hb) ⟨u,rfl,h⟩ (by decide))
 have HS:Hid (∀W u,Below w.heap.size w W->dF W [(17,0)] u->Calls prog 20 #[.agg #[u]] W fun e w'=>e=.returned (.string ⟨#[101,109,112,116,121,32,97,116,32,48]⟩)/\∃x,w'=ext W x):=qa (fun W u hb h=>by
  have h:=qa6 (hL.up hb) ⟨u,rfl,h⟩ (by decide) (by decide);rw[q49]at h;exact h)
 have HA1:Hid (∀W C,yU W C D->Calls prog 16 #[.agg C,.string ⟨#[108,101,116]⟩] W fun e w'=>e=.returned (.int .i64 0)/\∃x,w'=ext W x):=qa (fun W C h=>by
  have h:=after (.agg C) D ⟨#[108,101,116]⟩ W ⟨C,rfl,h⟩ (by decide);rw[show iI D (ByteArray.mk #[108,101,116]).data.toList=0 from(c3 _).trans (by decide)]at h;exact h)
 have HA2:Hid (∀W C,yU W C D->Calls prog 16 #[.agg C,.string ⟨#[108,101,116,115]⟩] W fun e w'=>e=.returned (.int .i64 1)/\∃x,w'=ext W x):=qa (fun W C h=>by
  have h:=after (.agg C) D ⟨#[108,101,116,115]⟩ W ⟨C,rfl,h⟩ (by decide);rw[show iI D (ByteArray.mk #[108,101,116,115]).data.toList=1 from(c3 _).trans (by decide)]at h;exact h)
 have HA3:Hid (∀W C,yU W C D->Calls prog 16 #[.agg C,.string ⟨#[49]⟩] W fun e w'=>e=.returned (.int .i64 (-1))/\∃x,w'=ext W x):=qa (fun W C h=>by
  have h:=after (.agg C) D ⟨#[49]⟩ W ⟨C,rfl,h⟩ (by decide);rw[show iI D (ByteArray.mk #[49]).data.toList= -1 from(c3 _).trans (by decide)]at h;exact h)
 have HC2:=qa c2;clear hL hT c1 c2 c3 hZ;go_enter func6,ntmps6
 go_upto_region 2 with(first
  |((with_reducible refine(HP0.o _ HB.o).mono ?_);rintro e wa ⟨v0,C0,x,rfl,hli,hdv,⟨u0,rfl,hu⟩,hb⟩;obtain⟨oa0,cap0,b0,off0,hv0,-,-⟩:=cA.sl hli;have hv0:v0=.slice oa0 2 cap0:=hv0;subst hv0;have HDV:=qa hdv;have HE:=qa hu;have HB:=qa (HB.o.trans (hb.mono HB.o.size));clear hli hdv hu hb)
  |(refine fL rfl _ _ rfl wa.heap.size rfl C0 rfl HDV.o ((HBN.o wa).up (aA _ _)) ?_;intro wb hg hgr;obtain⟨ho,hb⟩:=DB.first hg hgr;have HG:=qa hg;have HO:=qa ho;have HBB:=qa hb;clear hg hgr ho hb)
  |(refine cY rfl _ _ rfl (wa.heap.size+1) (wa.heap.size+1) rfl _ u0 rfl HE.o.one HO.o ?_;intro wc ho hg;obtain⟨hk,hb⟩:=DB.second HG.o HBB.o HDV.o HE.o ho hg;have HDB:=qa hk;have HB:=qa (HB.o.trans (hb.mono HB.o.size));clear ho hg hk hb))
 clear HP0 HDV HE HG HO HBB;generalize wa.heap.size=g0 at*
 go_upto_region 3 with(first
  |((with_reducible refine(HP1.o _ HB.o).mono ?_);rintro e wd ⟨v1,C1,x,rfl,hli,hdv,⟨u1,rfl,hu⟩,hb⟩;have HDV:=qa hdv;have HE:=qa hu;have HDB:=qa (HDB.o.up hb);have HB:=qa (HB.o.trans (hb.mono HB.o.size));clear hli hdv hu hb)
  |(refine fL rfl _ _ rfl wd.heap.size rfl C1 rfl HDV.o ((HBN.o wd).up (aA _ _)) ?_;intro we hg hgr;obtain⟨ho,hb⟩:=DB.first hg hgr;have HG:=qa hg;have HO:=qa ho;have HBB:=qa hb;clear hg hgr ho hb)
  |(refine cY rfl _ _ rfl (wd.heap.size+1) (wd.heap.size+1) rfl _ u1 rfl HE.o.one HO.o ?_;intro wf ho hg;obtain⟨hk,hb⟩:=DB.second HG.o HBB.o HDV.o HE.o ho hg;have HDB:=qa (HDB.o.up hb);have qcl:=qa hk;have HB:=qa (HB.o.trans (hb.mono HB.o.size));clear ho hg hk hb))
 clear HP1 HDV HE HG HO HBB HBN;generalize wd.heap.size=g1 at*;have HCS:=qa HDB.o.din.2.hsize;have cc0:=HDB.o.bl.cell
 go_wp2_with((with_reducible refine(HD.o _ _ HB.o HDB.o.bl.err).mono ?_);rintro e w1 ⟨rfl,hx⟩;have hb:=aB hx;have HDB:=qa (HDB.o.up hb);have qcl:=qa (qcl.o.up hb);have HB:=qa (HB.o.trans (hb.mono HB.o.size));clear hx hb cc0)
 refine rR _ rfl g0 rfl C0 HCS.o HDB.o.din.1 ?_
 go_wp2_with(fail)
 refine(HA1.o _ _ HDB.o.din.2).mono ?_;rintro e w2 ⟨rfl,hx⟩;have hb:=aB hx;have HDB:=qa (HDB.o.up hb);have qcl:=qa (qcl.o.up hb);have HB:=qa (HB.o.trans (hb.mono HB.o.size));clear hx hb
 go_wp2_with(fail)
 refine rR _ rfl g0 rfl C0 HCS.o HDB.o.din.1 ?_
 go_wp2_with(fail)
 refine(HA2.o _ _ HDB.o.din.2).mono ?_;rintro e w3 ⟨rfl,hx⟩;have hb:=aB hx;have HDB:=qa (HDB.o.up hb);have qcl:=qa (qcl.o.up hb);have HB:=qa (HB.o.trans (hb.mono HB.o.size));clear hx hb
 go_wp2_with(fail)
 refine rR _ rfl g0 rfl C0 HCS.o HDB.o.din.1 ?_
 go_wp2_with(fail)
 refine(HA3.o _ _ HDB.o.din.2).mono ?_;rintro e w4 ⟨rfl,hx⟩;have hb:=aB hx;have HDB:=qa (HDB.o.up hb);have qcl:=qa (qcl.o.up hb);have HB:=qa (HB.o.trans (hb.mono HB.o.size));clear hx hb;obtain⟨oa,cap,hn⟩:=q7A HDB.o.din.2;rw[HC2.o]at hn;have hcn:w4.cell? ⟨g0,256,none⟩=some (.slice oa 6 cap):=(cell_of_row w4 g0 256 C0 41 (0,0) HDB.o.din.1).trans hn;have cc1:=qcl.o.bl.cell;clear hn
 go_wp2_with((with_reducible refine(HS.o _ _ HB.o qcl.o.bl.err).mono ?_);rintro e w5 ⟨rfl,hx⟩;have HB:=qa (HB.o.trans ((aB hx).mono HB.o.size));clear hx)
 go_ret;exact⟨rfl,aI HB.o⟩
theorem q4l{w:World}{B:Nat}{v:Value}{ll:List (List Nd)}(h:q96 w B v ll):gW w v ll:=by
 obtain⟨vs,ho,hr⟩:=h;exact⟨vs,ho.sl,hr.1,hr.nodes (qk _ _)⟩
theorem q4m(ls:List Rul):(vI ls).2=0\/(vI ls).2=4:=by
 unfold vI;split
 ·exact .inr rfl
 exact .inl rfl
theorem q5V(ls:List Rul):(vI ls).1.length<=ls.length:=by
 unfold vI;split
 ·exact qd _
 simp
theorem K3{w:World}{v:Value}{ls:List Rul}(hL:gJ w)(hT:iZ w)(hl:SlK 2 w v (ls.map z9))(hf:∀x∈ls,x.1.length<=140737488351232/\x.2.length<=140737488351232):
  Calls prog 3 #[v] w fun e w'=>e=.returned (.bool true)/\Below w.heap.size w w':=by
 have HK:Hid (∀W,Below w.heap.size w W->Calls prog 6 #[] W fun e w'=>e=.returned (.bool true)/\∃x,w'=ext W x):=qa (fun W hb=>q7S (hL.up hb) (hT.up hb));have HSL:=qa hl;obtain⟨oa,cap,b,off,hv,hd,hc⟩:=hl;rw[qy]at hv hd hc;subst hv;have hm:=hd.len;by_cases h1:ls.length>100
 ·have h1i:(ls.length:Int)>100:=by omega
  generalize ls.length=n at*;have HK0:=qa (HK.o w (qk _ _));clear h1 hL hT HK hd hc hf;go_enter func3,ntmps3
  go_wp2_with(go_at_call 6;(with_reducible refine(HK0.o).mono ?_);rintro e w2 ⟨rfl,hx⟩;have HB:=qa (aB hx);clear hx)
  go_ret;exact⟨rfl,HB.o⟩
 have h1i:¬(ls.length:Int)>100:=by omega
 have hix:=fun(W:World) (i:Nat) (hi:i<ls.length)=>gY (P:=prog) 2 22 25 underlying22 (by kernel_rfl) hd W .i64 i (by omega) (by omega);simp only[qA]at hix;have HIX:=qa hix;have hbl:=hd.hblk
 have HCN:Hid (∀W i,i<ls.length->Below w.heap.size w W->W.cell? ⟨b,off+i*2+1,none⟩=some (.string ⟨(ls.getD i ([],[])).2.toArray⟩)):=qa (fun W i hi hb=>by
  have hbb:=hbl (by omega);have h1:=hc i hi 1 (by decide);rw[q0R ls i _ hi]at h1;rw[hb.cell (p:=⟨b,off+i*2+1,none⟩) hbb];exact h1)
 have HFJ:Hid (∀j,j<ls.length->(ls.getD j ([],[])).2.length<=140737488351232):=qa (fun j hj=>(hf _ (by
  rw[qq,qv hj];exact ji _)).2)
 have HTC:Hid (∀W,Below w.heap.size w W->Calls prog 7 #[.slice oa ls.length cap] W (C7 (vI ls) W)):=qa (fun W hb=>q6q (hT.up hb) (SlK.up HSL.o hb) (by omega));have HTR:Hid (∀W,Below w.heap.size w W->Calls prog 8 #[.slice oa ls.length cap] W (C7 (vI ls) W)):=qa (fun W hb=>q9v (SlK.up HSL.o hb) (by omega));have HSM:Hid (∀W v u l,cB W v l->cB W u l->Calls prog 9 #[v,u] W fun e w'=>e=.returned (.bool true)/\∃x,w'=ext W x):=qa (fun W v u l h1 h2=>qan h1 h2);have HCO:=qa (q4m ls);have HLE:=qa (q5V ls);generalize vI ls=Y at*;obtain⟨tl,tc⟩:=Y;simp only at HCO HLE;obtain⟨n,hnn⟩:∃n,n=ls.length:=⟨_,rfl⟩;rw[<-hnn]at HIX HCN HTC HTR HFJ HLE hm h1i h1⊢;unfold C7 at HTC HTR;simp only at HTC HTR;clear hL hT hd hc hix hbl hf HSL hnn;go_enter func3,ntmps3;go_wp2
 go_loopg [3] (n+1) (fun gk iv wr=>∃i:Nat,i<=n/\iv=.int .i64 i/\Below w.heap.size w wr/\gk=n+1-i)
 case atStart=>exact⟨0,qd _,rfl,qk _ _,rfl⟩
 case round=>
  obtain⟨i,hi,rfl,hB,hgk⟩:=hrel;have HB:=qa hB;have HGK:=qa hgk;clear hB hgk;by_cases hlt:i<n
  ·have qbi:=fun W=>HIX.o W i hlt
   have c1:=HCN.o wr i hlt HB.o;have z1:=HFJ.o i hlt;generalize ls.getD i ([],[])=x at*;obtain⟨xn,xt⟩:=x;simp only at c1 z1;have e1:(⟨xt.toArray⟩:ByteArray).size=xt.length:=by show(List.toArray _).size=_;rw[jA]
   rw[<-e1]at z1;generalize (⟨xt.toArray⟩:ByteArray)=st at*;clear e1 HTC HTR HSM;by_cases hb:st.size>600
   ·have hbi:(st.size:Int)>600:=by omega
    clear hb
    go_wp2_with(go_at_call 6;(with_reducible refine(HK.o _ HB.o).mono ?_);rintro e wg ⟨rfl,hx⟩;have hb:=aB hx;have HB:=qa (HB.o.trans (hb.mono HB.o.size));clear hx hb)
    go_ret;exact⟨rfl,HB.o⟩
   have hbi:¬(st.size:Int)>600:=by omega
   clear hb;go_wp2
   go_roundg (n-i)
   case measure=>have:=HGK.o;omega
   case rel=>exact⟨i+1,by omega,by go_num,HB.o,by omega⟩
  obtain rfl:i=n:=by omega
  clear HIX HCN HFJ HGK hlt hi
  go_upto_region 9 with(go_at_call 7;(with_reducible refine(HTC.o _ HB.o).mono ?_);rintro e w2 ⟨v2,rfl,hO,hb⟩;have HA:=qa (q4l hO);have HB:=qa (HB.o.trans (hb.mono HB.o.size));clear hO hb)
  obtain⟨oA,capA,bA,fA,rfl,-,-⟩:=HA.o.open
  go_upto_region 10 with(go_at_call 8;(with_reducible refine(HTR.o _ HB.o).mono ?_);rintro e w3 ⟨v3,rfl,hO,hb⟩;have HC:=qa (q4l hO);have HA:=qa (HA.o.up hb);have HB:=qa (HB.o.trans (hb.mono HB.o.size));clear hO hb)
  obtain⟨oA',capA',bA,fA,hvA,hdA,hcA⟩:=HA.o.open;obtain⟨rfl,-,rfl⟩:=Value.slice.inj hvA;obtain⟨oC,capC,bC,fC,rfl,hdC,hcC⟩:=HC.o.open;have qfv:=fun(W:World) (i:Nat) (hi:i<tl.length)=>fN hdA W .i64 i (by omega) (by omega);have qfu:=fun(W:World) (i:Nat) (hi:i<tl.length)=>fN hdC W .i64 i (by omega) (by omega);simp only[qA]at qfv qfu;have HIA:=qa qfv;have HIC:=qa qfu;have HCA:=qa hcA;have HCC:=qa hcC;have hbA:=hdA.hblk;have hbC:=hdC.hblk;have hn2:=HLE.o;have htc:=HCO.o;have qkl:((tc:Nat):Int)<=4:=by omega
  obtain⟨m,hmm⟩:∃m,m=tl.length:=⟨_,rfl⟩;rw[<-hmm]at HIA HIC HCA HCC hbA hbC hn2⊢;clear HTC HTR hvA hdA hdC hcA hcC qfv qfu HA HC HCO HLE htc hmm;go_wp2
  go_loopg [8] (m+1) (fun gk iv wr=>∃i:Nat,i<=m/\iv=.int .i64 i/\Below w3.heap.size w3 wr/\gk=m+1-i)
  case atStart=>exact⟨0,qd _,rfl,qk _ _,rfl⟩
  case round=>
   obtain⟨j,hj,rfl,hBj,hgk⟩:=hrel;have HBJ:=qa hBj;have HGK:=qa hgk;clear hBj hgk;by_cases hlt:j<m
   ·have qkP:=fun W=>HIA.o W j hlt
    have qkO:=fun W=>HIC.o W j hlt;obtain⟨ua,ca,na⟩:=HCA.o j hlt;obtain⟨uc,cc,nc⟩:=HCC.o j hlt;have hba:=hbA (by omega);have hbc:=hbC (by omega);have c2:wr.cell? ⟨bA,fA+j,none⟩=some ua:=(HBJ.o.cell (p:=⟨bA,fA+j,none⟩) hba).trans ca;have c3:wr.cell? ⟨bC,fC+j,none⟩=some uc:=(HBJ.o.cell (p:=⟨bC,fC+j,none⟩) hbc).trans cc;have hsz:=HBJ.o.size;have qjo:bA<wr.heap.size:=by omega
    have qjl:bC<wr.heap.size:=by omega
    have HNA:=qa (na.up HBJ.o);have HNC:=qa (nc.up HBJ.o);generalize tl.getD j []=nd at*;clear ca cc na nc hba hbc hsz HIA HIC HCA HCC
    go_upto_region 15 with(fail)
    refine bO (by kernel_rfl) (by kernel_rfl) ?_
    repeat(go_big_quiet_step ((go_at_call 9;with_reducible exact bY (HSM.o _ _ _ _ (HNA.o.up (aD _ _)) (HNC.o.up (aD _ _))))))
    refine wpQuiet_nil ?_;intro w5 hx;have HB5:=qa (HBJ.o.trans ((aB hx).mono HBJ.o.size));clear hx c2 c3 qjo qjl;go_wp2
    go_roundg (m-j)
    case measure=>have:=HGK.o;omega
    case rel=>exact⟨j+1,by omega,by go_num,HB5.o,by omega⟩
   obtain rfl:j=m:=by omega
   have HB5:=qa (HB.o.trans (HBJ.o.mono HB.o.size));clear HIA HIC HCA HCC
   go_wp2_with(go_at_call 6;(with_reducible refine(HK.o _ HB5.o).mono ?_);rintro e wg ⟨rfl,hx⟩;have hb:=aB hx;have HB:=qa (HB5.o.trans (hb.mono HB5.o.size));clear hx hb)
   go_ret;exact⟨rfl,HB.o⟩
end Go.Cm
