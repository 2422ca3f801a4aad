/- Walks of functions and plain facts, joined and squeezed by a program. Conditions: as each says. -/
import Derived.Test.YtcdaljipemapbaaDoorRXTH
import Derived.Test.YtcdaljipemapbaaDoorRXTF
set_option maxHeartbeats 8000000
set_option maxRecDepth 100000
set_option linter.unusedSimpArgs false
namespace Go.Cm
theorem lL{p:UInt8->Bool}{a:qM}(ha:∀c∈a,p c=true):qK p a=a.length:=by
 have:=aK (b:=[]) ha (by simp)
 simpa using this
end Go.Cm
namespace Go.Cm
open Go.RowKit Go.Proofs
theorem t9{w:World}{v:Value}{ls:List Rul}(hl:SlK 2 w v (ls.map aP))(hn:ls.length<=1000)(hz:∀x∈ls,x.1.length<=8192/\x.2.length<=8192):
  Calls Tryd.prog 8 #[v] w fun e w'=>e=.returned (.string ⟨(j8 ls).toArray⟩)/\∃x,w'=ext w x:=by
 obtain⟨oa,cap,b,off,hv,hd,hc⟩:=hl;rw[List.length_map]at hv hd hc;subst hv;have hix:=fun(W:World) (i:Nat) (hi:i<ls.length)=>je (P:=Tryd.prog) 2 22 25 Tryd.underlying22 (by kernel_rfl) hd W .i64 i (by omega) (by omega)
 simp only[Int.toNat_natCast]at hix;have HIX:=q9 hix;have HC:Hid (∀i,i<ls.length->∀c,c<2->w.cell? ⟨b,off+i*2+c,none⟩=some ((#[.string ⟨(ls.getD i ([],[])).1.toArray⟩,.string ⟨(ls.getD i ([],[])).2.toArray⟩]:Array Value).getD c undef)):=q9 (fun i hi c hcl=>by rw[hc i hi c hcl,dK ls i c hi])
 have HZ:=q9 hz;have hbl:=hd.hblk;have hm:=hd.len;obtain⟨n,hnn⟩:∃n,n=ls.length:=⟨_,rfl⟩;have HN:=q9 hnn;rw[<-hnn]at HIX HC hbl hn hm⊢;clear hd hc hix hnn hz
 go_enter Tryd.func8,Tryd.ntmps8
 go_wp2
 go_loopg [3,4] (n+1) (fun gk sv iv wr=>∃(i:Nat) (t:ByteArray),i<=n/\sv=.string t/\iv=.int .i64 i/\Hid (bys t=j8 (ls.take i))/\Below w.heap.size w wr/\t.size<=i*20000/\gk=n+1-i)
 case atStart=>exact⟨0,⟨#[]⟩,qc _,rfl,rfl,q9 rfl,qi _ _,qc _,rfl⟩
 case round=>
  obtain⟨i,t,hi,rfl,rfl,HA,hB,hts,hgk⟩:=hrel;have HB:=q9 hB;have HGK:=q9 hgk;clear hB hgk
  by_cases hlt:i<n
  ·have vS:=fun W=>HIX.out W i hlt
   have hbb:=hbl (by omega)
   have hbw:b<wr.heap.size:=by have:=HB.out.size;omega
   have HCW:Hid (∀c,c<2->wr.cell? ⟨b,off+i*2+c,none⟩=some ((#[.string ⟨(ls.getD i ([],[])).1.toArray⟩,.string ⟨(ls.getD i ([],[])).2.toArray⟩]:Array Value).getD c undef)):=q9 (fun c hc=>by
    rw[HB.out.cell (p:=⟨b,off+i*2+c,none⟩) hbb];exact HC.out i hlt c hc)
   have HTS:Hid (j8 (ls.take (i+1))=j8 (ls.take i)++((ls.getD i ([],[])).1++[32,61,32]++(ls.getD i ([],[])).2++[10])):=q9 (by
    rw[qE ls i ([],[]) (by rw[<-HN.out];exact hlt),gC])
   have hzi:=HZ.out (ls.getD i ([],[])) (by rw[List.getD_eq_getElem?_getD,List.getElem?_eq_getElem (by rw[<-HN.out];exact hlt)];exact List.getElem_mem _)
   generalize ls.getD i ([],[])=x at*;obtain⟨xn,xt⟩:=x;simp only at HCW HTS hzi;obtain⟨sn,hsn⟩:∃sn:ByteArray,sn=⟨xn.toArray⟩:=⟨_,rfl⟩;obtain⟨st,hst⟩:∃st:ByteArray,st=⟨xt.toArray⟩:=⟨_,rfl⟩;have zF:sn.size<=8192:=by rw[hsn];show(List.toArray _).size<=_;rw[List.size_toArray];exact hzi.1
   have zE:st.size<=8192:=by rw[hst];show(List.toArray _).size<=_;rw[List.size_toArray];exact hzi.2
   rw[<-hsn,<-hst]at HCW;rw[show xn=bys sn by rw[hsn,jr],show xt=bys st by rw[hst,jr]]at HTS
   clear hsn hst hzi;have c0:=HCW.out 0 (by decide)
   have c1:=HCW.out 1 (by decide)
   simp only[Nat.add_zero]at c0;have c0':wr.cell? ⟨b,off+i*2,none⟩=some (.string sn):=c0;have c1':wr.cell? ⟨b,off+i*2+1,none⟩=some (.string st):=c1;clear HIX HC HCW c0 c1;go_wp2;go_simp
   go_quiet (fail)
   have HBd:=q9 (HB.out.trans ((qy wr nq).mono HB.out.size));generalize wr.drewN nq=w5 at*;go_wp2
   go_roundg (n-i)
   case measure=>have:=HGK.out;omega
   case rel=>
    refine⟨i+1,_,by omega,rfl,by go_num,?_,HBd.out,?_,by omega⟩
    ·exact q9 (by rw[HTS.out,<-HA.out];simp only[uK,qh];rfl)
    ·simp only[ByteArray.size_append]
     rw[show(⟨#[32,61,32]⟩:ByteArray).size=3 from rfl,show(⟨#[10]⟩:ByteArray).size=1 from rfl]
     omega
  ·obtain rfl:i=n:=by omega
   have HE:Hid (t=⟨(j8 ls).toArray⟩):=q9 (by rw[<-gB t,HA.out,HN.out,List.take_length])
   go_wp2;go_ret;rw[HE.out]
   exact⟨rfl,qv HB.out⟩
theorem tA(c:Nat)(w:World):Calls Tryd.prog 21 #[.int .u8 c] w fun e w'=>e=.returned (.bool (decide (97<=c)&&decide (c<=122)))/\w'=w:=by
 by_cases h1:97<=c
 ·by_cases h2:c<=122
  ·have HE:Hid ((decide (97<=c)&&decide (c<=122))=true):=q9 (by simp[h1,h2])
   rw[HE.out]
   go_enter Tryd.func21,Tryd.ntmps21
   go_wp2;go_ret
   first|exact⟨rfl,rfl⟩|(refine⟨?_,rfl⟩;simp;omega)
  ·have HE:Hid ((decide (97<=c)&&decide (c<=122))=false):=q9 (by simp[h2])
   rw[HE.out]
   go_enter Tryd.func21,Tryd.ntmps21
   go_wp2;go_ret
   first|exact⟨rfl,rfl⟩|(refine⟨?_,rfl⟩;simp;omega)
 ·have HE:Hid ((decide (97<=c)&&decide (c<=122))=false):=q9 (by simp[h1])
  rw[HE.out]
  go_enter Tryd.func21,Tryd.ntmps21
  go_wp2;go_ret
  first|exact⟨rfl,rfl⟩|(refine⟨?_,rfl⟩;simp;omega)
theorem tZ(c:Nat)(w:World):Calls Tryd.prog 22 #[.int .u8 c] w fun e w'=>e=.returned (.bool (oQ c))/\w'=w:=by
 have HL:=q9 (tA c);have HE:Hid (oQ c=((decide (97<=c)&&decide (c<=122))||((decide (48<=c)&&decide (c<=57))||decide (c=95)))):=q9 rfl;rw[HE.out]
 cases hb:(decide (97<=c)&&decide (c<=122))
 ·rw[hb]at HL
  rw[Bool.false_or]
  by_cases h1:48<=c/\c<=57
  ·obtain⟨a1,a2⟩:=h1
   rw[show((decide (48<=c)&&decide (c<=57))||decide (c=95))=true by simp[a1,a2]]
   clear hb
   go_enter Tryd.func22,Tryd.ntmps22
   go_wp2_with((with_reducible refine(HL.out _).mono ?_);rintro e w2 ⟨rfl,rfl⟩)
   go_ret
   first|exact⟨rfl,rfl⟩|(refine⟨?_,rfl⟩;simp;omega)
  ·by_cases h2:c=95
   ·have h2b:((c:Int)==95)=true:=by rw[h2];rfl
    have h3:48<=c:=by omega
    have h4:¬c<=57:=by omega
    rw[show((decide (48<=c)&&decide (c<=57))||decide (c=95))=true by simp[h2]]
    clear hb h1 h2
    go_enter Tryd.func22,Tryd.ntmps22
    go_wp2_with((with_reducible refine(HL.out _).mono ?_);rintro e w2 ⟨rfl,rfl⟩)
    go_ret
    first|exact⟨rfl,rfl⟩|(refine⟨?_,rfl⟩;simp;omega)
   ·have h2b:((c:Int)==95)=false:=by simp;omega
    rw[show((decide (48<=c)&&decide (c<=57))||decide (c=95))=false by simp[h2];omega]
    by_cases h3:48<=c
    ·have h4:¬c<=57:=fun h=>h1 ⟨h3,h⟩
     clear hb h1 h2
     go_enter Tryd.func22,Tryd.ntmps22
     go_wp2_with((with_reducible refine(HL.out _).mono ?_);rintro e w2 ⟨rfl,rfl⟩)
     go_ret
     first|exact⟨rfl,rfl⟩|(refine⟨?_,rfl⟩;simp;omega)
    ·clear hb h1 h2
     go_enter Tryd.func22,Tryd.ntmps22
     go_wp2_with((with_reducible refine(HL.out _).mono ?_);rintro e w2 ⟨rfl,rfl⟩)
     go_ret
     first|exact⟨rfl,rfl⟩|(refine⟨?_,rfl⟩;simp;omega)
 ·rw[hb]at HL
  rw[Bool.true_or];clear hb
  go_enter Tryd.func22,Tryd.ntmps22
  go_wp2_with((with_reducible refine(HL.out _).mono ?_);rintro e w2 ⟨rfl,rfl⟩)
  go_ret
  first|exact⟨rfl,rfl⟩|(refine⟨?_,rfl⟩;simp;omega)
theorem tB(s:ByteArray)(hs:s.size<=1000000)(w:World):Calls Tryd.prog 10 #[.string s] w fun e w'=>e=.returned (.bool (a6 (bys s)))/\w'=w:=by
 obtain⟨R,hR⟩:∃R,R=a6 (bys s):=⟨_,rfl⟩;rw[<-hR]
 by_cases h0:s.size=0
 ·have HE:Hid (R=false):=q9 (by rw[hR];obtain rfl:=cQ h0;rfl)
  rw[HE.out];have h1:(s.size:Int)<1:=by omega
  clear h0 hR
  go_enter Tryd.func10,Tryd.ntmps10
  go_wp2;go_ret
  exact⟨rfl,rfl⟩
 ·have h1:¬(s.size:Int)<1:=by omega
  have hix:∀W,(Instr.index 9 (.string s) (.int .i64 0)).run Tryd.prog W=.ok (.int .u8 (((bys s).getD 0 0).toNat:Nat)) W:=fun W=>jc (P:=Tryd.prog) 9 Tryd.underlying9 (s:=s) (i:=0) (by omega) W
  have vS:∀i,i<s.size->∀W,(Instr.index 9 (.string s) (.int .i64 i)).run Tryd.prog W=.ok (.int .u8 (((bys s).getD i 0).toNat:Nat)) W:=fun i hi W=>jc (P:=Tryd.prog) 9 Tryd.underlying9 (s:=s) (i:=i) hi W
  have A6:=q9 vS;have hct:=((bys s).getD 0 0).toNat_lt;unfold a6 at hR
  have e1:(bys s).isEmpty=false:=by
   cases hb:bys s with
   |nil=>exact absurd (by have:=congrArg List.length hb;rwa [qt]at this) h0
   |cons _ _=>rfl
  have e2:(bys s).headD 0=(bys s).getD 0 0:=by cases bys s<;>rfl
  rw[e1,e2,qt]at hR;have HC:Hid (∀W,Calls Tryd.prog 21 #[.int .u8 (((bys s).getD 0 0).toNat:Nat)] W fun e w'=>e=.returned (.bool (nB ((bys s).getD 0 0)))/\w'=W):=q9 (fun W=>tA _ W)
  by_cases h16:s.size<=16
  ·rw[decide_eq_true h16,Bool.and_true]at hR
   have zZ:¬(s.size:Int)>16:=by omega
   cases hc:nB ((bys s).getD 0 0)with
   |false=>
    rw[hc]at HC hR;generalize ((bys s).getD 0 0)=c at*;have HE:Hid (R=false):=q9 (by rw[hR];rfl)
    rw[HE.out];clear hR hc e1 e2 h16 h0 vS
    go_enter Tryd.func10,Tryd.ntmps10
    go_wp2_with((with_reducible refine(HC.out _).mono ?_);rintro e w2 ⟨rfl,rfl⟩)
    go_ret
    exact⟨rfl,rfl⟩
   |true=>
    rw[hc]at HC hR;have HR:Hid (R=decide (qK bE (bys s)=s.size)):=q9 (by rw[hR];simp)
    have HIN:Hid (∀i W,Calls Tryd.prog 22 #[.int .u8 (((bys s).getD i 0).toNat:Nat)] W fun e w'=>e=.returned (.bool (bE ((bys s).getD i 0)))/\w'=W):=q9 (fun i W=>by rw[(cD _).1.1];exact tZ _ W)
    generalize ((bys s).getD 0 0)=c at*;clear hR hc e1 e2 h16 h0 vS
    go_enter Tryd.func10,Tryd.ntmps10
    go_wp2_with((with_reducible refine(HC.out _).mono ?_);rintro e w2 ⟨rfl,rfl⟩)
    clear hix
    go_loopg [3] (s.size+1) (fun gk iv wr=>∃i:Nat,i<=s.size/\iv=.int .i64 i/\Hid (∀j,j<i->bE ((bys s).getD j 0)=true)/\wr=w2/\gk=s.size+1-i)
    case atStart=>exact⟨0,qc _,rfl,q9 (fun j hj=>absurd hj (Nat.not_lt_zero j)),rfl,rfl⟩
    case round=>
     obtain⟨i,hi,rfl,HA,hw,hgk⟩:=hrel;subst hw;have HGK:=q9 hgk;clear hgk
     by_cases hlt:i<s.size
     ·have hix:=A6.out i hlt
      have HI:=q9 (fun W=>HIN.out i W)
      have hcl:=((bys s).getD i 0).toNat_lt
      cases hb:bE ((bys s).getD i 0)with
      |false=>
       rw[hb]at HI
       have HE:Hid (R=false):=q9 (by
        rw[HR.out];refine decide_eq_false fun h=>?_
        have:=iF (by rw[h,qt]) ((bys s).getD i 0) (by
         rw[List.getD_eq_getElem?_getD,List.getElem?_eq_getElem (by rw[qt];exact hlt)];exact List.getElem_mem _)
        rw[hb]at this
        cases this)
       generalize ((bys s).getD i 0)=d at*;clear hb
       go_wp2_with((with_reducible refine(HI.out _).mono ?_);rintro e w2 ⟨rfl,rfl⟩)
       go_ret;rw[HE.out]
       exact⟨rfl,rfl⟩
      |true=>
       rw[hb]at HI
       have HA2:Hid (∀j,j<i+1->bE ((bys s).getD j 0)=true):=q9 (fun j hj=>by
        by_cases h:j<i
        ·exact HA.out j h
        ·obtain rfl:j=i:=by omega
         exact hb)
       generalize ((bys s).getD i 0)=d at*;clear hb
       go_wp2_with((with_reducible refine(HI.out _).mono ?_);rintro e w2 ⟨rfl,rfl⟩)
       go_roundg (s.size-i)
       case measure=>rw[HGK.out];omega
       case rel=>exact⟨i+1,by omega,by go_num,HA2,rfl,by omega⟩
     ·obtain rfl:i=s.size:=by omega
      have HE:Hid (R=true):=q9 (by
       rw[HR.out];refine decide_eq_true ?_;rw[lL,qt];intro c hc;obtain⟨j,hj,rfl⟩:=List.getElem_of_mem hc;rw[qt]at hj;have:=HA.out j hj
       rwa [List.getD_eq_getElem?_getD,List.getElem?_eq_getElem (by rw[qt];exact hj)]at this)
      go_wp2;go_ret;rw[HE.out]
      exact⟨rfl,rfl⟩
  ·have zZ:(s.size:Int)>16:=by omega
   have HE:Hid (R=false):=q9 (by rw[hR,decide_eq_false h16];simp)
   rw[HE.out];clear hR e1 e2 h16 h0 vS
   go_enter Tryd.func10,Tryd.ntmps10
   go_wp2;go_ret
   exact⟨rfl,rfl⟩
end Go.Cm
namespace Go.Cm
open Go.RowKit Go.Proofs Go.WideShapes Go.ChangeShapes Go.Deep
section
variable {H : Type} {enc : TypeId × Value → H} {P : Program}
end
section
variable {H : Type} {enc : TypeId × Value → H} {P : Program} {w : World} {base : Nat} {held : Bool}
theorem f8{t e:TypeId}{elems spare:List (DataW H)}(hu:P.underlying t=some (.slice e)):(DataW.slice elems spare).weights P t=(elems.length+spare.length)*P.bytesOf e::(DataW.weightsAll P e elems++DataW.weightsAll P e spare):=by
 simp[DataW.weights,hu]
theorem aU{e:TypeId}{d:DataW H}:∀{l:List (DataW H)},d∈l->∀n∈d.weights P e,n∈DataW.weightsAll P e l
 |a::l,h,n,hn=>by
  simp only[DataW.weightsAll,List.mem_append]
  rcases List.mem_cons.1 h with rfl|h
  ·exact .inl hn
  ·exact .inr (aU h n hn)
theorem iX(b off j:Nat):(⟨b,off,none⟩:Addr).add j=⟨b,off+j,none⟩:=by unfold Addr.add;split<;>simp_all
end
section
variable {H : Type} {enc : TypeId × Value → H} {w : World} {base : Nat} {held : Bool}
end
end Go.Cm
namespace Go.Cm
open Go.RowKit Go.Proofs
theorem hU{w:World}{v:Value}{s:ByteArray}{ls:List Rul}(hL:j6 w)(hT:jn w)(hl:SlK 2 w v (ls.map aP))(hf:Fit 140737488351232 ls)(wF:s.size<=140737488351232):
  Calls Tryd.prog 3 #[v,.string s] w fun e w'=>e=.returned (.bool true)/\Below w.heap.size w w':=by
 have HK:Hid (∀W,Below w.heap.size w W->Calls Tryd.prog 6 #[] W fun e w'=>e=.returned (.bool true)/\∃x,w'=ext W x):=q9 (fun W hb=>hJ (hL.up hb) (hT.up hb))
 have HSL:=q9 hl;have HFI:=q9 hf;obtain⟨oa,cap,b,off,hv,hd,hc⟩:=hl;rw[List.length_map]at hv hd hc;subst hv;have hm:=hd.len
 by_cases h1:ls.length>100
 ·have h1i:(ls.length:Int)>100:=by omega
  generalize ls.length=n at*;have HK0:=q9 (HK.out w (qi _ _));clear h1 hL hT HK hd hc HFI hf
  go_enter Tryd.func3,Tryd.ntmps3
  go_wp2_with(go_at_call 6;(with_reducible refine(HK0.out).mono ?_);rintro e w2 ⟨rfl,hx⟩;have HB:=q9 (qn hx);clear hx)
  go_ret
  exact⟨rfl,HB.out⟩
 ·have h1i:¬(ls.length:Int)>100:=by omega
  by_cases h2:s.size>1000
  ·have h2i:(s.size:Int)>1000:=by omega
   generalize ls.length=n at*;have HK0:=q9 (HK.out w (qi _ _));clear h1 h2 hL hT HK hd hc HFI hf
   go_enter Tryd.func3,Tryd.ntmps3
   go_wp2_with(go_at_call 6;(with_reducible refine(HK0.out).mono ?_);rintro e w2 ⟨rfl,hx⟩;have HB:=q9 (qn hx);clear hx)
   go_ret
   exact⟨rfl,HB.out⟩
  ·have h2i:¬(s.size:Int)>1000:=by omega
   have hix:=fun(W:World) (i:Nat) (hi:i<ls.length)=>je (P:=Tryd.prog) 2 22 25 Tryd.underlying22 (by kernel_rfl) hd W .i64 i (by omega) (by omega)
   simp only[Int.toNat_natCast]at hix;have HIX:=q9 hix;have hbl:=hd.hblk
   have HCN:Hid (∀W i,i<ls.length->Below w.heap.size w W->W.cell? ⟨b,off+i*2,none⟩=some (.string ⟨(ls.getD i ([],[])).1.toArray⟩)/\W.cell? ⟨b,off+i*2+1,none⟩=some (.string ⟨(ls.getD i ([],[])).2.toArray⟩)):=q9 (fun W i hi hb=>by
    have hbb:=hbl (by omega)
    have h0:=hc i hi 0 (by decide)
    have h1:=hc i hi 1 (by decide)
    rw[dK ls i _ hi]at h0 h1;refine⟨?_,?_⟩
    ·rw[hb.cell (p:=⟨b,off+i*2,none⟩) hbb];exact h0
    ·rw[hb.cell (p:=⟨b,off+i*2+1,none⟩) hbb];exact h1)
   have HSH:Hid (Fit 1000 ls->∀W,Below w.heap.size w W->Calls Tryd.prog 7 #[.slice oa ls.length cap] W fun e w'=>e=.returned (.string ⟨(j8 ls).toArray⟩)/\∃x,w'=ext W x):=q9 (fun hf W hb=>rT (SlK.up HSL.out hb) (by omega) (fun x hx=>by have:=hf x hx;omega))
   have HRS:Hid (Fit 1000 ls->∀W,Below w.heap.size w W->Calls Tryd.prog 8 #[.slice oa ls.length cap] W fun e w'=>e=.returned (.string ⟨(j8 ls).toArray⟩)/\∃x,w'=ext W x):=q9 (fun hf W hb=>t9 (SlK.up HSL.out hb) (by omega) (fun x hx=>by have:=hf x hx;omega))
   have HNM:Hid (∀W,Calls Tryd.prog 9 #[.string s] W fun e w'=>e=.returned (.bool (a6 (bys s)))/\∃x,w'=ext W x):=q9 (fun W=>mS s (by omega) W)
   have HRN:Hid (∀W,Calls Tryd.prog 10 #[.string s] W fun e w'=>e=.returned (.bool (a6 (bys s)))/\w'=W):=q9 (fun W=>tB s (by omega) W)
   generalize (⟨(j8 ls).toArray⟩:ByteArray)=S at*;generalize a6 (bys s)=B at*;have hSS:(S.toList==S.toList)=true:=beq_self_eq_true _
   have yA:Hid ((∀j,j<ls.length->(ls.getD j ([],[])).1.length<=1000/\(ls.getD j ([],[])).2.length<=1000)->Fit 1000 ls):=q9 (fun h x hx=>by
    obtain⟨j,hj,rfl⟩:=List.getElem_of_mem hx;have:=h j hj
    rwa [List.getD_eq_getElem?_getD,List.getElem?_eq_getElem hj]at this)
   have HFJ:Hid (∀j,j<ls.length->(ls.getD j ([],[])).1.length<=140737488351232/\(ls.getD j ([],[])).2.length<=140737488351232):=q9 (fun j hj=>HFI.out _ (by
    rw[List.getD_eq_getElem?_getD,List.getElem?_eq_getElem hj];exact List.getElem_mem _))
   obtain⟨n,hnn⟩:∃n,n=ls.length:=⟨_,rfl⟩;rw[<-hnn]at HIX HCN HSH HRS yA HFJ hm h1i⊢;clear h1 h2 hL hT hd hc hix hbl HFI hf HSL hnn
   go_enter Tryd.func3,Tryd.ntmps3
   go_wp2
   go_loopg [5] (n+1) (fun gk iv wr=>∃i:Nat,i<=n/\iv=.int .i64 i/\Below w.heap.size w wr/\Hid (∀j,j<i->(ls.getD j ([],[])).1.length<=1000/\(ls.getD j ([],[])).2.length<=1000)/\gk=n+1-i)
   case atStart=>exact⟨0,qc _,rfl,qi _ _,q9 (fun j hj=>absurd hj (Nat.not_lt_zero j)),rfl⟩
   case round=>
    obtain⟨i,hi,rfl,hB,HP,hgk⟩:=hrel;have HB:=q9 hB;have HGK:=q9 hgk;clear hB hgk
    by_cases hlt:i<n
    ·have vS:=fun W=>HIX.out W i hlt
     obtain⟨c0,c1⟩:=HCN.out wr i hlt HB.out;obtain⟨z0,z1⟩:=HFJ.out i hlt
     have HNX:Hid ((ls.getD i ([],[])).1.length<=1000->(ls.getD i ([],[])).2.length<=1000->∀j,j<i+1->(ls.getD j ([],[])).1.length<=1000/\(ls.getD j ([],[])).2.length<=1000):=q9 (fun ha hb j hj=>by
      by_cases h:j<i
      ·exact HP.out j h
      ·obtain rfl:j=i:=by omega
       exact⟨ha,hb⟩)
     generalize ls.getD i ([],[])=x at*;obtain⟨xn,xt⟩:=x;simp only at c0 c1 z0 z1 HNX;have e0:(⟨xn.toArray⟩:ByteArray).size=xn.length:=by show(List.toArray _).size=_;rw[List.size_toArray]
     have e1:(⟨xt.toArray⟩:ByteArray).size=xt.length:=by show(List.toArray _).size=_;rw[List.size_toArray]
     rw[<-e0]at z0 HNX;rw[<-e1]at z1 HNX;generalize (⟨xn.toArray⟩:ByteArray)=sn at*;generalize (⟨xt.toArray⟩:ByteArray)=st at*;clear e0 e1
     by_cases ha:sn.size>1000
     ·have hai:(sn.size:Int)>1000:=by omega
      clear ha
      go_wp2_with(go_at_call 6;(with_reducible refine(HK.out _ HB.out).mono ?_);rintro e wg ⟨rfl,hx⟩;have hb:=qn hx;have HB:=q9 (HB.out.trans (hb.mono HB.out.size));clear hx hb)
      go_ret
      exact⟨rfl,HB.out⟩
     ·have hai:¬(sn.size:Int)>1000:=by omega
      by_cases hb:st.size>1000
      ·have hbi:(st.size:Int)>1000:=by omega
       clear ha hb
       go_wp2_with(go_at_call 6;(with_reducible refine(HK.out _ HB.out).mono ?_);rintro e wg ⟨rfl,hx⟩;have hb:=qn hx;have HB:=q9 (HB.out.trans (hb.mono HB.out.size));clear hx hb)
       go_ret
       exact⟨rfl,HB.out⟩
      ·have hbi:¬(st.size:Int)>1000:=by omega
       have HP2:=q9 (HNX.out (by omega) (by omega))
       clear ha hb;go_wp2
       go_roundg (n-i)
       case measure=>have:=HGK.out;omega
       case rel=>exact⟨i+1,by omega,by go_num,HB.out,HP2,by omega⟩
    ·obtain rfl:i=n:=by omega
     have vK:=yA.out HP.out;have HS1:=q9 (HSH.out vK);have HS2:=q9 (HRS.out vK);clear vK yA HP HSH HRS
     go_wp2_with(first
      |(go_at_call 7;(with_reducible refine(HS1.out _ HB.out).mono ?_);rintro e wa ⟨rfl,hx⟩;have hb:=qn hx;have HB:=q9 (HB.out.trans (hb.mono HB.out.size));clear hx hb)
      |(go_at_call 8;(with_reducible refine(HS2.out _ HB.out).mono ?_);rintro e wb ⟨rfl,hx⟩;have hb:=qn hx;have HB:=q9 (HB.out.trans (hb.mono HB.out.size));clear hx hb)
      |(go_at_call 9;(with_reducible refine(HNM.out _).mono ?_);rintro e wc ⟨rfl,hx⟩;have hb:=qn hx;have HB:=q9 (HB.out.trans (hb.mono HB.out.size));clear hx hb)
      |(go_at_call 10;(with_reducible refine(HRN.out _).mono ?_);rintro e wd ⟨rfl,rfl⟩)
      |(go_at_call 6;(with_reducible refine(HK.out _ HB.out).mono ?_);rintro e wg ⟨rfl,hx⟩;have hb:=qn hx;have HB:=q9 (HB.out.trans (hb.mono HB.out.size));clear hx hb))
     go_ret
     exact⟨rfl,HB.out⟩
end Go.Cm
namespace Go.Cm
open Go.RowKit Go.Proofs Go.WideShapes Go.ChangeShapes Go.Deep
section
variable {H : Type} {enc : TypeId × Value → H} {P : Program} {w : World} {base : Nat} {held : Bool}
theorem oM{t e:TypeId}{fuel:Nat}{cs:List Value}{x:DataW H×List MemPlace}(k:Nat)(hk:0<k)(ht:P.underlying t=some (.slice e))(hc:P.cellsOf e=k)(hb:1<=P.bytesOf e)(h:DataW.trod enc P w base (fun _=>true) held fuel t cs=some x)(hw:∀n∈x.1.weights P t,n<=reachBytes):
  ∃(oa:Option Addr) (len cap b off:Nat) (C:Nat->List Value) (D:Nat->DataW H),cs=[.slice oa len cap]/\Hd w oa len cap b off/\∀i,i<len->(C i).length=k/\(∀c,c<k->w.cell? ⟨b,off+i*k+c,none⟩=some ((C i).getD c undef))/\(∃n p,DataW.trod enc P w base (fun _=>true) held n e (C i)=some (D i,p))/\∀n∈(D i).weights P e,n<=reachBytes:=by
 rcases open_slice ht h with⟨rfl,-⟩|⟨a,len,cap,m,n,D,Pl,rfl,-,hl,hm,hmm,rfl,hx⟩
 ·exact⟨none,0,0,0,0,fun _=>[],fun _=>.nil,rfl,⟨fun h=>absurd h (Nat.lt_irrefl 0),qa _,by simp[maxLen],by simp,fun h=>absurd h (Nat.lt_irrefl 0)⟩,fun i hi=>absurd hi (Nat.not_lt_zero i)⟩
 ·simp only[if_true]at hmm
  subst hmm;rw[hc]at hx;have hwt:=f8 (P:=P) (elems:=(List.range len).map D) (spare:=(List.range (m-len)).map fun j=>D (len+j)) ht
  simp only at hw;rw[hwt]at hw;have h1:=hw _ (List.mem_cons_self ..);simp only[List.length_map,List.length_range]at h1;have h2:m*1<=(len+(m-len))*P.bytesOf e:=Nat.mul_le_mul (by omega) hb
  rw[aN]at h1
  have hx2:∀i,i<m->∃cs',cs'.length=k/\(∀c,c<k->w.cell? ((a.add (i*k)).add c)=some (cs'.getD c undef))/\DataW.trod enc P w base (fun _=>true) held n e cs'=some (D i,Pl i):=fun i hi=>by
   obtain⟨cs',h3,h4⟩:=hx i hi;obtain⟨_,hlen,hcell⟩:=World.cells?_some h3;refine⟨cs',hlen,fun c hcl=>?_,h4⟩
   rw[hcell c (by omega)]
   simp[List.getD,show c<cs'.length by omega]
  obtain⟨C,hC⟩:=choose_lt hx2;obtain⟨ab,ao,asp⟩:=a
  have hsp:0<len->asp=none:=fun h0=>by
   have h3:=(hC 0 (by omega)).2.1 0 hk
   rw[Nat.zero_mul]at h3
   simpa[Addr.add]using World.cell?_spot h3
  refine⟨some ⟨ab,ao,asp⟩,len,m,ab,ao,C,D,rfl,⟨fun h0=>by rw[hsp h0],hl,hm,by omega,fun h0=>?_⟩,fun i hi=>⟨(hC i (by omega)).1,fun c hcl=>?_,⟨n,Pl i,(hC i (by omega)).2.2⟩,fun k hk=>hw k (List.mem_cons_of_mem _ (List.mem_append_left _ (aU (List.mem_map.2 ⟨i,List.mem_range.2 hi,rfl⟩) k hk)))⟩⟩
  ·have h3:=(hC 0 (by omega)).2.1 0 hk
   have:=World.block_lt_of_cell? _ _ h3
   simpa[Addr.add]using this
  ·have h3:=(hC i (by omega)).2.1 c hcl
   have h4:=hsp (by omega)
   subst h4;rw[iX,iX]at h3
   exact h3
end
end Go.Cm
namespace Go.Cm
open Go.RowKit Go.Proofs Go.WideShapes Go.ChangeShapes Go.Deep
section
variable {H : Type} {enc : TypeId × Value → H} {w : World} {base : Nat} {held : Bool}
theorem n7{fuel:Nat}{cs:List Value}{y:DataW H×List MemPlace}(h:DataW.trod enc Tryd.prog w base (fun _=>true) held fuel 25 cs=some y)(hl:cs.length=2)(hw:∀n∈y.1.weights Tryd.prog 25,n<=reachBytes):
  ∃x:Rul,cs=aP x/\x.1.length<=140737488351232/\x.2.length<=140737488351232:=by
 obtain⟨xs,n,-,hx,-,hxl,hg⟩:=DataW.trod_struct Tryd.underlying25 h
 match xs,hxl with
 |[x0,x1],_=>
  have h0:=hg 0 _ rfl;have h1:=hg 1 _ rfl;have cS:Tryd.prog.cellsOf 9=1:=by kernel_rfl
  simp only[List.getElem?_cons_zero,List.getElem?_cons_succ]at h0 h1
  change DataW.trod enc Tryd.prog w base (fun _=>true) held n 9 ((cs.drop 0).take (Tryd.prog.cellsOf 9))=some x0 at h0
  change DataW.trod enc Tryd.prog w base (fun _=>true) held n 9 ((cs.drop 1).take (Tryd.prog.cellsOf 9))=some x1 at h1
  have hwx:∀n∈DataW.weightsEach Tryd.prog [9,9] [x0.1,x1.1],n<=reachBytes:=fun k hk=>hw k (by
   rw[hx]
   simpa[DataW.weights,Tryd.underlying25]using hk)
  have hw0:∀n∈x0.1.weights Tryd.prog 9,n<=reachBytes:=fun k hk=>hwx k (DataW.weights_mem_each (j:=0) rfl rfl k hk)
  have hw1:∀n∈x1.1.weights Tryd.prog 9,n<=reachBytes:=fun k hk=>hwx k (DataW.weights_mem_each (j:=1) rfl rfl k hk)
  obtain⟨a,e0,ha,-⟩:=DataW.trod_string Tryd.underlying9 h0;obtain⟨b,e1,hb,-⟩:=DataW.trod_string Tryd.underlying9 h1
  have za:a.size<=140737488351232:=by
   have:=hw0 a.size (by rw[ha];simp[DataW.weights])
   rwa [aN]at this
  have zb:b.size<=140737488351232:=by
   have:=hw1 b.size (by rw[hb];simp[DataW.weights])
   rwa [aN]at this
  rw[cS]at e0 e1;refine⟨(bys a,bys b),?_,by simp only;rw[qt];exact za,by simp only;rw[qt];exact zb⟩
  have hq:∀i v,(cs.drop i).take 1=[v]->cs[i]? =some v:=fun i v e=>by
   have:=congrArg (fun l=>l[0]?) e
   simpa using this
  unfold aP;simp only[gB];refine List.ext_getElem? fun i=>?_
  match i with
  |0=>rw[hq 0 _ e0];rfl
  |1=>rw[hq 1 _ e1];rfl
  |i+2=>rw[List.getElem?_eq_none (by omega),List.getElem?_eq_none (by show 2<=i+2;omega)]
theorem kT{v:Value}{x:DataW H}{p:List MemPlace}{r:Reach}{b0:Nat}(hv:Value.okWide Tryd.prog w r b0 22 v)(h:DataW.Trod enc Tryd.prog w base (fun _=>true) held 22 v x p)(hw:∀n∈x.weights Tryd.prog 22,n<=reachBytes):∃ls:List Rul,SlK 2 w v (ls.map aP)/\Fit 140737488351232 ls:=by
 obtain⟨a0,len0,cap0,rfl⟩:=okWide_slice Tryd.underlying22 hv;obtain⟨fuel,hf⟩:=h;have c8:Tryd.prog.cellsOf 25=2:=by kernel_rfl
 have b8:Tryd.prog.bytesOf 25=32:=by kernel_rfl
 obtain⟨oa,len,cap,b,off,C,D,hcs,hd,hx⟩:=oM 2 (by decide) Tryd.underlying22 c8 (by rw[b8];decide) hf hw
 have hN:∀i,i<len->∃z:Rul,C i=aP z/\(z.1.length<=140737488351232/\z.2.length<=140737488351232):=fun i hi=>by
  obtain⟨hl,-,⟨n,p,h2⟩,hwi⟩:=hx i hi
  exact n7 h2 hl hwi
 obtain⟨Z,hZ⟩:=choose_lt hN
 have zR:Value.slice a0 len0 cap0=.slice oa len cap:=by
  have:[Value.slice a0 len0 cap0]=[.slice oa len cap]:=hcs;injection this
 rw[zR];refine⟨(List.range len).map Z,⟨oa,cap,b,off,by simp,by simpa using hd,fun i hi c hcl=>?_⟩,fun z hz=>?_⟩
 ·have hi':i<len:=by simpa using hi
  rw[(hx i hi').2.1 c hcl,(hZ i hi').1]
  simp[List.getD,hi']
 ·obtain⟨i,hi,rfl⟩:=List.mem_map.1 hz
  exact(hZ i (List.mem_range.1 hi)).2
end
end Go.Cm
