/- Walks of functions and plain facts, joined and squeezed by a program. Conditions: as each says. -/
import Derived.Test.YtnelgjehpbjloaaGreatDoorGXT
import Derived.Test.YtnelgjehpbjloaaGreatDoorGXR
set_option maxHeartbeats 8000000
set_option maxRecDepth 100000
set_option linter.unusedSimpArgs false
namespace Go.Cm
open Go.RowKit Go.Proofs
theorem q7t(v n:Nat)(hv:v<=9223372036854775807)(hn:n<=32)(w:World):Calls Tryz.prog 148 #[.int .i64 v,.int .i64 n] w fun e w'=>e=.returned (.int .i64 (jj v n:Nat))/\w'=w:=by
 have hd1:¬(n:Int)<0:=by omega
 have hd2:¬(n:Int)>32:=by omega
 go_enter Tryz.func148,Tryz.ntmps148
 go_wp2
 go_loop [5,6] (fun o i=>∃k:Nat,k<=n/\i=.int .i64 k/\o=.int .i64 (jj v k)) (fun _ i=>n-(intOf i).toNat)
 case atStart=>exact⟨0,qc _,rfl,rfl⟩
 case round=>
  obtain⟨k,hk,rfl,rfl⟩:=hrel
  by_cases hlt:k<n
  ·have hl:=aF v k
   have hl2:2^k<=4294967296:=qe (n:=2) (by decide) (show k<=32 by omega)
   have HS:=q7 (dD v k)
   have HT:Hid (((v:Int)/2^k).tmod 2=((v.testBit k).toNat:Nat)):=q7 (by
    rw[Nat.testBit_eq_decide_div_mod_eq];have:((v:Int)/2^k).tmod 2=((v/2^k%2:Nat):Int):=by norm_cast
    rw[this]
    by_cases h:v/2^k%2=1
    ·simp[h]
    ·have:v/2^k%2=0:=by omega
     simp[this])
   generalize jj v k=t at*;have hb:(v.testBit k).toNat<=1:=by cases v.testBit k<;>simp
   generalize (v.testBit k).toNat=b at*;generalize 2^k=q at hl hl2;go_wp2
   go_round
   case rel=>
    refine⟨k+1,by omega,by go_num,?_⟩
    have h:=HT.out;rw[HS.out,h,IntWalk.wrap64_in (b:Int) ⟨by omega,by omega⟩,IntWalk.wrap64_in _ ⟨by omega,by omega⟩]
    norm_cast
   case measure=>simp[intOf];omega
  ·go_wp2
   go_ret;have:k=n:=by omega
   subst this
   exact⟨rfl,rfl⟩
theorem fO(N k:Nat):(cL N k).length=k:=by simp[cL]
theorem uF(N L:Nat):cL N (L+1)=cL N L++[.int .u8 ((N.testBit L).toNat:Nat)]:=by simp[cL,List.range_succ]
theorem q2m{N v L:Nat}(hN:N<2^L)(n:Nat):cL (N+v*2^L) (L+n)=cL N L++cL v n:=by
 have ht:∀j,(N+v*2^L).testBit j=if j<L then N.testBit j else v.testBit (j-L):=fun j=>by
  rw[Nat.add_comm,Nat.mul_comm];exact Nat.testBit_two_pow_mul_add v hN j
 unfold cL;rw[List.range_add,List.map_append,List.map_map]
 congr 1
 ·refine List.map_congr_left fun i hi=>?_
  rw[ht,if_pos (List.mem_range.1 hi)]
 ·refine List.map_congr_left fun i hi=>?_
  simp only[Function.comp];rw[ht,if_neg (by omega),Nat.add_sub_cancel_left]
section
variable {w : World} {g : Nat} {vb : Value} {rest n : Nat}
end
theorem q2n{w:World}{B g N L:Nat}{vb0:Value}(h:aJ w B g N L vb0)(v n:Nat)(hv:v<2^n)(hn:n<=32)(hL:L+n<=2147483648):
  Calls Tryz.prog 109 #[.pointer (some ⟨g,0,none⟩),.int .i64 v,.int .i64 n] w fun e w'=>e=.returned (.int .i64 0)/\∃vb0',aJ w' B g (N+v*2^L) (L+n) vb0'/\Below B w w'/\Fr g vb0 vb0' w w':=by
 obtain⟨q98,hown,hne,hge,hlt⟩:=h;have qem:v<4294967296:=qd hv (qe (n:=2) (by decide) hn)
 have hd1:¬(n:Int)<0:=by omega
 have hd2:¬(n:Int)>32:=by omega
 have hv0:¬(v:Int)<0:=by omega
 have hn0:(0:Int)<=(n:Int):=by omega
 have hp:((2^n:Nat):Int)=2^n:=by norm_cast
 have hp2:2^n<=4294967296:=qe (n:=2) (by decide) hn
 go_enter Tryz.func109,Tryz.ntmps109
 go_wp2;obtain⟨N',hN'⟩:∃N',N'=N+v*2^L:=⟨_,rfl⟩;have HN:=q7 hN';have HB0:Hid (cL N' (L+0)=cL N L):=q7 (by rw[hN',q2m hlt 0];simp[cL])
 have HTB:Hid (∀k,N'.testBit (L+k)=v.testBit k):=q7 (fun k=>by
  rw[hN',Nat.add_comm N,Nat.mul_comm,Nat.testBit_two_pow_mul_add v hlt,if_neg (by omega),Nat.add_sub_cancel_left])
 have HLT:=q7 hlt;have HV:=q7 hv;have HL:=q7 hL;have HBX:=q7 q98;have HOX:=q7 hown;have hg0:=q98.blk.2;clear hN' hlt hv hL q98 hown hp hp2
 go_loopg [7] n (fun gk i wr=>∃(k:Nat) (vb:Value),k<=n/\i=.int .i64 k/\Own wr g 122 (.slice (some ⟨g,0,none⟩) 1 1) [vb]/\Own wr B 5 vb (cL N' (L+k))/\vb.ownBlock≠some g/\Below B w wr/\Fr g vb0 vb w wr/\gk=n-k)
 case atStart=>exact⟨0,vb0,qc _,rfl,HBX.out,by rw[HB0.out];exact HOX.out,hne,qj _ _,Fr.refl _ _ _,rfl⟩
 case round=>
  obtain⟨k,vb,hk,rfl,q98,hown,hne,q8Z,hfr,rfl⟩:=hrel;have HFR:=q7 hfr;clear hfr;have HB:=q7 q98;have HO:=q7 hown;have HE:=q7 q8Z;have c0:wr.cell? ⟨g,0,none⟩=some vb:=q98.cell (by simp)
  have f0:=q98.free 0;have hg:=q98.blk.2;have HS:=q7 (uF N' (L+k))
  have HT:Hid (((v:Int)/2^k).tmod 2%256=(((N'.testBit (L+k)).toNat:Nat):Int)):=q7 (by
   rw[HTB.out,Nat.testBit_eq_decide_div_mod_eq];have:((v:Int)/2^k).tmod 2=((v/2^k%2:Nat):Int):=by norm_cast
   rw[this]
   by_cases h:v/2^k%2=1
   ·simp[h]
   ·have:v/2^k%2=0:=by omega
    simp[this])
  generalize (N'.testBit (L+k)).toNat=b at*;clear q98 hown q8Z HB0 HBX HOX hg0
  by_cases hlt:k<n
  ·have hBg:B<=wr.heap.size:=by omega
   obtain⟨y,hy⟩:∃y:Int,y=((v:Int)/2^k).tmod 2%256:=⟨_,rfl⟩;have HY:=q7 (hy.trans HT.out);have HW:=q7 hy.symm;clear hy HT;have hlW:=q7 (qn wr (.cells #[.int .u8 y] 5));have HX:Hid (Sl (wr.alloc (.cells #[.int .u8 y] 5)) (.slice (some ⟨wr.heap.size,0,none⟩) 1 1) [.int .u8 y]):=q7 (by simpa using eJ wr #[.int .u8 y] 5 (by simp))
   have HT1:=q7 (HO.out.up hlW.out);have HT2:Hid (∀u∈[Value.int .u8 y],u.oneCell'=true):=q7 (by intro u hu;simp at hu;subst hu;rfl)
   have HT3:Hid ((cL N' (L+k)).length+1<=4294967296):=q7 (by rw[fO];have:=HL.out;omega)
   have HT4:Hid (B<=(wr.alloc (.cells #[.int .u8 y] 5)).heap.size):=q7 (qa hBg hlW.out.size)
   go_wp2_with(at_builtin;rw[HW.out];refine jt rfl (.tmp 34) (.tmp 41) 49 rfl B 5 (.int .u8 0) 1 Tryz.underlying49 (by kernel_rfl) rfl (by decide) vb (cL N' (L+k)) rfl HT1.out (.slice (some ⟨wr.heap.size,0,none⟩) 1 1) [.int .u8 y] rfl HX.out HT2.out HT3.out HT4.out ?_;intro v' w5 hown1 hg1 hk1;have HO1:=q7 hown1;have HG1:=q7 hg1;have HK1:=q7 hk1;clear hown1 hg1 hk1;have HB5:=q7 ((HB.out.up hlW.out).keep HG1.out (.inr (fun e=>hne e.symm)));have qaI:Hid (v'.ownBlock≠some g):=q7 (fun e=>by
    rcases HK1.out g e with h|h
    ·exact hne h
    ·have:=hlW.out.size;simp at h;omega);have HO5:Hid (Own w5 B 5 v' (cL N' (L+k+1))):=q7 (by rw[HS.out,<-HY.out];exact HO1.out);have HF5:Hid (Fr g vb0 v' w w5):=q7 (((HFR.out.below hlW.out).step HG1.out (fun k e=>.inr e)).val HK1.out (qa HFR.out.2.2 hlW.out.size));have HL5:Hid (Below B w w5):=q7 (jL (HE.out.trans (hlW.out.mono hBg)) HT4.out HT1.out HG1.out);clear HO1 HG1 HK1 HT1 HX c0 f0 hg hBg;obtain⟨o5,c5,g5,rfl,-⟩:=HO5.out.cases;generalize (cL N' (L+k+1)).length=l5 at*;have HST:=q7 (HB5.out.store 0 (.slice o5 l5 c5));have f0:=HB5.out.free 0;have c0:w5.cell? ⟨g,0,none⟩=some vb:=HB5.out.cell (by simp);have hg:=HB5.out.blk.2)
   go_roundg (n-(k+1))
   case measure=>omega
   case rel=>
    exact⟨k+1,_,by omega,by go_num,HST.out.1,HO5.out.keep HST.out.2 (.inr qaI.out),qaI.out,HL5.out.grown HST.out.2 (by omega) (fun k hk=>by cases hk;exact hge),HF5.out.step HST.out.2 (fun k e=>by cases e;exact .inl rfl),rfl⟩
  ·go_wp2
   go_ret;obtain rfl:k=n:=by omega
   rw[<-HN.out]
   exact⟨rfl,vb,⟨HB.out,HO.out,hne,hge,by rw[HN.out];exact oP HLT.out HV.out⟩,HE.out,HFR.out⟩
theorem q3P{w:World}{B g N L:Nat}{vb:Value}(h:aJ w B g N L vb)(v n:Nat)(hv:v<2^n)(hn:n<=32)(hL:L+n<=2147483648):
  Calls Tryz.prog 112 #[.pointer (some ⟨g,0,none⟩),.int .i64 v,.int .i64 n] w fun e w'=>e=.returned (.int .i64 0)/\∃vb',aJ w' B g (N+jj v n*2^L) (L+n) vb'/\Below B w w'/\Fr g vb vb' w w':=by
 have qem:v<4294967296:=qd hv (qe (n:=2) (by decide) hn)
 have hd1:¬(n:Int)<0:=by omega
 have hd2:¬(n:Int)>32:=by omega
 have hv0:¬(v:Int)<0:=by omega
 have hn0:(0:Int)<=(n:Int):=by omega
 have hp:((2^n:Nat):Int)=2^n:=by norm_cast
 have hp2:2^n<=4294967296:=qe (n:=2) (by decide) hn
 have HP:=q7 (q2n h (jj v n) n (aF v n) hn hL);clear h
 go_enter Tryz.func112,Tryz.ntmps112
 go_wp2_with(first|(go_at_call 148;refine(q7t v n (by omega) hn _).mono ?_;rintro e w' ⟨rfl,hw'⟩;rw[hw'];clear hw')|(go_at_call 109;refine HP.out.mono ?_;rintro e w' ⟨rfl,vb',hq1,hq2,hq3⟩;have HQ1:=q7 hq1;have HQ2:=q7 hq2;have HQ3:=q7 hq3;clear hq1 hq2 hq3))
 go_ret
 exact⟨rfl,vb',HQ1.out,HQ2.out,HQ3.out⟩
theorem nJ{w:World}{B g N L:Nat}{vb:Value}(v:Value)(l:List Int)(n:Int)(h0:qT w v l)(hst:∀W vb',Fr g vb vb' w W->qT W v l)(h:aJ w B g N L vb)(hL:L<=2147483648-32):
  Calls Tryz.prog 67 #[.pointer (some ⟨g,0,none⟩),v,.int .i64 n] w (M2 aJ l n B g N L vb w):=by
 have HQ1:=q7 h;have HF1:=q7 (Fr.refl g vb w);obtain⟨vb1,qel⟩:∃vb1,vb1=vb:=⟨_,rfl⟩;rw[show Fr g vb vb w w=Fr g vb vb1 w w by rw[qel]]at HF1
 rw[<-qel]at HQ1;clear qel;have HQ2:Hid (Below B w w):=q7 (qj _ _);have hBw:B<=w.heap.size:=by have:=h.ge;have:=h.box.blk.2;omega
 have HCO:Hid (∀w' vb',Fr g vb vb' w w'->Calls Tryz.prog 116 #[v] w' (aN l w')):=q7 (fun w' vb' hf=>Z5 v l w' (hst w' vb' hf))
 obtain⟨oa,cap,b,off,rfl,hd,hc⟩:=h0.open;have hix:=qQ (P:=Tryz.prog) 66 3 Tryz.underlying66 (by kernel_rfl) hd
 have hm:=hd.len;have hbk:=hd.hblk
 have HCW:Hid (∀W vb',Fr g vb vb' w W->∀i,i<l.length->W.cell? ⟨b,off+i,none⟩=w.cell? ⟨b,off+i,none⟩/\b<W.heap.size):=q7 (fun W vb' hf i hi=>by
  obtain⟨oa',cap',b',off',hv',hd',hc'⟩:=(hst W vb' hf).open;injection hv' with e1 e2 e3
  have h1:=hd.hat (by omega)
  have h2:=hd'.hat (by omega)
  rw[<-e1,h1]at h2;injection h2 with h2
  injection h2 with h3 h4 h5
  subst h3 h4
  exact⟨by rw[hc' i hi,hc i hi],hd'.hblk (by omega)⟩)
 have HC:=q7 hc;clear hc h0 hst h hd;unfold aN at HCO
 by_cases he:bE l=0
 ·rw[he]at HCO
  by_cases hn:0<=n/\n<l.length/\l.getD n.toNat 0≠0
  ·have hE:=q07 he hn
   obtain⟨h1,h2,h3⟩:=hn;obtain⟨i,rfl⟩:∃i:Nat,n=(i:Int):=⟨n.toNat,by omega⟩
   rw[Int.toNat_natCast]at h3;obtain⟨M,rfl,hlen,h15,hk⟩:=gL he;have hi:i<M.length:=by rw[qB]at h2;omega
   have hn1:¬(i:Int)<0:=by omega
   have hcell:=HC.out i (by omega)
   have HCI:=q7 (fun W vb' hf=>HCW.out W vb' hf i (by omega))
   clear HCW;rw[jb]at hcell h3;have qae:=h15 _ (jT M i 0 hi);have hcl:=iA h15 hk i hi;unfold M2 fG;rw[hE,if_pos (by trivial),jm,Int.toNat_natCast,jb,Int.toNat_natCast]
   rw[jm,if_pos rfl]at HCO;have HCL:=q7 hcl;have hcg:=eX M i hi;have qcY:=aO M;clear hE he h15 hk hcl HC;rw[qB]at*;generalize M.getD i 0=x at*;generalize jB M i=c at*;have hx0:((x:Int)==0)=false:=by simpa using h3
   have qiN:¬(x:Int)=0:=h3;have hn2:¬(i:Int)≥(M.length:Int):=by omega
   have hb:b<w.heap.size:=hbk (by omega)
   go_enter Tryz.func67,Tryz.ntmps67
   go_wp2_with(first|(go_at_call 116;refine(HCO.out _ _ HF1.out).mono ?_;rintro e w2 ⟨vc,rfl,hq3,hq4⟩;have HQ3:=q7 hq3;have HQ4:=q7 hq4;have qar:=(HCI.out _ _ (HF1.out.below HQ4.out)).1.trans hcell;clear hq3 hq4;have hb2:b<w2.heap.size:=(HCI.out _ _ (HF1.out.below HQ4.out)).2))
   have qcT:=HQ3.out.sl;obtain⟨oc,cc,bc,fc,rfl,hdc,hcc⟩:=(show qT w2 vc (nls (bA M))from qcT).open
   rw[qB,qcY]at hdc hcc;have qcZ:=hcc i hi;rw[jb,hcg]at qcZ;have qb7:=qQ (P:=Tryz.prog) 66 3 Tryz.underlying66 (by kernel_rfl) hdc
   have hbc:=hdc.hblk (by omega)
   have qfX:Hid (Calls Tryz.prog 112 #[.pointer (some ⟨g,0,none⟩),.int .i64 c,.int .i64 x] w2.drew fun e w'=>e=.returned (.int .i64 0)/\∃vb2,aJ w' B g (N+jj c x*2^L) (L+x) vb2/\Below B w2.drew w'/\Fr g vb1 vb2 w2.drew w'):=q7 (by
    exact q3P (HQ1.out.up (qS HQ4.out)) c x HCL.out (by omega) (by omega))
   have HB2:Hid (Below B w w2.drew):=q7 (qS (HQ2.out.trans (HQ4.out.mono (qa hBw HQ2.out.size))));clear hcc qcT hdc hcg qcY;rw[show(nls (bA M)).length=M.length by rw[qB,aO]]
   refine qZ [0,1,2,3,4,5,6,7,8] [] [9,10] (by kernel_rfl) (by kernel_rfl) ?_
   simp only[pk]
   repeat(go_big_quiet_step (fail))
   refine wpQuiet_nil ?_;unfold qy;unfold qy
   go_wp2_with(go_at_call 112;refine qfX.out.mono ?_;rintro e w3 ⟨rfl,vb2,hq5,hq6,hf6⟩;have HQ5:=q7 hq5;have HQ6:=q7 hq6;have HF6:=q7 hf6;clear hq5 hq6 hf6)
   refine⟨trivial,?_⟩;unfold qy;go_wp2;refine⟨trivial,?_⟩;unfold qy;go_wp2;go_ret
   exact⟨rfl,vb2,HQ5.out,HB2.out.trans HQ6.out,(HF1.out.below (qS HQ4.out)).trans HF6.out⟩
  ·have hE:=vP he hn
   have hE0:gK l n≠0:=by omega
   unfold M2;rw[kV hE0,hE];clear hE hE0 he
   by_cases h1:n<0
   ·go_enter Tryz.func67,Tryz.ntmps67
    go_wp2_with(first|(go_at_call 116;refine(HCO.out _ _ HF1.out).mono ?_;rintro e w2 ⟨vc,rfl,hq3,hq4⟩;have HQ4:=q7 hq4;clear hq3 hq4))
    go_ret
    exact⟨rfl,vb1,HQ1.out.up HQ4.out,HQ2.out.trans (HQ4.out.mono (qa hBw HQ2.out.size)),HF1.out.below HQ4.out⟩
   ·by_cases h2:n≥(l.length:Int)
    ·go_enter Tryz.func67,Tryz.ntmps67
     go_wp2_with(first|(go_at_call 116;refine(HCO.out _ _ HF1.out).mono ?_;rintro e w2 ⟨vc,rfl,hq3,hq4⟩;have HQ4:=q7 hq4;clear hq3 hq4))
     go_ret
     exact⟨rfl,vb1,HQ1.out.up HQ4.out,HQ2.out.trans (HQ4.out.mono (qa hBw HQ2.out.size)),HF1.out.below HQ4.out⟩
    ·obtain⟨i,rfl⟩:∃i:Nat,n=(i:Int):=⟨n.toNat,by omega⟩
     have hi:i<l.length:=by omega
     have hcell:=HC.out i hi;have HCI:=q7 (fun W vb' hf=>HCW.out W vb' hf i hi)
     clear HCW;have hb:b<w.heap.size:=hbk (by omega)
     have hx:l.getD i 0=0:=by
      apply qf;intro hx
      exact hn ⟨by omega,by omega,hx⟩
     rw[hx]at hcell;have hx0:((0:Int)==0)=true:=rfl;clear hn
     go_enter Tryz.func67,Tryz.ntmps67
     go_wp2_with(first|(go_at_call 116;refine(HCO.out _ _ HF1.out).mono ?_;rintro e w2 ⟨vc,rfl,hq3,hq4⟩;have HQ4:=q7 hq4;have qar:=(HCI.out _ _ (HF1.out.below HQ4.out)).1.trans hcell;clear hq3 hq4;have hb2:b<w2.heap.size:=(HCI.out _ _ (HF1.out.below HQ4.out)).2))
     go_ret
     exact⟨rfl,vb1,HQ1.out.up HQ4.out,HQ2.out.trans (HQ4.out.mono (qa hBw HQ2.out.size)),HF1.out.below HQ4.out⟩
 ·have hE:=kW (n:=n) he
  have hE0:gK l n≠0:=by omega
  have hne:¬(bE l:Int)=0:=by omega
  unfold M2;rw[kV hE0,hE];clear hE hE0;generalize bE l=q at*
  go_enter Tryz.func67,Tryz.ntmps67
  go_wp2_with(first|(go_at_call 116;refine(HCO.out _ _ HF1.out).mono ?_;rintro e w2 ⟨vc,rfl,hq3,hq4⟩;have HQ4:=q7 hq4;clear hq3 hq4))
  go_ret
  exact⟨rfl,vb1,HQ1.out.up HQ4.out,HQ2.out.trans (HQ4.out.mono (qa hBw HQ2.out.size)),HF1.out.below HQ4.out⟩
theorem q4D(u v:Value)(lits dists:List Int)(w:World)(hu:qT w u lits)(hv:qT w v dists)(q9Y:256<lits.length):
  Calls Tryz.prog 108 #[u,v] w fun e w'=>e=.returned (.int .i64 (bI lits dists:Nat))/\Below w.heap.size w w':=by
 have HF1:=q7 (q0o u lits true w hu);have HF2:=q7 (fun W (hb:Below w.heap.size w W)=>q0o v dists true W (hv.up hb))
 obtain⟨oa,cap,b,off,hvv,hd,hc⟩:=hu.open;subst hvv;have hcell:=hc 256 q9Y;have hix:=qQ (P:=Tryz.prog) 66 3 Tryz.underlying66 (by kernel_rfl) hd
 have hm:=hd.len;have hbb:=hd.hblk (by omega)
 have hli:(256:Int)<(lits.length:Int):=by omega
 obtain⟨r,hr⟩:∃r,r=bI lits dists:=⟨_,rfl⟩;rw[<-hr];unfold bI at hr;have HR:=q7 hr;clear hc hd hu hv hr;generalize bJ lits true=e1 at*;generalize bJ dists true=e2 at*;generalize lits.getD 256 0=y at*;generalize lits.length=m at*
 by_cases hy:y=0
 ·have h21:r=21:=by rw[HR.out];exact if_pos hy
  subst h21 hy;clear HR
  go_enter Tryz.func108,Tryz.ntmps108
  go_wp2;go_ret
  exact⟨rfl,qj _ _⟩
 ·have hy':(y==0)=false:=by simpa using hy
  by_cases he:e1=0
  ·have h2:r=e2:=by rw[HR.out,if_neg hy];exact if_neg (by omega)
   subst h2 he;clear HR hy
   go_enter Tryz.func108,Tryz.ntmps108
   go_wp2_with(first|(go_at_call 147;(with_reducible refine HF1.out.mono ?_);rintro e w1 ⟨rfl,hb1⟩;(have HB1:=q7 hb1;have HFF:=q7 (HF2.out w1 HB1.out);clear hb1))|(go_at_call 147;(with_reducible refine HFF.out.mono ?_);rintro e w2 ⟨rfl,hb2⟩;(have HB2:=q7 (qq HB1.out hb2);clear hb2)))
   go_ret
   exact⟨rfl,HB2.out⟩
  ·have h2:r=e1:=by rw[HR.out,if_neg hy];exact if_pos he
   have he':((e1:Int) != 0)=true:=by simpa using he
   subst h2;clear HR hy he
   go_enter Tryz.func108,Tryz.ntmps108
   go_wp2_with(go_at_call 147;(with_reducible refine HF1.out.mono ?_);rintro e w1 ⟨rfl,hb1⟩;(have HB1:=q7 hb1;clear hb1))
   go_ret
   exact⟨rfl,HB1.out⟩
theorem U5{N L k:Nat}(hN:N<2^L)(hk:L<=k):cL N (k+1)=cL N k++[.int .u8 0]:=by
 rw[uF,Nat.testBit_lt_two_pow (qd hN (qe (by decide) hk))]
 rfl
theorem q4F{w:World}{B g N L:Nat}{vb0:Value}(h:aJ w B g N L vb0)(hL:L<=300000000):
  Calls Tryz.prog 110 #[.pointer (some ⟨g,0,none⟩)] w fun e w'=>e=.returned (.tuple #[])/\∃vb',aJ w' B g N (qO L) vb'/\Below B w w'/\Fr g vb0 vb' w w':=by
 obtain⟨q98,hown,hne,hge,hlt⟩:=h;have HLT:=q7 hlt;have HBX:=q7 q98;have HOX:=q7 hown;have hal:L<=qO L/\qO L<=L+7/\qO L%8=0:=by unfold qO;omega
 obtain⟨a1,a2,a3⟩:=hal;have qhj:∀k,L<=k->k<=qO L->k%8=0->k=qO L:=fun k h1 h2 h3=>by unfold qO at*;omega
 have HAL:=q7 qhj;clear q98 hown hlt qhj;generalize qO L=A at*
 go_enter Tryz.func110,Tryz.ntmps110
 go_wp2
 go_loopg [] (A-L) (fun gk wr=>∃(k:Nat) (vb:Value),L<=k/\k<=A/\Own wr g 122 (.slice (some ⟨g,0,none⟩) 1 1) [vb]/\Own wr B 5 vb (cL N k)/\vb.ownBlock≠some g/\Below B w wr/\Fr g vb0 vb w wr/\gk=A-k)
 case atStart=>exact⟨L,vb0,q9 _,a1,HBX.out,HOX.out,hne,qj _ _,Fr.refl _ _ _,rfl⟩
 case round=>
  obtain⟨k,vb,hk1,hk2,q98,hown,hne,q8Z,hfr,rfl⟩:=hrel;have HFR:=q7 hfr;have HB:=q7 q98;have HO:=q7 hown;have HE:=q7 q8Z;obtain⟨ov,cv,gv,hvb,hd,-⟩:=hown.cases;rw[fO]at hvb;subst hvb;have c0:wr.cell? ⟨g,0,none⟩=some (.slice ov k cv):=q98.cell (by simp)
  have f0:=q98.free 0;have hg:=q98.blk.2;have HS:=q7 (U5 HLT.out hk1);have hk6:k<=300000007:=by omega
  have hqi:(k:Int)%8=((k%8:Nat):Int):=by omega
  have HPT:Hid (∀m,k%8=m->(m=0->k=A)/\(m≠0->k+1<=A)):=q7 (fun m hm=>⟨fun h=>HAL.out k hk1 hk2 (by omega),fun h=>by
   apply qf;intro hn
   have:k=A:=by omega
   subst this;omega⟩)
  have hm8:k%8<8:=Nat.mod_lt _ (by decide)
  clear hfr q98 hown q8Z HBX HOX hd;generalize hm:k%8=m at*;have HP:=q7 (HPT.out m rfl);clear hm HPT
  cases m with
  |zero=>
   go_wp2
   go_end0
   obtain rfl:=HP.out.1 (by trivial)
   exact⟨rfl,_,⟨HB.out,HO.out,hne,hge,qd HLT.out (qe (by decide) hk1)⟩,HE.out,HFR.out⟩
  |succ m=>
   have hcc:¬((m+1:Nat):Int)=0:=by omega
   have hBg:B<=wr.heap.size:=by omega
   have hlW:=q7 (qn wr (.cells #[.int .u8 0] 5));have HX:Hid (Sl (wr.alloc (.cells #[.int .u8 0] 5)) (.slice (some ⟨wr.heap.size,0,none⟩) 1 1) [.int .u8 0]):=q7 (by simpa using eJ wr #[.int .u8 0] 5 (by simp))
   have HT1:=q7 (HO.out.up hlW.out);have HT2:Hid (∀u∈[Value.int .u8 0],u.oneCell'=true):=q7 (by intro u hu;simp at hu;subst hu;rfl)
   have HT3:Hid ((cL N k).length+1<=4294967296):=q7 (by rw[fO];omega)
   have HT4:Hid (B<=(wr.alloc (.cells #[.int .u8 0] 5)).heap.size):=q7 (qa hBg hlW.out.size);have HK:=q7 hk1;have hk3:=HP.out.2 (Nat.succ_ne_zero m)
   go_wp2_with(at_builtin;refine jt rfl (.tmp 13) (.tmp 14) 49 rfl B 5 (.int .u8 0) 1 Tryz.underlying49 (by kernel_rfl) rfl (by decide) (.slice ov k cv) (cL N k) rfl HT1.out (.slice (some ⟨wr.heap.size,0,none⟩) 1 1) [.int .u8 0] rfl HX.out HT2.out HT3.out HT4.out ?_;intro v' w5 hown1 hg1 hk1;have HO1:=q7 hown1;have HG1:=q7 hg1;have HK1:=q7 hk1;clear hown1 hg1 hk1;have HB5:=q7 ((HB.out.up hlW.out).keep HG1.out (.inr (fun e=>hne e.symm)));have qaI:Hid (v'.ownBlock≠some g):=q7 (fun e=>by
    rcases HK1.out g e with h|h
    ·exact hne h
    ·have:=hlW.out.size;simp at h;omega);have HO5:Hid (Own w5 B 5 v' (cL N (k+1))):=q7 (by rw[HS.out];exact HO1.out);have HF5:Hid (Fr g vb0 v' w w5):=q7 (((HFR.out.below hlW.out).step HG1.out (fun k e=>.inr e)).val HK1.out (qa HFR.out.2.2 hlW.out.size));have HL5:Hid (Below B w w5):=q7 (jL (HE.out.trans (hlW.out.mono hBg)) HT4.out HT1.out HG1.out);clear HO1 HG1 HK1 HT1 HX c0 f0 hg hBg;obtain⟨o5,c5,g5,rfl,-⟩:=HO5.out.cases;generalize (cL N (k+1)).length=l5 at*;have HST:=q7 (HB5.out.store 0 (.slice o5 l5 c5));have f0:=HB5.out.free 0;have c0:w5.cell? ⟨g,0,none⟩=some (.slice ov k cv):=HB5.out.cell (by simp);have hg:=HB5.out.blk.2)
   go_roundg (A-(k+1))
   case measure=>omega
   case rel=>exact⟨k+1,_,by omega,hk3,HST.out.1,HO5.out.keep HST.out.2 (.inr qaI.out),qaI.out,HL5.out.grown HST.out.2 (by omega) (fun k hk=>by cases hk;exact hge),HF5.out.step HST.out.2 (fun k e=>by cases e;exact .inl rfl),rfl⟩
theorem fX{w0 W:World}{B g:Nat}{vb0:Value}{st:Nat×Nat}(h:RSt w0 B g vb0 st W)(v n:Nat)(hv:v<2^n)(hn:n<=32)(hL:st.2+n<=2147483648):
  Calls Tryz.prog 109 #[.pointer (some ⟨g,0,none⟩),.int .i64 v,.int .i64 n] W fun e w'=>e=.returned (.int .i64 0)/\RSt w0 B g vb0 (st.1+v*2^st.2,st.2+n) w':=
 h.join (Q:=fun e=>e=.returned (.int .i64 0)) fun _ hb=>(q2n hb v n hv hn hL).mono fun _ _ ⟨he,vb',h1,h2,h3⟩=>⟨he,vb',h1,h2,h3⟩
theorem N6{w0 W:World}{B g:Nat}{vb0:Value}{st:Nat×Nat}(h:RSt w0 B g vb0 st W)(v n:Nat)(hv:v<2^n)(hn:n<=32)(hL:st.2+n<=2147483648):
  Calls Tryz.prog 112 #[.pointer (some ⟨g,0,none⟩),.int .i64 v,.int .i64 n] W fun e w'=>e=.returned (.int .i64 0)/\RSt w0 B g vb0 (st.1+jj v n*2^st.2,st.2+n) w':=
 h.join (Q:=fun e=>e=.returned (.int .i64 0)) fun _ hb=>(q3P hb v n hv hn hL).mono fun _ _ ⟨he,vb',h1,h2,h3⟩=>⟨he,vb',h1,h2,h3⟩
theorem G2{w0 W:World}{B g:Nat}{vb0:Value}{st:Nat×Nat}(h:RSt w0 B g vb0 st W)(hL:st.2<=300000000):
  Calls Tryz.prog 110 #[.pointer (some ⟨g,0,none⟩)] W fun e w'=>e=.returned (.tuple #[])/\RSt w0 B g vb0 (jo st) w':=
 h.join (Q:=fun e=>e=.returned (.tuple #[])) fun _ hb=>(q4F hb hL).mono fun _ _ ⟨he,vb',h1,h2,h3⟩=>⟨he,vb',h1,h2,h3⟩
theorem q4H{w0 W:World}{B g:Nat}{vb0:Value}{st:Nat×Nat}(h:RSt w0 B g vb0 st W)(s:ByteArray)(hs:s.size<=1000000)(hL:st.2<=200000000):
  Calls Tryz.prog 63 #[.pointer (some ⟨g,0,none⟩),.string s] W fun e w'=>e=.returned (.tuple #[])/\RSt w0 B g vb0 (iT (bys s) (jo st)) w':=by
 have HA:=q7 (G2 h (by omega))
 have HAL:Hid ((jo st).2<=200000010):=q7 (by unfold jo qO;simp only;omega)
 have HIX:=q7 (fun(i:Nat) (h:i<s.size) (W:World)=>jS (P:=Tryz.prog) 9 Tryz.underlying9 h W)
 have HBL:=q7 (fun k=>rI ((bys s).take k) (jo st))
 have HTK:=q7 (fun k (hk:k<(bys s).length)=>zB hk (jo st))
 have HLN:=q7 (qF s);obtain⟨D,hD⟩:∃D,D=iT (bys s) (jo st):=⟨_,rfl⟩;rw[<-hD];have HD:Hid (iT ((bys s).take s.size) (jo st)=D):=q7 (by rw[hD,List.take_of_length_le (by rw[qF];omega)])
 have H0:Hid (iT ((bys s).take 0) (jo st)=jo st):=q7 rfl;clear h hD;generalize jo st=sa at*;generalize bys s=t at*
 go_enter Tryz.func63,Tryz.ntmps63
 go_wp2_with(go_at_call 110;(with_reducible refine HA.out.mono ?_);rintro e w2 ⟨rfl,hq⟩;have HQ:=q7 hq;clear hq)
 go_loopg [4] (s.size+1) (fun gk iv wr=>∃k:Nat,iv=.int .i64 k/\k<=s.size/\RSt w0 B g vb0 (iT (t.take k) sa) wr/\gk=s.size+1-k)
 case atStart=>exact⟨0,rfl,qc _,by rw[H0.out];exact HQ.out,rfl⟩
 case round=>
  clear HQ HA;obtain⟨k,rfl,hk,hq,rfl⟩:=hrel;have HQ:=q7 hq;clear hq
  by_cases hlt:k<s.size
  ·have hi:=HIX.out k hlt
   have hby:(t.getD k 0).toNat<2^8:=UInt8.toNat_lt _;have HT:=q7 (HTK.out k (by rw[HLN.out];exact hlt))
   have hlen:(iT (t.take k) sa).2+8<=2147483648:=by
    rw[HBL.out k,List.length_take];have:=HAL.out;omega
   have HP:=q7 (fX HQ.out (t.getD k 0).toNat 8 hby (by omega) hlen)
   rw[show((8:Nat):Int)=8 from rfl]at HP
   generalize (t.getD k 0).toNat=x at*;have hx:x<256:=hby;clear hlen hby
   go_wp2_with(go_at_call 109;(with_reducible refine HP.out.mono ?_);rintro e w3 ⟨rfl,hq⟩;have HQ3:=q7 hq;clear hq)
   go_roundg (s.size+1-(k+1))
   case measure=>omega
   case rel=>exact⟨k+1,by go_num,by omega,by rw[HT.out];exact HQ3.out,rfl⟩
  ·obtain rfl:k=s.size:=by omega
   clear hlt;go_wp2
   go_end0
   exact⟨rfl,by rw[<-HD.out];exact HQ.out⟩
def pW(N k:Nat):List Value:=jN (N%2^k) ((k+7)/8)
theorem O2(N k:Nat):N%2^(k+1)=N%2^k+(N.testBit k).toNat*2^k:=by
 rw[Nat.mod_pow_succ,Nat.testBit_eq_decide_div_mod_eq,Nat.mul_comm]
 by_cases h:N/2^k%2=1
 ·simp[h]
 ·have:N/2^k%2=0:=by omega
  simp[this]
theorem G7{M k:Nat}(h:M<2^k)(h8:k%8=0):jz M (k/8)=0:=by
 unfold jz;have:=F1 M k h;rw[h8,Nat.pow_zero]at this;have h0:M/256^(k/8)=0:=by generalize M/256^(k/8)=q at*;omega
 rw[h0]
theorem q0J(N k:Nat)(h8:k%8=0):pW N k++[.int .u8 0]=jN (N%2^k) (k/8+1):=by
 unfold pW;rw[show(k+7)/8=k/8 by omega,lV,G7 (Nat.mod_lt _ (Nat.pow_pos (by decide))) h8];rfl
theorem q0K(N k:Nat)(h8:k%8≠0):pW N k=jN (N%2^k) (k/8+1):=by
 unfold pW;rw[show(k+7)/8=k/8+1 by omega]
theorem O3(N k:Nat):jz (N%2^(k+1)) (k/8)=jz (N%2^k) (k/8)+(N.testBit k).toNat*2^(k%8)/\jz (N%2^k) (k/8)<2^(k%8):=by
 have hlt:N%2^k<2^k:=Nat.mod_lt _ (Nat.pow_pos (by decide))
 have h1:=F1 _ k hlt;have h8:2^(k%8)<=2^7:=qe (by decide) (by omega)
 have hb:(N.testBit k).toNat<=1:=by cases N.testBit k<;>simp
 have h2:(N.testBit k).toNat*2^(k%8)<=2^(k%8):=by
  have:=Nat.mul_le_mul_right (2^(k%8)) hb;omega
 unfold jz;rw[O2,M1];rw[Nat.mod_eq_of_lt (show N%2^k/256^(k/8)<256 by omega),Nat.mod_eq_of_lt (by omega)]
 exact⟨rfl,h1⟩
theorem q0L(N k:Nat):(jN (N%2^k) (k/8+1)).set (k/8) (.int .u8 ((jz (N%2^k) (k/8)+(N.testBit k).toNat*2^(k%8):Nat):Int))=pW N (k+1):=by
 unfold pW;rw[show(k+1+7)/8=k/8+1 by omega,<-(O3 N k).1]
 refine List.ext_getElem (by simp[jN]) fun j h1 h2=>?_
 rw[List.getElem_set];simp only[jN,List.getElem_map,List.getElem_range]
 by_cases h:k/8=j
 ·subst h;rw[if_pos rfl]
 ·rw[if_neg h,O2,uG _ _ _ _ (by simp[jN]at h2;omega)]
theorem sN(N k j:Nat)(h:j<k):(jN N k).getD j undef=.int .u8 (jz N j:Nat):=by simp[jN,List.getD,h]
theorem U7(N k j:Nat)(h:j<k):(cL N k).getD j undef=.int .u8 ((N.testBit j).toNat:Nat):=by simp[cL,List.getD,h]
theorem U8{N L:Nat}(h:N<2^L):pW N L=qD (fI N L):=by
 unfold pW fI;rw[Nat.mod_eq_of_lt h]
 exact(nC N _).symm
theorem q7H{w:World}{B g N L:Nat}(h:q4o w B g N L)(hL:L<=2147483648):Calls Tryz.prog 68 #[.pointer (some ⟨g,0,none⟩)] w fun e w'=>e=.returned (.string ⟨(fI N L).toArray⟩)/\Below w.heap.size w w':=by
 obtain⟨⟨vb,q98,hown,hne⟩,hge,hlt⟩:=h;have c0:w.cell? ⟨g,0,none⟩=some vb:=q98.cell (by simp)
 have hg:=q98.blk.2;obtain⟨ob,cb,gb,rfl,hdb,-,hcb,-⟩:=hown.cases;rw[fO]at hdb hcb c0;have qgN:=qQ (P:=Tryz.prog) 49 5 Tryz.underlying49 (by kernel_rfl) hdb
 have hbk:=hdb.hblk;have HCB:Hid (∀i,i<L->w.cell? ⟨gb,i,none⟩=some (.int .u8 ((N.testBit i).toNat:Nat))):=q7 (fun i hi=>by rw[hcb i hi,U7 N L i hi])
 have HPT:=q7 (U8 hlt);clear hcb hdb q98 hown hne hlt
 go_enter Tryz.func68,Tryz.ntmps68
 go_wp2
 go_loopg [3,4] (L+1) (fun gk vo i wr=>∃k:Nat,k<=L/\i=.int .i64 k/\Own wr w.heap.size 5 vo (pW N k)/\Below w.heap.size w wr/\gk=L+1-k)
 case atStart=>exact⟨0,qc _,rfl,Own.nil _ _ _,qj _ _,rfl⟩
 case round=>
  obtain⟨k,hk,rfl,hown,q8Z,rfl⟩:=hrel;have HO:=q7 hown;have HE:=q7 q8Z;have hsz:=q8Z.size;have c0w:=(q8Z.cell (p:=⟨g,0,none⟩) hg).trans c0;have hgw:g<wr.heap.size:=by omega
  clear hown q8Z
  by_cases hlt:k<L
  ·have hcell:=(HE.out.cell (p:=⟨gb,k,none⟩) (hbk (by omega))).trans (HCB.out k hlt)
   have ql5:=q7 (HCB.out k hlt);have hgb:gb<wr.heap.size:=by have:=hbk (by omega);omega
   have HS:=q7 (q0L N k);have HBA:=q7 (O3 N k).2;have hb:(N.testBit k).toNat<=1:=by cases N.testBit k<;>simp
   generalize (N.testBit k).toNat=b at*
   by_cases h8:k%8=0
   ·have hpn:=q0J N k h8
    have h8i:((k:Int)%8==0)=true:=by simp;omega
    have hlW:=q7 (qn wr (.cells #[.int .u8 0] 5));have HX:Hid (Sl (wr.alloc (.cells #[.int .u8 0] 5)) (.slice (some ⟨wr.heap.size,0,none⟩) 1 1) [.int .u8 0]):=q7 (by simpa using eJ wr #[.int .u8 0] 5 (by simp))
    have HT1:=q7 (HO.out.up hlW.out);have HT2:Hid (∀u∈[Value.int .u8 0],u.oneCell'=true):=q7 (by intro u hu;simp at hu;subst hu;rfl)
    have HT3:Hid ((pW N k).length+1<=4294967296):=q7 (by unfold pW;rw[cM];omega)
    have HT4:Hid (w.heap.size<=(wr.alloc (.cells #[.int .u8 0] 5)).heap.size):=q7 (qa hsz hlW.out.size);have HPN:=q7 hpn;clear hpn
    go_wp2_with(at_builtin;refine jt rfl (.tmp 17) (.tmp 18) 49 rfl w.heap.size 5 (.int .u8 0) 1 Tryz.underlying49 (by kernel_rfl) rfl (by decide) u3 (pW N k) rfl HT1.out (.slice (some ⟨wr.heap.size,0,none⟩) 1 1) [.int .u8 0] rfl HX.out HT2.out HT3.out HT4.out ?_;intro v' w5 hown1 hg1 hk1;have HO1:=q7 hown1;have HG1:=q7 hg1;clear hown1 hg1 hk1)
    have HE2:Hid (Below w.heap.size w w5):=q7 (jL (HE.out.trans (hlW.out.mono hsz)) HT4.out HT1.out HG1.out);have HO2:Hid (Own w5 w.heap.size 5 v' (jN (N%2^k) (k/8+1))):=q7 (by rw[<-HPN.out];exact HO1.out)
    have qhb:=(HE2.out.cell (p:=⟨gb,k,none⟩) (hbk (by omega))).trans (ql5.out)
    have c05:=(HE2.out.cell (p:=⟨g,0,none⟩) hg).trans c0;have qiV:=HE2.out.size;have hg5:g<w5.heap.size:=by omega
    have qlY:gb<w5.heap.size:=by have:=hbk (by omega);omega
    clear hcell c0w HO HE HO1 HG1 HT1 HX hsz hgw hgb HT2 HT3 HT4 hlW HPN;obtain⟨oo,co,go,rfl,hdo,hgo,hco,hfo,hst⟩:=HO2.out.cases;rw[cM]at hdo hgo hco hfo hst⊢;have qaN:=qQ (P:=Tryz.prog) 49 5 Tryz.underlying49 (by kernel_rfl) hdo
    have qeU:=hco (k/8) (by omega)
    rw[sN _ _ _ (by omega)]at qeU
    have qjC:=hfo (k/8) (by omega)
    have qeJ:=hdo.hblk (by omega)
    generalize jz (N%2^k) (k/8)=y at*;have HST:=q7 (hst (k/8) (.int .u8 ((y+b*2^(k%8):Nat):Int)) (by omega))
    have HGO:=q7 (hgo (by omega))
    clear hdo hgo hco hfo hst;have hqi:(k:Int)/8=((k/8:Nat):Int):=by omega
    have hmi:(k:Int)%8=((k%8:Nat):Int):=by omega
    have qeH:=fun W=>qaN W .i64 ((k/8:Nat):Int) (by omega) (by omega)
    rw[show 0+((k/8:Nat):Int).toNat=k/8 by omega]at qeH
    have hm8:k%8<8:=by omega
    generalize k/8=q at*;generalize hmm:k%8=m at*;clear qaN
    have HV:Hid (((y+b*2^m:Nat):Int)=((y:Int)+(b:Int)*2^m)%256):=q7 (by
     have h1:2^m<=2^7:=qe (by decide) (by omega)
     have h2:b*2^m<=1*2^m:=Nat.mul_le_mul_right _ hb;have h3:=HBA.out;have h4:(b:Int)*2^m=((b*2^m:Nat):Int):=by norm_cast
     rw[h4];generalize b*2^m=z at*;omega)
    refine qZ [0,1,2,3,4,5,6,7,8,9,10,11,12,13,14,15,16,17,18,19,20] [] [21] (by kernel_rfl) (by kernel_rfl) ?_
    simp only[pk]
    repeat(go_big_quiet_step (fail))
    refine wpQuiet_nil ?_;unfold qy;unfold qy;go_wp2;refine⟨trivial,?_⟩;unfold qy;go_wp2
    go_roundg (L+1-(k+1))
    case measure=>omega
    case rel=>
     refine⟨k+1,by omega,by go_num,?_,?_,rfl⟩
     ·have h5:=HST.out.1.up (qC _ 1)
      rw[<-World.drew_is_drewN,HS.out,HV.out]at h5;rw[h8,Int.pow_zero,Int.mul_one]at h5
      exact h5
     ·have h5:=(HE2.out.grown HST.out.2 HE2.out.size (fun k hk=>by cases hk;exact HGO.out.2)).trans ((qC _ 1).mono (qa HE2.out.size HST.out.2.size))
      rw[<-World.drew_is_drewN,HV.out]at h5;rw[h8,Int.pow_zero,Int.mul_one]at h5
      exact h5
   ·have h8i:((k:Int)%8==0)=false:=by simp;omega
    have hpo:=q0K N k h8;rw[hpo]at HO;clear hpo;obtain⟨oo,co,go,rfl,hdo,hgo,hco,hfo,hst⟩:=HO.out.cases;rw[cM]at hdo hgo hco hfo hst⊢;have qaN:=qQ (P:=Tryz.prog) 49 5 Tryz.underlying49 (by kernel_rfl) hdo
    have qeU:=hco (k/8) (by omega)
    rw[sN _ _ _ (by omega)]at qeU
    have qjC:=hfo (k/8) (by omega)
    have qeJ:=hdo.hblk (by omega)
    generalize jz (N%2^k) (k/8)=y at*;have HST:=q7 (hst (k/8) (.int .u8 ((y+b*2^(k%8):Nat):Int)) (by omega))
    have HGO:=q7 (hgo (by omega))
    clear hdo hgo hco hfo hst;have hqi:(k:Int)/8=((k/8:Nat):Int):=by omega
    have hmi:(k:Int)%8=((k%8:Nat):Int):=by omega
    have qeH:=fun W=>qaN W .i64 ((k/8:Nat):Int) (by omega) (by omega)
    rw[show 0+((k/8:Nat):Int).toNat=k/8 by omega]at qeH
    have hm8:k%8<8:=by omega
    generalize k/8=q at*;generalize hmm:k%8=m at*;clear qaN
    have HV:Hid (((y+b*2^m:Nat):Int)=((y:Int)+(b:Int)*2^m)%256):=q7 (by
     have h1:2^m<=2^7:=qe (by decide) (by omega)
     have h2:b*2^m<=1*2^m:=Nat.mul_le_mul_right _ hb;have h3:=HBA.out;have h4:(b:Int)*2^m=((b*2^m:Nat):Int):=by norm_cast
     rw[h4];generalize b*2^m=z at*;omega)
    go_wp2;refine qZ [0,1,2,3,4,5,6,7,8,9,10,11,12,13,14,15,16,17,18,19,20] [] [21] (by kernel_rfl) (by kernel_rfl) ?_
    simp only[pk]
    repeat(go_big_quiet_step (fail))
    refine wpQuiet_nil ?_;unfold qy;unfold qy;go_wp2;refine⟨trivial,?_⟩;unfold qy;go_wp2
    go_roundg (L+1-(k+1))
    case measure=>omega
    case rel=>
     refine⟨k+1,by omega,by go_num,?_,?_,rfl⟩
     ·have h5:=HST.out.1.up (qC _ 1)
      rw[<-World.drew_is_drewN,HS.out,HV.out]at h5
      exact h5
     ·have h5:=(HE.out.grown HST.out.2 hsz (fun k hk=>by cases hk;exact HGO.out.2)).trans ((qC _ 1).mono (qa hsz HST.out.2.size))
      rw[<-World.drew_is_drewN,HV.out]at h5
      exact h5
  ·obtain rfl:k=L:=by omega
   rw[HPT.out]at HO;have hcv:=j7 (P:=Tryz.prog) wr 49 9 5 Tryz.underlying49 Tryz.underlying5 Tryz.underlying9 _ _ HO.out.sl;go_wp2;go_ret
   exact⟨rfl,HE.out⟩
def q3S(y:Nat×qK)(B:Nat)(v:Value)(w:World)(e:Ending)(w':World):Prop:=∃v',e=.returned (.tuple #[v',.int .i64 (y.1:Nat)])/\Own w' B 5 v' (qD y.2)/\w.grownBy w' v.ownBlock/\(∀q,v'.ownBlock=some q->v.ownBlock=some q\/w.heap.size<=q)
theorem U9{w w1 w2:World}{r0 r1:Option Nat}(h:w.grownBy w1 r0)(hq:∀q,r1=some q->r0=some q\/w.heap.size<=q)(hg:w1.grownBy w2 r1):w.grownBy w2 r0:=
 ⟨hg.os.trans h.os,hg.tape.trans h.tape,hg.output.trans h.output,qa h.size hg.size,fun i hi hr=>by
  rw[hg.block i (qd hi h.size) (fun e=>by
   rcases hq i e.symm with h1|h1
   ·exact hr h1.symm
   ·omega),h.block i hi hr]⟩
theorem q0M(w:World)(l:Nat):Sl (w.alloc (.cells #[.int .u8 (l:Nat)] 5)) (.slice (some ⟨w.heap.size,0,none⟩) 1 1) [.int .u8 (l:Nat)]:=by
 simpa using eJ w #[.int .u8 (l:Nat)] 5 (by simp)
theorem O4(l:Nat):∀u∈[Value.int .u8 (l:Nat)],u.oneCell'=true:=by intro u hu;simp at hu;subst hu;rfl
theorem q8G{w:World}{B:Nat}{v:Value}{b:qK}(h:Own w B 5 v (qD b))(hlen:b.length<=100000000)(hBw:B<=w.heap.size)(l:Nat)(n d:Int)(hl:l<256):
  Calls Tryz.prog 69 #[v,.agg #[.int .u8 l,.int .i64 n,.int .i64 d]] w (q3S (opN 10 b ⟨l,n,d⟩) B v w):=by
 obtain⟨w1,hw1⟩:∃w1,w1=w.alloc (.cells #[.int .u8 (l:Nat),.int .i64 n,.int .i64 d] 64):=⟨_,rfl⟩;have hb1:Below w.heap.size w w1:=by rw[hw1];exact qn _ _
 have hop:=M5 w l n d;rw[<-hw1]at hop;have HX:=q7 (h.up hb1);have HBL:=q7 (qv hb1 v.ownBlock);have HOP:=q7 hop;have HLEN:=q7 hlen;have HW1:=q7 hw1;have p0:w1.cell? ⟨w.heap.size,0,none⟩=some (.int .u8 (l:Nat)):=hop.cell (by simp[opV])
 have p1:w1.cell? ⟨w.heap.size,1,none⟩=some (.int .i64 n):=hop.cell (by simp[opV])
 have p2:w1.cell? ⟨w.heap.size,2,none⟩=some (.int .i64 d):=hop.cell (by simp[opV])
 have hp:=hop.blk.2;have hs1:w1.heap.size=w.heap.size+1:=by rw[hw1];simp
 obtain⟨ov,cv,gv,hvb,hdv,hgv,-⟩:=h.cases;rw[qz]at hvb hdv hgv;obtain⟨y,hy⟩:∃y,y=opN 10 b ⟨l,n,d⟩:=⟨_,rfl⟩;rw[<-hy];have HY:=q7 hy;unfold opN at HY;simp only at HY;have HVL:Hid (∀q,v.ownBlock=some q->q<w.heap.size):=q7 (fun q hq=>(h.lt q hq).2)
 have hm:=hdv.len;have HS1:=q7 hs1;subst hvb;clear hy hw1 hb1 hop hlen h hs1 hdv hgv
 by_cases hn0:n=0
 ·rw[if_pos hn0]at HY
  subst hn0;have HT1:=q7 (HX.out.up (qn w1 (.cells #[.int .u8 (l:Nat)] 5)));have HXT:=q7 (q0M w1 l);have HT2:=q7 (O4 l);have HT3:Hid ((qD b).length+1<=4294967296):=q7 (by rw[qz];have:=HLEN.out;omega)
  have HT4:Hid (B<=(w1.alloc (.cells #[.int .u8 (l:Nat)] 5)).heap.size):=q7 (qa (qa hBw (Nat.le_of_lt hp)) (qn w1 _).size)
  go_enter Tryz.func69,Tryz.ntmps69
  go_upto_region 1 with fail
  rw[<-HW1.out]
  go_wp2_with(at_builtin;refine jt rfl (.tmp 10) (.tmp 13) 49 rfl B 5 (.int .u8 0) 1 Tryz.underlying49 (by kernel_rfl) rfl (by decide) _ (qD b) rfl HT1.out (.slice (some ⟨w1.heap.size,0,none⟩) 1 1) [.int .u8 (l:Nat)] rfl HXT.out HT2.out HT3.out HT4.out ?_;intro v' w5 hown1 hg1 hk1;have HO1:=q7 hown1;have HG1:=q7 hg1;have HK1:=q7 hk1;clear hown1 hg1 hk1)
  go_ret2
  refine⟨v',by rw[HY.out];rfl,?_,?_,?_⟩
  ·rw[HY.out,jC,vX l hl];exact HO1.out
  ·exact qp (qp HBL.out (qv (qn _ _) _)) HG1.out
  ·intro q hq
   rcases HK1.out q hq with h|h
   ·exact .inl h
   ·exact .inr (by have:=HBL.out.size;have:=(qn w1 (.cells #[.int .u8 (l:Nat)] 5)).size;omega)
 ·rw[if_neg hn0]at HY
  have qja:(n==0)=false:=by simpa using hn0
  by_cases q93:n<3\/258<n\/d<1\/32768<d
  ·have hor:decide (n<3)=true\/(decide (n<3)=false/\decide (n>258)=true)\/(decide (n<3)=false/\decide (n>258)=false/\decide (d<1)=true)\/(decide (n<3)=false/\decide (n>258)=false/\decide (d<1)=false/\decide (d>32768)=true):=by
    simp only[decide_eq_true_eq,qm];omega
   rw[if_pos q93]at HY;clear q93
   rcases hor with h1|⟨h1,h2⟩|⟨h1,h2,h3⟩|⟨h1,h2,h3,h4⟩<;>
   ·go_enter Tryz.func69,Tryz.ntmps69
    go_upto_region 1 with fail
    rw[<-HW1.out];go_wp2
    go_ret2
    exact⟨_,by rw[HY.out];rfl,by rw[HY.out];exact HX.out,HBL.out,fun q h=>.inl h⟩
  ·rw[if_neg q93]at HY
   have h1:decide (n<3)=false:=by rw[qm];omega
   have h2:decide (n>258)=false:=by rw[qm];omega
   have h3:decide (d<1)=false:=by rw[qm];omega
   have h4:decide (d>32768)=false:=by rw[qm];omega
   obtain⟨m,rfl⟩:∃m:Nat,n=m:=⟨n.toNat,by omega⟩
   obtain⟨e,rfl⟩:∃e:Nat,d=e:=⟨d.toNat,by omega⟩
   have hm3:3<=m/\m<=258:=by omega
   have he1:1<=e/\e<=32768:=by omega
   clear q93
   by_cases qaP:(b.length:Int)<e
   ·rw[if_pos qaP]at HY
    have h6:decide (b.length<e)=true:=by rw[decide_eq_true_iff];omega
    have h7:b.length<e:=by omega
    clear qaP;generalize b.length=L at*
    go_enter Tryz.func69,Tryz.ntmps69
    go_upto_region 1 with fail
    rw[<-HW1.out];go_wp2
    go_ret2
    exact⟨_,by rw[HY.out];rfl,by rw[HY.out];exact HX.out,HBL.out,fun q h=>.inl h⟩
   ·rw[if_neg qaP]at HY
    simp only[Int.toNat_natCast]at HY;have h6:e<=b.length:=by omega
    have h7:decide (b.length<e)=false:=by rw[qm];omega
    have HCP:=q7 (fun k=>jV b e k)
    have HOV:Hid ((Value.slice ov b.length cv).ownBlock≠some w.heap.size):=q7 (by intro e2;have:=HVL.out _ e2;omega)
    have hLb:=HLEN.out;obtain⟨L,hL⟩:∃L,L=b.length:=⟨_,rfl⟩;rw[<-hL]at h6 h7 HCP HOV HX HBL hLb hm⊢;clear hL qaP HVL HLEN
    go_enter Tryz.func69,Tryz.ntmps69
    go_upto_region 1 with fail
    rw[<-HW1.out];go_wp2
    go_loopg [0,6] (m+1) (fun gk vb iv wr=>∃(k:Nat) (bk:qK),iv=.int .i64 k/\k<=m/\Hid (bk=ju b e k)/\Own wr B 5 vb (qD bk)/\w.grownBy wr (Value.slice ov L cv).ownBlock/\(∀q,vb.ownBlock=some q->(Value.slice ov L cv).ownBlock=some q\/w.heap.size<=q)/\Own wr w.heap.size 64 (.slice (some ⟨w.heap.size,0,none⟩) 3 3) (opV ⟨l,m,e⟩)/\vb.ownBlock≠some w.heap.size/\gk=m+1-k)
    case atStart=>exact⟨0,b,rfl,qc _,q7 rfl,HX.out,HBL.out,fun q h=>.inl h,HOP.out,HOV.out,rfl⟩
    case round=>
     clear HX HBL HOP HOV;obtain⟨k,bk,rfl,hk,HBK,hx,hbl,hvk,hop,hvq,rfl⟩:=hrel;have HX:=q7 hx;have HBL:=q7 hbl;have HOP:=q7 hop;have HVQ:=q7 hvq;have HVK:=q7 hvk;have qaG:=hbl.size;have p1:wr.cell? ⟨w.heap.size,1,none⟩=some (.int .i64 m):=hop.cell (by simp[opV])
     have p2:wr.cell? ⟨w.heap.size,2,none⟩=some (.int .i64 e):=hop.cell (by simp[opV])
     have hp:=hop.blk.2;have hBr:B<=wr.heap.size:=by omega
     by_cases hlt:k<m
     ·have q9w:decide ((k:Int)<(m:Int))=true:=by rw[decide_eq_true_iff];omega
      have qaj:bk.length=L+k:=by rw[HBK.out,HCP.out]
      have HBN:Hid (ju b e (k+1)=bk++[bk.getD (L+k-e) 0]):=q7 (by
       show ju b e k++[(ju b e k).getD ((ju b e k).length-e) 0]=_
       rw[<-HBK.out,qaj])
      obtain⟨ov,cv,gv,hvb,hdv,hgv,hcv,-⟩:=hx.cases;rw[qz]at hvb hdv hgv hcv;rw[qaj]at hvb hdv hgv hcv;have hix:=qQ (P:=Tryz.prog) 49 5 Tryz.underlying49 (by kernel_rfl) hdv
      have hcell:=hcv (L+k-e) (by omega)
      rw[sE _ _ (by rw[qaj];omega)]at hcell
      have hby:(bk.getD (L+k-e) 0).toNat<256:=UInt8.toNat_lt _;have HOF:Hid (UInt8.ofNat (bk.getD (L+k-e) 0).toNat=bk.getD (L+k-e) 0):=q7 (by simp)
      generalize hxx:(bk.getD (L+k-e) 0).toNat=x at*;have q9j:((L+k:Nat):Int)-(e:Int)=((L+k-e:Nat):Int):=by omega
      have q9a:=fun W=>hix W .i64 ((L+k-e:Nat):Int) (by omega) (by omega)
      simp only[Int.toNat_natCast,Nat.zero_add]at q9a;rw[<-q9j]at q9a;have qce:=hdv.hblk (by omega)
      obtain⟨M,hM⟩:∃M,M=L+k:=⟨_,rfl⟩;have HT3:Hid ((qD bk).length+1<=4294967296):=q7 (by rw[qz,qaj];omega)
      have hM2:M<=100001000:=by omega
      rw[<-hM]at hvb q9j q9a hcell;subst hvb;have HT1:=q7 (HX.out.up (qn wr (.cells #[.int .u8 (x:Nat)] 5)));have HXT:=q7 (q0M wr x);have HT2:=q7 (O4 x);have HT4:Hid (B<=(wr.alloc (.cells #[.int .u8 (x:Nat)] 5)).heap.size):=q7 (qa hBr (qn wr _).size);clear hx hbl hvk hop hdv hgv hcv hix hxx qaj hvq hM q9j
      go_wp2_with(at_builtin;refine jt rfl (.tmp 47) (.tmp 56) 49 rfl B 5 (.int .u8 0) 1 Tryz.underlying49 (by kernel_rfl) rfl (by decide) _ (qD bk) rfl HT1.out (.slice (some ⟨wr.heap.size,0,none⟩) 1 1) [.int .u8 (x:Nat)] rfl HXT.out HT2.out HT3.out HT4.out ?_;intro v' w5 hown1 hg1 hk1;have HO1:=q7 hown1;have HG1:=q7 hg1;have HK1:=q7 hk1;clear hown1 hg1 hk1)
      go_roundg (m+1-(k+1))
      case measure=>omega
      case rel=>
       refine⟨k+1,bk++[UInt8.ofNat x],by go_num,by omega,q7 (by rw[HBN.out,HOF.out]),by rw[jC,vX x hby];exact HO1.out,U9 (qp HBL.out (qv (qn wr _) _)) HVK.out HG1.out,fun q hq=>?_,(HOP.out.up (qn wr _)).keep HG1.out (.inr (fun e=>HVQ.out e.symm)),fun e=>?_,rfl⟩
       ·rcases HK1.out _ hq with h|h
        ·exact HVK.out q h
        ·exact .inr (by have:=(qn wr (.cells #[.int .u8 (x:Nat)] 5)).size;omega)
       rcases HK1.out _ e with h|h
       ·exact HVQ.out h
       ·have:=(qn wr (.cells #[.int .u8 (x:Nat)] 5)).size;omega
     ·obtain rfl:k=m:=by omega
      have q9w:decide ((k:Int)<(k:Int))=false:=by rw[qm];omega
      clear hlt hx hbl hvk hop hvq;go_wp2
      go_ret2
      exact⟨_,by rw[HY.out];rfl,by rw[HY.out,<-HBK.out];exact HX.out,HBL.out,HVK.out⟩
theorem q3T{w:World}{v:Value}{l:List PtN}(h:js w v l)(hok:∀p∈l,yT p):Calls Tryz.prog 30 #[v] w (bS (jq 10 17 l) w):=by
 have HOK:Hid (∀i,i<l.length->yT (l.getD i zPt)):=q7 (fun i hi=>by
  have:l.getD i zPt=l[i]:=by simp[List.getD,hi]
  rw[this];exact hok _ (List.getElem_mem hi))
 obtain⟨oa,cap,bl,off,rfl,hd,hco⟩:=h.open;have HCO:=q7 hco;have HD:=q7 hd;obtain⟨y,hy⟩:∃y,y=jq 10 17 l:=⟨_,rfl⟩;rw[<-hy];have HY:=q7 hy;unfold jq at HY;have hm:=hd.len;clear hy h hok hd hco
 by_cases hl:l=[]
 ·rw[if_pos hl]at HY
  subst hl
  go_enter Tryz.func30,Tryz.ntmps30
  go_wp2
  go_ret2
  exact⟨by rw[HY.out];rfl,(qt (by repeat(first|exact qj _ _|assumption|refine qw ?_ _|refine qk ?_|refine qA ?_ _|refine qs ?_ _)))⟩
 ·rw[if_neg hl]at HY
  have hl0:0<l.length:=List.length_pos_iff.2 hl;have hl1:((l.length:Int)==0)=false:=by simp;exact hl
  clear hl
  go_enter Tryz.func30,Tryz.ntmps30
  go_wp2
  go_loopg [4,5] (l.length+1) (fun gk vb iv wr=>∃(k:Nat) (b:qK),iv=.int .i64 k/\k<=l.length/\Hid (jW 10 (l.take k)=(0,b))/\b.length<=16777216/\Own wr w.heap.size 5 vb (qD b)/\Below w.heap.size w wr/\gk=l.length+1-k)
  case atStart=>exact⟨0,[],rfl,qc _,q7 rfl,qc _,Own.nil _ _ _,qj _ _,rfl⟩
  case round=>
   obtain⟨k,b,rfl,hk,HK,hbk,hx,hbl,rfl⟩:=hrel;have HX:=q7 hx;have HBW:=q7 hbl;have hsz:=hbl.size;obtain⟨ov,cv,gv,hvb,hdv,-⟩:=hx.cases;rw[qz]at hvb hdv;have hmv:=hdv.len;subst hvb;generalize wr=wo at*;have HX0:=q7 HX.out;clear hx hbl hdv
   by_cases hlt:k<l.length
   ·have hix:=jy (P:=Tryz.prog) 5 24 73 Tryz.underlying24 (by kernel_rfl) HD.out
    have q9a:=fun W kd=>hix W kd (k:Int) (by omega) (by omega)
    simp only[Int.toNat_natCast]at q9a;obtain⟨oo,oc,o1,c1,o2,c2,hcc,hs,hi1,hi2⟩:=HCO.out k hlt;have hok:=HOK.out k hlt;have HSK:=q7 (iD hlt HK.out);have q9b:=q7 (eW (eD:=10) (l:=l) (k:=k+1));have hbb:=HD.out.hblk (by omega)
    obtain⟨p,hp⟩:∃p,p=l.getD k zPt:=⟨_,rfl⟩;rw[<-hp]at hcc hs hi1 hi2 hok HSK;clear hp;obtain⟨kd,tx,ops,lits,dists⟩:=p;simp only at hcc hs hi1 hi2;obtain⟨qbA,htx⟩:=hok;simp only at qbA htx;have HC5:Hid (∀c,c<5->wo.cell? ⟨bl,off+k*5+c,none⟩=some ((#[.int .i64 kd,.string tx,.slice oo ops.length oc,.slice o1 lits.length c1,.slice o2 dists.length c2]:Array Value).getD c undef)):=q7 (fun c hc=>(HBW.out.cell (p:=⟨bl,off+k*5+c,none⟩) hbb).trans (hcc c hc))
    obtain⟨wp,hwp⟩:∃wp,wp=wo.alloc (.cells #[.int .i64 kd,.string tx,.slice oo ops.length oc,.slice o1 lits.length c1,.slice o2 dists.length c2] 73):=⟨_,rfl⟩;have hAL:=qn wo (.cells #[.int .i64 kd,.string tx,.slice oo ops.length oc,.slice o1 lits.length c1,.slice o2 dists.length c2] 73);have hPT:=qE wo wo.heap.size #[.int .i64 kd,.string tx,.slice oo ops.length oc,.slice o1 lits.length c1,.slice o2 dists.length c2] 73 (by simp) (q9 _)
    rw[<-hwp]at hAL hPT;have HAL:=q7 hAL;have HPT:=q7 hPT;have HWP:=q7 hwp;have HXP:=q7 (HX.out.up hAL);have HBP:=q7 (HBW.out.trans (hAL.mono hsz));have HSO:=q7 (fun(W:World) (hb:Below w.heap.size w W)=>hs.up hb)
    have hq0:wp.cell? ⟨wo.heap.size,0,none⟩=some (.int .i64 kd):=hPT.cell (by simp)
    have hq1:wp.cell? ⟨wo.heap.size,1,none⟩=some (.string tx):=hPT.cell (by simp)
    have hq2:wp.cell? ⟨wo.heap.size,2,none⟩=some (.slice oo ops.length oc):=hPT.cell (by simp)
    have hqb:=hPT.blk.2
    have hno:ops.length<=9223372036854775807:=by
     obtain⟨oa',cap',b',off',hv',hd',-⟩:=cP hs;injection hv' with e1 e2 e3
     have:=hd'.len;omega
    unfold fN at HSK;simp only at HSK;clear hcc hi1 hi2 hs hix hAL hPT hwp HX HD HCO HOK
    go_upto_region 8 with(refine qG rfl 73 _ rfl bl (off+k*5) 5 rfl #[.int .i64 kd,.string tx,.slice oo ops.length oc,.slice o1 lits.length c1,.slice o2 dists.length c2] _ HC5.out rfl Tryz.underlying73 rfl (by kernel_rfl) ?_)
    rw[<-HWP.out]
    have HEE:Hid (∀er b2,er≠0->jW 10 (l.take (k+1))=(er,b2)->y=(er,[])):=q7 (fun er b2 he h=>by
     have h2:=q9b.out (by rw[h];exact he)
     rw[h]at h2;rw[HY.out,h2,if_pos he])
    have HYK:=q7 HY.out;clear HY q9b HC5 HK
    by_cases q93:kd<0\/2<kd
    ·have hor:decide (kd<0)=true\/(decide (kd<0)=false/\decide (kd>2)=true):=by
      simp only[decide_eq_true_eq,qm];omega
     have HE:=q7 (HEE.out 1 b (by decide) (by rw[HSK.out,if_neg (by omega),if_neg (by omega)]))
     clear q93
     rcases hor with h1|⟨h1,h2⟩<;>
     ·go_wp2
      go_ret2
      exact⟨by rw[HE.out];rfl,qt HBP.out⟩
    ·have h1:decide (kd<0)=false:=by rw[qm];omega
     have h2:decide (kd>2)=false:=by rw[qm];omega
     by_cases k0:kd=0
     ·subst k0
      by_cases q90:65535<tx.size
      ·have hbi:decide ((tx.size:Int)>65535)=true:=by rw[decide_eq_true_iff];omega
       have HE:=q7 (HEE.out 1 b (by decide) (by rw[HSK.out,if_pos rfl,if_pos q90]))
       clear q93 q90;go_wp2
       go_ret2
       exact⟨by rw[HE.out];rfl,qt HBP.out⟩
      ·have hbi:decide ((tx.size:Int)>65535)=false:=by rw[qm];omega
       have q9y:Hid (jW 10 (l.take (k+1))=yC (0,b++tx.data.toList)):=q7 (by rw[HSK.out,if_pos rfl,if_neg q90])
       have HT3:Hid ((qD b).length+tx.size<=4294967296):=q7 (by rw[qz];omega)
       have HT4:Hid (w.heap.size<=wp.heap.size):=q7 HBP.out.size;have hlA:(qD b++qD tx.data.toList).length=b.length+tx.size:=by rw[qg,qz,qz];simp
       have HLA:=q7 hlA;have qlf:tx.size<=65535:=by omega
       clear q93 q90 HSK hlA
       go_wp2_with(at_builtin;refine dQ rfl (.tmp 45) (.tmp 47) 49 9 rfl w.heap.size 5 (.int .u8 0) 1 Tryz.underlying49 Tryz.underlying9 (by kernel_rfl) rfl (by decide) _ (qD b) rfl HXP.out tx rfl HT3.out HT4.out ?_;intro v' w5 hown1 hg1 hk1;have HO1:=q7 hown1;have HG1:=q7 hg1;have HP5:=q7 (HPT.out.keep hg1 (.inr (by intro e;have e2:some wo.heap.size=(Value.slice ov b.length cv).ownBlock:=e;have:=(HXP.out.lt _ e2.symm).2;have h9:=(HX0.out.lt _ e2.symm).2;omega)));clear hown1 hg1 hk1)
       have HB5:=q7 (jL HBP.out HT4.out HXP.out HG1.out);obtain⟨o5,k5,g5,hv5,hd5,-⟩:=HO1.out.cases;rw[HLA.out]at hv5 hd5;subst hv5;have hq0:w5.cell? ⟨wo.heap.size,0,none⟩=some (.int .i64 0):=HP5.out.cell (by simp)
       have hq2:w5.cell? ⟨wo.heap.size,2,none⟩=some (.slice oo ops.length oc):=HP5.out.cell (by simp)
       have hqb:=HP5.out.blk.2;have hO5:Own w5 w.heap.size 5 (.slice o5 (b.length+tx.size) k5) (qD (b++tx.data.toList)):=by rw[jC];exact HO1.out
       have HO5:=q7 hO5;have hl5:(b++tx.data.toList).length=b.length+tx.size:=by rw[qg];simp
       have HL5:=q7 hl5;clear HO1 hd5 HP5 hO5 hl5;obtain⟨L5,hL5⟩:∃L5,L5=b.length+tx.size:=⟨_,rfl⟩;rw[<-hL5]at HO5 HL5⊢;have qmq:L5<=16842752:=by omega
       clear hL5
       go_loopg [4,7] 1 (fun gk vb iv wr=>vb=.slice o5 L5 k5/\iv=.int .i64 0/\wr=w5/\gk=1)
       case atStart=>exact⟨rfl,rfl,rfl,rfl⟩
       case round=>
        obtain⟨rfl,rfl,rfl,rfl⟩:=hrel
        have fin:∀Pr:Prop,((16777216<L5->Hid (y=(3,[]))->Pr)/\(¬16777216<L5->Hid (jW 10 (l.take (k+1))=(0,b++tx.data.toList))->Pr))->Pr:=fun Pr hP=>by
         by_cases hmx:16777216<L5
         ·refine hP.1 hmx (q7 (HEE.out 3 (b++tx.data.toList) (by decide) ?_))
          rw[q9y.out];unfold yC;rw[if_neg (fun h=>h rfl),HL5.out,if_pos hmx]
         ·refine hP.2 hmx (q7 ?_)
          rw[q9y.out];unfold yC;rw[if_neg (fun h=>h rfl),HL5.out,if_neg hmx]
        have hor:decide (0<ops.length)=true\/decide (0<ops.length)=false:=by
         cases decide (0<ops.length)<;>simp
        refine fin _ ⟨fun hmx HE=>?_,fun hmx HE=>?_⟩
        ·have hmi:(L5:Int)>16777216:=by omega
         rcases hor with h5|h5<;>
         ·go_wp2
          go_ret2
          exact⟨by rw[HE.out];rfl,qt HB5.out⟩
        ·have hmi:¬(L5:Int)>16777216:=by omega
         rcases hor with h5|h5<;>
         ·go_wp2
          go_roundg (l.length+1-(k+1))
          case measure=>omega
          case rel=>exact⟨k+1,b++tx.data.toList,by go_num,by omega,HE,by rw[HL5.out];omega,HO5.out,HB5.out,rfl⟩
     ·have hk0:(kd==0)=false:=by simpa using k0
      have hkp:decide (kd>0)=true:=by rw[decide_eq_true_iff];omega
      have q9y:Hid (jW 10 (l.take (k+1))=yC (oG 10 b ops)):=q7 (by rw[HSK.out,if_neg k0,if_pos (by omega)])
      have HDO:=q7 (fun(W:World) (vb:Value) (bk:qK) (o:OpN) (ho:o∈ops) (ht:Own W w.heap.size 5 vb (qD bk)) (hB:w.heap.size<=W.heap.size) (hb:bk.length<=16777216)=>q8G ht (by omega) hB o.lit o.len o.dist (qbA o ho))
      have HST:Hid (∀j bk,(hj:j<ops.length)->oG 10 b (ops.take j)=(0,bk)->oG 10 b (ops.take (j+1))=if(opN 10 bk ops[j]).1≠0 then opN 10 bk ops[j]else if 16777216<(opN 10 bk ops[j]).2.length then(3,(opN 10 bk ops[j]).2)else opN 10 bk ops[j]):=q7 (fun j bk hj h=>yS hj h)
      have q9b:Hid (∀j,(oG 10 b (ops.take j)).1≠0->oG 10 b ops=oG 10 b (ops.take j)):=q7 (fun j h=>yE h)
      have qdj:Hid (∀j,(hj:j<ops.length)->ops[j]∈ops):=q7 (fun j hj=>List.getElem_mem hj)
      have HNQ:Hid ((Value.slice ov b.length cv).ownBlock≠some wo.heap.size):=q7 (fun e=>by have:=(HX0.out.lt _ e).2;omega)
      clear q93 HSK qbA k0;go_wp2
      go_loopg [4,7] (ops.length+1) (fun gk vb jv wr=>∃(j:Nat) (bk:qK),jv=.int .i64 j/\j<=ops.length/\Hid (oG 10 b (ops.take j)=(0,bk))/\bk.length<=16777216/\Own wr w.heap.size 5 vb (qD bk)/\Own wr wo.heap.size 73 (.slice (some ⟨wo.heap.size,0,none⟩) 5 5) [.int .i64 kd,.string tx,.slice oo ops.length oc,.slice o1 lits.length c1,.slice o2 dists.length c2]/\vb.ownBlock≠some wo.heap.size/\Below w.heap.size w wr/\gk=ops.length+1-j)
      case atStart=>exact⟨0,b,rfl,qc _,q7 rfl,hbk,HXP.out,HPT.out,HNQ.out,HBP.out,rfl⟩
      case round=>
       clear HXP HPT HBP HNQ HBW HX0 hq0 hq1 hq2 hqb HAL;obtain⟨j,bk,rfl,hj,HJ,hbj,hx,hpt,hnq,hbl,rfl⟩:=hrel;have HX:=q7 hx;have HPT:=q7 hpt;have HNQ:=q7 hnq;have HBL:=q7 hbl;have qaG:=hbl.size;have hq0:wr.cell? ⟨wo.heap.size,0,none⟩=some (.int .i64 kd):=hpt.cell (by simp)
       have hq2:wr.cell? ⟨wo.heap.size,2,none⟩=some (.slice oo ops.length oc):=hpt.cell (by simp)
       have hqb:=hpt.blk.2;clear hx hpt hnq hbl
       by_cases q9x:j<ops.length
       ·have qbz:decide ((j:Int)<(ops.length:Int))=true:=by rw[decide_eq_true_iff];omega
        have qjc:decide (j<ops.length)=true:=by rw[decide_eq_true_iff];omega
        obtain⟨oo',oc',ob',off',hv',hdo,hco⟩:=cP (HSO.out wr HBL.out)
        obtain⟨rfl,-,rfl⟩:oo=oo'/\ops.length=ops.length/\oc=oc':=by
         injection hv' with e1 e2 e3;exact⟨e1,rfl,e3⟩
        have hix:=jy (P:=Tryz.prog) 3 65 64 Tryz.underlying65 (by kernel_rfl) hdo
        have q9a:=fun W kd=>hix W kd (j:Int) (by omega) (by omega)
        simp only[Int.toNat_natCast]at q9a;have hcc:=hco j q9x;have hbb:=hdo.hblk (by omega)
        have hst:=HST.out j bk q9x HJ.out;have HD1:=q7 (HDO.out wr _ bk ops[j] (qdj.out j q9x) HX.out qaG hbj);have hsk:=q9b.out (j+1);rw[hst]at hsk;have qaL:=Y5 (eD:=10) (b:=bk) (o:=ops[j]);generalize ops[j]=o at*;obtain⟨ol,on,od⟩:=o;simp only at HD1;generalize hyo:opN 10 bk ⟨ol,on,od⟩=yo at*;obtain⟨er,b2⟩:=yo;simp only at HD1 hst hsk qaL
        have HC3:Hid (∀c,c<3->wr.cell? ⟨ob',off'+j*3+c,none⟩=some ((#[.int .u8 (ol:Nat),.int .i64 on,.int .i64 od]:Array Value).getD c undef)):=q7 (fun c hc=>by
         rw[hcc c hc]
         match c,hc with
         |0,_=>rfl
         |1,_=>rfl
         |2,_=>rfl)
        have q95:=q7 hst;have qda:=q7 hsk;clear hco hix hdo hv' hcc hst hsk hyo q9b HST qdj HDO HSO;unfold q3S at HD1;simp only at HD1
        by_cases her:er=0
        ·subst her
         go_upto_region 18 with(first
          |(refine qG rfl 64 _ rfl ob' (off'+j*3) 3 rfl #[.int .u8 (ol:Nat),.int .i64 on,.int .i64 od] _ HC3.out rfl Tryz.underlying64 rfl (by kernel_rfl) ?_)
          |(go_at_call 69;(with_reducible refine HD1.out.mono ?_);rintro e w5 ⟨v5,rfl,hx5,hg5,hk5⟩;have HX5:=q7 hx5;have HP5:=q7 (HPT.out.keep hg5 (.inr (fun e=>HNQ.out e.symm)));have HN5:Hid (v5.ownBlock≠some wo.heap.size):=q7 (fun e=>(by rcases hk5 _ e with h|h;exact HNQ.out h;omega));have HB5:=q7 (jL HBL.out qaG HX.out hg5);clear hx5 hg5 hk5))
         obtain⟨o5,k5,q5,hv5,hd5,-⟩:=HX5.out.cases;rw[qz]at hv5 hd5;have hl5:=hd5.len;subst hv5;clear hd5
         by_cases hmx:16777216<b2.length
         ·have hmi:(b2.length:Int)>16777216:=by omega
          have HE:=q7 (HEE.out 3 b2 (by decide) (by
           have h2:=qda.out;rw[if_neg (fun h=>h rfl),if_pos hmx]at h2
           rw[q9y.out,h2 (by intro h;cases h)]
           rfl))
          clear qda q95;generalize b2.length=l2 at*;go_wp2
          go_ret2
          exact⟨by rw[HE.out];rfl,qt HB5.out⟩
         ·have hmi:¬(b2.length:Int)>16777216:=by omega
          have HK2:Hid (oG 10 b (ops.take (j+1))=(0,b2)):=q7 (by
           rw[q95.out,if_neg (fun h=>h rfl),if_neg hmx])
          clear qda q95;obtain⟨l2,hl2⟩:∃l2,l2=b2.length:=⟨_,rfl⟩;rw[<-hl2]at hmi HX5 HN5 hl5 hmx⊢;have HL2:=q7 hl2;clear hl2;go_wp2
          go_roundg (ops.length+1-(j+1))
          case measure=>omega
          case rel=>exact⟨j+1,b2,by go_num,by omega,HK2,by rw[<-HL2.out];omega,HX5.out,HP5.out,HN5.out,HB5.out,rfl⟩
        ·have hei:((er:Int) != 0)=true:=by simpa using her
         have HE:=q7 (HEE.out er b2 her (by
          have h2:=qda.out;rw[if_pos her]at h2;rw[q9y.out,h2 her];unfold yC;rw[if_pos her]))
         clear her qda q95
         go_wp2_with(first
          |(refine qG rfl 64 _ rfl ob' (off'+j*3) 3 rfl #[.int .u8 (ol:Nat),.int .i64 on,.int .i64 od] _ HC3.out rfl Tryz.underlying64 rfl (by kernel_rfl) ?_)
          |(go_at_call 69;(with_reducible refine HD1.out.mono ?_);rintro e w5 ⟨v5,rfl,hx5,hg5,hk5⟩;have HB5:=q7 (jL HBL.out qaG HX.out hg5);clear hx5 hg5 hk5))
         go_ret2
         exact⟨by rw[HE.out];rfl,qt HB5.out⟩
       ·obtain rfl:j=ops.length:=by omega
        have qbz:decide (ops.length<ops.length)=false:=by simp
        have HK2:Hid (jW 10 (l.take (k+1))=(0,bk)):=q7 (by
         have h2:=HJ.out;rw[List.take_length]at h2;rw[q9y.out,h2];unfold yC;rw[if_neg (fun h=>h rfl),if_neg (by simp only;omega)])
        obtain⟨o5,k5,q5,hv5,hd5,-⟩:=HX.out.cases;rw[qz]at hv5 hd5;subst hv5;clear hd5 q9x;have hmi:¬(bk.length:Int)>16777216:=by omega
        go_wp2
        go_roundg (l.length+1-(k+1))
        case measure=>omega
        case rel=>exact⟨k+1,bk,by go_num,by omega,HK2,hbj,HX.out,HBL.out,rfl⟩
   ·obtain rfl:k=l.length:=by omega
    have HE:Hid (y=(0,b)):=q7 (by
     have h2:=HK.out;rw[List.take_length]at h2;rw[HY.out,h2,if_neg (fun h=>h rfl)])
    have hcv:=j7 (P:=Tryz.prog) wo 49 9 5 Tryz.underlying49 Tryz.underlying5 Tryz.underlying9 _ b HX.out.sl;clear hlt;generalize b.length=l2 at*;go_wp2
    go_ret2
    exact⟨by rw[HE.out];rfl,qt HBW.out⟩
theorem sO{base each n k:Nat}(h0:base<=n)(hk:0<k)(h:aE base each n k=aE base each n 0):n<qL base each 1:=by
 have h1:=(gD (each:=each) h0 k).2;have e:aE base each n k=0:=h;rw[e]at h1
 exact h1 hk
theorem q6t(n:Int)(hn1: -9223372036854775808<=n)(hn2:n<=9223372036854775807)(w:World):Calls Tryz.prog 114 #[.int .i64 n] w fun e w'=>e=.returned (q25 (aA n))/\∃x,w'=ext w x:=by
 have HLE:=q7 (fun(i:Nat) (hi:i<=27) (W:World)=>q6q i hi W)
 have HL8:=q7 q0O;obtain⟨y,hy⟩:∃y,y=aA n:=⟨_,rfl⟩;rw[<-hy];have HY:=q7 hy;clear hy;unfold aA at HY
 by_cases h:n<3\/258<n
 ·have hor:decide (n<3)=true\/(decide (n<3)=false/\decide (n>258)=true):=by
   by_cases h1:n<3
   ·exact .inl (by simpa using h1)
   ·exact .inr ⟨by simpa using h1,by rw[decide_eq_true_iff];omega⟩
  rw[if_pos h]at HY;clear h
  rcases hor with h|⟨h1,h2⟩<;>
  ·go_enter Tryz.func114,Tryz.ntmps114
   go_wp2;refine bodyPost_ret (jH rfl _ _ _) rfl ?_
   exact⟨by rw[HY.out];rfl,(qt (by repeat(first|exact qj _ _|assumption|refine qw ?_ _|refine qk ?_|refine qA ?_ _|refine qs ?_ _)))⟩
 ·rw[if_neg h]at HY
  have h1:decide (n<3)=false:=by rw[qm];omega
  have h2:decide (n>258)=false:=by rw[qm];omega
  obtain⟨m,rfl⟩:∃m:Nat,n=m:=⟨n.toNat,by omega⟩
  have hm1:3<=m:=by omega
  have hm2:m<=258:=by omega
  rw[Int.toNat_natCast]at HY;clear h
  go_enter Tryz.func114,Tryz.ntmps114
  go_wp2
  go_loopg [6] 28 (fun gk sv wr=>∃k:Nat,sv=.int .i64 ((257+k:Nat):Int)/\Hid (k=28\/(k<=27/\m≠258/\aE 3 4 m 27=aE 3 4 m k))/\Below w.heap.size w wr/\gk=k)
  case atStart=>exact⟨28,rfl,q7 (.inl rfl),qj _ _,rfl⟩
  case round=>
   obtain⟨k,rfl,HK,q8Z,rfl⟩:=hrel;have HBL:=q7 q8Z;clear q8Z
   rcases HK.out with hk|⟨hk,hne,qac⟩
   ·subst hk
    by_cases qhr:m=258
    ·subst qhr
     have HE:Hid (y=⟨285,0,0,0⟩):=q7 (by rw[HY.out];rfl)
     go_wp2_with(go_at_call 149;(with_reducible refine(HL8.out _).mono ?_);rintro e w4 ⟨rfl,x4,rfl⟩)
     refine bodyPost_ret (jH rfl _ _ _) rfl ?_
     exact⟨by rw[HE.out];rfl,qt (HBL.out.trans ((qu _ x4).mono HBL.out.size))⟩
    ·have hd:decide ((258:Int)<=(m:Int))=false:=by rw[qm];omega
     go_wp2_with(go_at_call 149;(with_reducible refine(HL8.out _).mono ?_);rintro e w4 ⟨rfl,x4,rfl⟩)
     go_roundg 27
     case measure=>omega
     case rel=>exact⟨27,rfl,q7 (.inr ⟨q9 _,qhr,rfl⟩),HBL.out.trans ((qu _ x4).mono HBL.out.size),rfl⟩
   ·have HYS:Hid (y=gE 257 3 4 m 27):=q7 (by rw[HY.out,if_neg (by omega)])
    clear HY HK
    cases gk with
    |zero=>
     have hm3:=sO hm1 (by decide) qac
     have hm4:m=3:=by have e:qL 3 4 1=4:=rfl;omega
     subst hm4;have HE:Hid (y=⟨257,0,0,0⟩):=q7 (by rw[HYS.out];rfl)
     clear qac hm3;go_wp2;refine bodyPost_ret (jH rfl _ _ _) rfl ?_
     exact⟨by rw[HE.out];rfl,qt HBL.out⟩
    |succ j=>
     have HLK:=q7 (fun W=>HLE.out (j+1) hk W)
     obtain⟨v,hv⟩:∃v,v=257+(j+1):=⟨_,rfl⟩;have hv2:257<v:=by omega
     have hv3:v<=284:=by omega
     have hvj:((257+j:Nat):Int)=(v:Int)-1:=by omega
     have HVJ:=q7 hvj;have HV:=q7 hv;rw[<-hv]at HLK⊢;clear hv hvj
     by_cases hle:qL 3 4 (j+1)<=m
     ·have HE:Hid (y=⟨v,spB 4 (j+1),m-qL 3 4 (j+1),0⟩):=q7 (by
       have e:=kR (each:=4) hle;rw[HYS.out,HV.out];unfold gE;rw[qac,e])
      have q9j:((m-qL 3 4 (j+1):Nat):Int)=(m:Int)-(qL 3 4 (j+1):Nat):=by omega
      have HS:=q7 q9j;generalize spB 4 (j+1)=b at*;generalize qL 3 4 (j+1)=q at*;have hd:q<=m:=hle;clear qac q9j
      go_wp2_with(go_at_call 149;(with_reducible refine(HLK.out _).mono ?_);rintro e w4 ⟨rfl,x4,rfl⟩)
      refine bodyPost_ret (jH rfl _ _ _) rfl ?_;refine⟨?_,qt (HBL.out.trans ((qu _ x4).mono HBL.out.size))⟩;unfold q25;rw[HE.out]
      dsimp only
      rw[HS.out]
      rfl
     ·have hd:¬qL 3 4 (j+1)<=m:=hle
      have HI:Hid (aE 3 4 m 27=aE 3 4 m j):=q7 (by rw[qac];exact kQ (by omega))
      generalize spB 4 (j+1)=b at*;generalize qL 3 4 (j+1)=q at*;have hd2:decide (q<=m)=false:=by rw[qm];omega
      clear qac
      go_wp2_with(go_at_call 149;(with_reducible refine(HLK.out _).mono ?_);rintro e w4 ⟨rfl,x4,rfl⟩)
      go_roundg j
      case measure=>omega
      case rel=>exact⟨j,by rw[HVJ.out],q7 (.inr ⟨by omega,hne,HI.out⟩),HBL.out.trans ((qu _ x4).mono HBL.out.size),rfl⟩
theorem q6u(n:Int)(hn1: -9223372036854775808<=n)(hn2:n<=9223372036854775807)(w:World):Calls Tryz.prog 115 #[.int .i64 n] w fun e w'=>e=.returned (q25 (aM n))/\∃x,w'=ext w x:=by
 have HLE:=q7 (fun(i:Nat) (hi:i<=29) (W:World)=>q6s i hi W)
 obtain⟨y,hy⟩:∃y,y=aM n:=⟨_,rfl⟩;rw[<-hy];have HY:=q7 hy;clear hy;unfold aM at HY
 by_cases h:n<1\/32768<n
 ·have hor:decide (n<1)=true\/(decide (n<1)=false/\decide (n>32768)=true):=by
   by_cases h1:n<1
   ·exact .inl (by simpa using h1)
   ·exact .inr ⟨by simpa using h1,by rw[decide_eq_true_iff];omega⟩
  rw[if_pos h]at HY;clear h
  rcases hor with h|⟨h1,h2⟩<;>
  ·go_enter Tryz.func115,Tryz.ntmps115
   go_wp2;refine bodyPost_ret (jH rfl _ _ _) rfl ?_
   exact⟨by rw[HY.out];rfl,(qt (by repeat(first|exact qj _ _|assumption|refine qw ?_ _|refine qk ?_|refine qA ?_ _|refine qs ?_ _)))⟩
 ·rw[if_neg h]at HY
  have h1:decide (n<1)=false:=by rw[qm];omega
  have h2:decide (n>32768)=false:=by rw[qm];omega
  obtain⟨m,rfl⟩:∃m:Nat,n=m:=⟨n.toNat,by omega⟩
  have hm1:1<=m:=by omega
  have hm2:m<=32768:=by omega
  rw[Int.toNat_natCast]at HY;clear h
  go_enter Tryz.func115,Tryz.ntmps115
  go_wp2
  go_loopg [6] 29 (fun gk sv wr=>∃k:Nat,sv=.int .i64 k/\Hid (k<=29/\aE 1 2 m 29=aE 1 2 m k)/\Below w.heap.size w wr/\gk=k)
  case atStart=>exact⟨29,rfl,q7 ⟨q9 _,rfl⟩,qj _ _,rfl⟩
  case round=>
   obtain⟨k,rfl,HK,q8Z,rfl⟩:=hrel;have HBL:=q7 q8Z;clear q8Z;obtain⟨hk,qac⟩:=HK.out;have HYS:Hid (y=gE 0 1 2 m 29):=q7 HY.out;clear HY HK
   cases gk with
   |zero=>
    have hm3:=sO hm1 (by decide) qac
    have hm4:m=1:=by have e:qL 1 2 1=2:=rfl;omega
    subst hm4;have HE:Hid (y=⟨0,0,0,0⟩):=q7 (by rw[HYS.out];rfl)
    clear qac hm3;go_wp2;refine bodyPost_ret (jH rfl _ _ _) rfl ?_
    exact⟨by rw[HE.out];rfl,qt HBL.out⟩
   |succ j=>
    have hlk:=fun W=>HLE.out (j+1) hk W
    rw[Nat.zero_add]at hlk;have HLK:=q7 hlk;obtain⟨v,hv⟩:∃v,v=j+1:=⟨_,rfl⟩;have hv2:0<v:=by omega
    have hv3:v<=29:=by omega
    have hvj:((j:Nat):Int)=(v:Int)-1:=by omega
    have HVJ:=q7 hvj;rw[<-hv]at HLK qac⊢;have HV:=q7 hv;clear hv hvj hlk
    by_cases hle:qL 1 2 v<=m
    ·have HE:Hid (y=⟨v,spB 2 v,m-qL 1 2 v,0⟩):=q7 (by
      have e:=kR (each:=2) hle;rw[HYS.out];unfold gE;rw[qac,e,Nat.zero_add])
     have q9j:((m-qL 1 2 v:Nat):Int)=(m:Int)-(qL 1 2 v:Nat):=by omega
     have HS:=q7 q9j;generalize spB 2 v=b at*;generalize qL 1 2 v=q at*;have hd:q<=m:=hle;clear qac q9j
     go_wp2_with(go_at_call 150;(with_reducible refine(HLK.out _).mono ?_);rintro e w4 ⟨rfl,x4,rfl⟩)
     refine bodyPost_ret (jH rfl _ _ _) rfl ?_;refine⟨?_,qt (HBL.out.trans ((qu _ x4).mono HBL.out.size))⟩;unfold q25;rw[HE.out]
     dsimp only
     rw[HS.out]
     rfl
    ·have HI:Hid (aE 1 2 m 29=aE 1 2 m j):=q7 (by rw[qac,HV.out];exact kQ (by rw[<-HV.out];omega))
     generalize spB 2 v=b at*;generalize qL 1 2 v=q at*;have hd2:decide (q<=m)=false:=by rw[qm];omega
     clear qac
     go_wp2_with(go_at_call 150;(with_reducible refine(HLK.out _).mono ?_);rintro e w4 ⟨rfl,x4,rfl⟩)
     go_roundg j
     case measure=>have:=HV.out;omega
     case rel=>exact⟨j,by rw[HVJ.out],q7 ⟨by have:=HV.out;omega,HI.out⟩,HBL.out.trans ((qu _ x4).mono HBL.out.size),rfl⟩
def q4M(y:Nat×Nat×Nat)(B g:Nat)(vb:Value)(w:World)(e:Ending)(w':World):Prop:=e=.returned (.int .i64 (y.1:Nat))/\∃N L vb',aJ w' B g N L vb'/\(y.1=0->y.2=(N,L))/\Below B w w'/\Fr g vb vb' w w'
theorem q6v{w:World}{B g N L:Nat}{vb:Value}(h:aJ w B g N L vb)(u1 u2:Value)(l1 l2:List Int)(hs1:mC g vb w u1 l1)(hs2:mC g vb w u2 l2)(o:OpN)(ho:pL o)(hL:L<=900000000):
  Calls Tryz.prog 66 #[.pointer (some ⟨g,0,none⟩),u1,u2,.agg #[.int .u8 o.lit,.int .i64 o.len,.int .i64 o.dist]] w (q4M (cOp l1 l2 o (0,N,L)) B g vb w):=by
 obtain⟨hol,hn1,hn2,hd1,hd2⟩:=ho;obtain⟨ol,on,od⟩:=o;simp only at hol hn1 hn2 hd1 hd2;obtain⟨w1,hw1⟩:∃w1,w1=w.alloc (.cells #[.int .u8 (ol:Nat),.int .i64 on,.int .i64 od] 64):=⟨_,rfl⟩;have hb1:Below w.heap.size w w1:=by rw[hw1];exact qn _ _
 have hop:=M5 w ol on od;rw[<-hw1]at hop;have hBw:B<=w.heap.size:=by have:=h.ge;have:=h.box.blk.2;omega
 have HW1:=q7 hw1;have HH:=q7 (h.up hb1);have HF:=q7 ((Fr.refl g vb w).below hb1);have HBL:=q7 (hb1.mono hBw);have HOP:=q7 hop;have p0:w1.cell? ⟨w.heap.size,0,none⟩=some (.int .u8 (ol:Nat)):=hop.cell (by simp[opV])
 have p1:w1.cell? ⟨w.heap.size,1,none⟩=some (.int .i64 on):=hop.cell (by simp[opV])
 have p2:w1.cell? ⟨w.heap.size,2,none⟩=some (.int .i64 od):=hop.cell (by simp[opV])
 have hp:=hop.blk.2;have hB1:B<=w1.heap.size:=by omega
 have HS1:=q7 (hs1.next HF.out)
 have HS2:=q7 (hs2.next HF.out)
 obtain⟨y,hy⟩:∃y,y=cOp l1 l2 ⟨ol,on,od⟩ (0,N,L):=⟨_,rfl⟩;rw[<-hy];have HY:=q7 hy;unfold cOp at HY;simp only at HY;clear hy hw1 hb1 hop h hs1 hs2
 by_cases hn:on=0
 ·rw[if_pos hn]at HY
  subst hn;have HWR:=q7 (nJ u1 l1 (ol:Nat) (HS1.out w1 vb (Fr.refl _ _ _)) HS1.out HH.out (by omega))
  unfold M2 at HWR;unfold gB at HY;rw[if_neg (fun h=>h rfl)]at HY
  simp only[Nat.zero_mul,Nat.add_zero]at HY;generalize hnw:fG l1 (ol:Nat) (N,L)=nl at*;obtain⟨N1,L1⟩:=nl;simp only at HWR HY
  have HE1:Hid (y.1=gK l1 (ol:Nat)/\(y.1=0->y.2=(N1,L1))):=q7 (by
   rw[HY.out]
   by_cases he:gK l1 (ol:Nat)≠0
   ·rw[if_pos he];exact⟨rfl,fun h=>absurd h he⟩
   ·rw[if_neg he];exact⟨by simp only;omega,fun _=>rfl⟩)
  clear HY hnw;generalize gK l1 (ol:Nat)=q at*
  go_enter Tryz.func66,Tryz.ntmps66
  go_upto_region 1 with fail
  rw[<-HW1.out]
  go_wp2_with(go_at_call 67;(with_reducible refine HWR.out.mono ?_);rintro e w2 ⟨rfl,vb2,hq1,hq2,hq3⟩;have HQ1:=q7 hq1;have HQ2:=q7 hq2;have HQ3:=q7 hq3;clear hq1 hq2 hq3)
  go_ret
  exact⟨by rw[HE1.out.1];rfl,N1,L1,vb2,HQ1.out,HE1.out.2,HBL.out.trans HQ2.out,HF.out.trans HQ3.out⟩
 ·rw[if_neg hn]at HY
  have hni:(on==0)=false:=by simpa using hn
  obtain⟨hlb,hlv⟩:=G3 on;obtain⟨hdb,hdv⟩:=G5 od;have HOL:=q7 (q6t on hn1 hn2);have HOD:=q7 (q6u od hd1 hd2);obtain⟨s,hs⟩:∃s,s=aA on:=⟨_,rfl⟩;obtain⟨d,hd⟩:∃d,d=aM od:=⟨_,rfl⟩;rw[<-hs]at hlb hlv HOL HY;rw[<-hd]at hdb hdv HOD HY;clear hs hd hn;obtain⟨ss,sb,sv,se⟩:=s;obtain⟨ds,db,dv,de⟩:=d;simp only at hlb hlv hdb hdv HY;unfold q25 at HOL HOD;simp only at HOL HOD;have HWA:=q7 (fun(W:World) (hb:Below w1.heap.size w1 W)=>nJ u1 l1 ss (HS1.out W vb ((Fr.refl g vb w1).below hb)) (HS1.out.next ((Fr.refl g vb w1).below hb)) (HH.out.up hb) (by omega))
  unfold M2 at HWA;have HLN:=q7 (rJ l1 ss (N,L));simp only at HLN
  by_cases he:gK l1 ss=0
  ·rw[he]at HWA
   have HY2:Hid (y=gB l2 ds db dv (0,(fG l1 ss (N,L)).1+sv*2^(fG l1 ss (N,L)).2,(fG l1 ss (N,L)).2+sb)):=q7 (by
    rw[HY.out]
    congr 1
    unfold gB;rw[if_neg (fun h=>h rfl),if_neg (by omega)])
   clear HY;generalize fG l1 ss (N,L)=nl at*;obtain⟨N1,L1⟩:=nl;simp only at HWA HLN HY2;have hL1:L1<=900000015:=by have:=HLN.out;omega
   unfold gB at HY2;rw[if_neg (fun h=>h rfl)]at HY2
   obtain⟨N2,hN2⟩:∃N2,N2=N1+sv*2^L1:=⟨_,rfl⟩
   have HPA:Hid (∀(W:World) (vbx:Value),aJ W B g N1 L1 vbx->Calls Tryz.prog 109 #[.pointer (some ⟨g,0,none⟩),.int .i64 sv,.int .i64 sb] W fun e w'=>e=.returned (.int .i64 0)/\∃vb',aJ w' B g N2 (L1+sb) vb'/\Below B W w'/\Fr g vbx vb' W w'):=q7 (fun W vbx hv=>by
    rw[hN2];exact q2n hv sv sb hlv (by omega) (by omega))
   rw[<-hN2]at HY2;clear hN2 he HLN;have HWB:=q7 (fun(W:World) (vbx:Value) (hv:aJ W B g N2 (L1+sb) vbx) (hf:Fr g vb vbx w1 W)=>nJ u2 l2 ds (HS2.out W vbx hf) (HS2.out.next hf) hv (by omega))
   unfold M2 at HWB;have qbh:=q7 (rJ l2 ds (N2,L1+sb));simp only at qbh;generalize fG l2 ds (N2,L1+sb)=nl at*;obtain⟨N3,L3⟩:=nl;simp only at HWB HY2 qbh;have HPB:=q7 (fun(W:World) (vbx:Value) (hv:aJ W B g N3 L3 vbx)=>q2n hv dv db hdv (by omega) (by have:=qbh.out;omega))
   have HE1:Hid (y.1=gK l2 ds/\(y.1=0->y.2=(N3+dv*2^L3,L3+db))):=q7 (by
    rw[HY2.out]
    by_cases he:gK l2 ds≠0
    ·rw[if_pos he];exact⟨rfl,fun h=>absurd h he⟩
    ·rw[if_neg he];exact⟨by simp only;omega,fun _=>rfl⟩)
   clear HY2 qbh;generalize gK l2 ds=q at*;generalize N3+dv*2^L3=N4 at*
   go_enter Tryz.func66,Tryz.ntmps66
   go_upto_region 1 with fail
   rw[<-HW1.out]
   go_upto_region 4 with(go_at_call 114;(with_reducible refine(HOL.out _).mono ?_);rintro e w2 ⟨rfl,x2,rfl⟩)
   have HX2:=q7 (qu w1 x2);have p22:(ext w1 x2).cell? ⟨w.heap.size,2,none⟩=some (.int .i64 od):=(HX2.out.cell (p:=⟨w.heap.size,2,none⟩) hp).trans p2;have hp2:w.heap.size<(ext w1 x2).heap.size:=qd hp HX2.out.size;clear p0 p1 p2;generalize ext w1 x2=w2 at*
   go_upto_region 5 with(go_at_call 115;(with_reducible refine(HOD.out _).mono ?_);rintro e w3 ⟨rfl,x3,rfl⟩)
   have HX3:=q7 (HX2.out.trans ((qu w2 x3).mono HX2.out.size));clear p22 hp2 HX2;generalize ext w2 x3=w3 at*;have qd5:=q7 (HWA.out w3 HX3.out);have HFA:=q7 ((Fr.refl g vb w1).below HX3.out);have HBA:=q7 (HBL.out.trans (HX3.out.mono hB1))
   go_wp2_with(first
    |(go_at_call 67;first
     |((with_reducible refine qd5.out.mono ?_);rintro e w4 ⟨rfl,vb4,hq1,hq2,hq3⟩;have HQ1:=q7 hq1;have HB4:=q7 (HBA.out.trans hq2);have HF4:=q7 (HFA.out.trans hq3);clear hq1 hq2 hq3 qd5)
     |((with_reducible refine(HWB.out _ _ HR1.out HF5.out).mono ?_);rintro e w6 ⟨rfl,vb6,hq1,hq2,hq3⟩;have HT1:=q7 hq1;have HB6:=q7 (HB5.out.trans hq2);have HF6:=q7 (HF5.out.trans hq3);clear hq1 hq2 hq3 HWB))
    |(go_at_call 109;first
     |((with_reducible refine(HPA.out _ _ HQ1.out).mono ?_);rintro e w5 ⟨rfl,vb5,hq1,hq2,hq3⟩;have HR1:=q7 hq1;have HB5:=q7 (HB4.out.trans hq2);have HF5:=q7 (HF4.out.trans hq3);clear hq1 hq2 hq3 HPA)
     |((with_reducible refine(HPB.out _ _ HT1.out).mono ?_);rintro e w7 ⟨rfl,vb7,hq1,hq2,hq3⟩;have HU1:=q7 hq1;have HB7:=q7 (HB6.out.trans hq2);have HF7:=q7 (HF6.out.trans hq3);clear hq1 hq2 hq3)))
   go_ret
   exact⟨by rw[HE1.out.1];rfl,N4,L3+db,vb7,HU1.out,HE1.out.2,HB7.out,HF.out.trans HF7.out⟩
  ·have HE:Hid (y=(gK l1 ss,N,L)):=q7 (by
    have e:gB l1 ss sb sv (0,N,L)=(gK l1 ss,N,L):=by
     unfold gB;rw[if_neg (fun h=>h rfl),if_pos he]
    rw[HY.out,e]
    exact cD he)
   rw[kV he]at HWA;clear HY HLN;generalize gK l1 ss=q at*;have hqi:((q:Int) != 0)=true:=by simpa using he
   have HQ0:Hid (y.1=0->y.2=(N,L)):=q7 (fun _=>by rw[HE.out])
   clear he
   go_enter Tryz.func66,Tryz.ntmps66
   go_upto_region 1 with fail
   rw[<-HW1.out]
   go_upto_region 4 with(go_at_call 114;(with_reducible refine(HOL.out _).mono ?_);rintro e w2 ⟨rfl,x2,rfl⟩)
   have HX2:=q7 (qu w1 x2);have p22:(ext w1 x2).cell? ⟨w.heap.size,2,none⟩=some (.int .i64 od):=(HX2.out.cell (p:=⟨w.heap.size,2,none⟩) hp).trans p2;have hp2:w.heap.size<(ext w1 x2).heap.size:=qd hp HX2.out.size;clear p0 p1 p2;generalize ext w1 x2=w2 at*
   go_upto_region 5 with(go_at_call 115;(with_reducible refine(HOD.out _).mono ?_);rintro e w3 ⟨rfl,x3,rfl⟩)
   have HX3:=q7 (HX2.out.trans ((qu w2 x3).mono HX2.out.size));clear p22 hp2 HX2;generalize ext w2 x3=w3 at*;have qd5:=q7 (HWA.out w3 HX3.out);have HFA:=q7 ((Fr.refl g vb w1).below HX3.out);have HBA:=q7 (HBL.out.trans (HX3.out.mono hB1))
   go_wp2_with(go_at_call 67;(with_reducible refine qd5.out.mono ?_);rintro e w4 ⟨rfl,vb4,hq1,hq2,hq3⟩;have HQ1:=q7 hq1;have HB4:=q7 (HBA.out.trans hq2);have HF4:=q7 (HFA.out.trans hq3);clear hq1 hq2 hq3 qd5)
   go_ret
   exact⟨by rw[HE.out];rfl,N,L,vb4,HQ1.out,HQ0.out,HB4.out,HF.out.trans HF4.out⟩
theorem wJ{w:World}{B g N L:Nat}{vb0:Value}(h:aJ w B g N L vb0)(zn:Nat)(hzn:zn<=65535)(o1 o2:Option Addr)(n1 n2 c1 c2:Nat)(hL:L<=100000000):
  Calls Tryz.prog 62 #[.pointer (some ⟨g,0,none⟩),.agg #[.bool false,.int .i64 0,.int .i64 (zn:Nat),.slice o1 n1 c1,.slice o2 n2 c2]] w fun e w'=>e=.returned (.int .i64 0)/\RSt w B g vb0 (jh [(zn,16),(65535-zn,16)] (jo (jh [(0,1),(0,2)] (N,L)))) w':=by
 have hBw:B<=w.heap.size:=by have:=h.ge;have:=h.box.blk.2;omega
 have hgw:=h.box.blk.2;have hvb:∀q,vb0.ownBlock=some q->q<w.heap.size:=fun q hq=>(h.own.lt q hq).2
 obtain⟨w1,hw1⟩:∃w1,w1=w.alloc (.cells #[.bool false,.int .i64 0,.int .i64 (zn:Nat),.slice o1 n1 c1,.slice o2 n2 c2] 124):=⟨_,rfl⟩;have hA:=q2E w false 0 (zn:Nat) o1 o2 n1 n2 c1 c2 124;rw[<-hw1]at hA;have hb1:Below w.heap.size w w1:=by rw[hw1];exact qn _ _
 have HB1:=q7 hb1;have HS1:=q7 (RSt.start (h.up hb1));have HA:=q7 hA;have HW1:=q7 hw1;have HA3:Hid (∀st W,RSt w1 B g vb0 st W->Own W w.heap.size 124 (.slice (some ⟨w.heap.size,0,none⟩) 5 5) [.bool false,.int .i64 0,.int .i64 (zn:Nat),.slice o1 n1 c1,.slice o2 n2 c2]):=q7 (fun st W h=>h.own HA.out (fun e=>by have e2:some w.heap.size=some g:=e;injection e2 with e2;omega) (fun q hq e=>by have e2:some w.heap.size=some q:=hq;injection e2 with e2;have:=hvb q e;omega))
 have HBL:Hid (∀st W,RSt w1 B g vb0 st W->Below B w W):=q7 (fun st W h=>(HB1.out.mono hBw).trans h.bel)
 clear h hw1 hb1 hA HA;have HPK:Hid (∀(W:World) (st:Nat×Nat),RSt w1 B g vb0 st W->st.2+2<=300000000->Calls Tryz.prog 109 #[.pointer (some ⟨g,0,none⟩),.int .i64 0,.int .i64 2] W fun e w'=>e=.returned (.int .i64 0)/\RSt w1 B g vb0 (st.1+0*2^st.2,st.2+2) w'):=q7 (fun W st h hl=>fX h 0 2 (by decide) (by omega) (by omega))
 have HP1:Hid (Calls Tryz.prog 109 #[.pointer (some ⟨g,0,none⟩),.int .i64 0,.int .i64 1] w1 fun e w'=>e=.returned (.int .i64 0)/\RSt w1 B g vb0 (N+0*2^L,L+1) w'):=q7 (fX HS1.out 0 1 (by decide) (by omega) (by simp only;omega))
 have HAL:=q7 (fun(W:World) (st:Nat×Nat) (h:RSt w1 B g vb0 st W) (hl:st.2<=300000000)=>G2 h hl)
 have HP6:=q7 (fun(W:World) (st:Nat×Nat) (v:Nat) (h:RSt w1 B g vb0 st W) (hv:v<2^16) (hl:st.2+16<=2147483648)=>fX h v 16 hv (by omega) hl)
 rw[show((16:Nat):Int)=16 from rfl]at HP6
 have hal:(jo (N+0*2^L+0*2^(L+1),L+1+2)).2<=150000000:=by show qO (L+1+2)<=150000000;unfold qO;omega
 have qaF:65535-zn<2^16:=by omega
 have q9U:zn<2^16:=by omega
 have q9j:(65535:Int)-(zn:Int)=((65535-zn:Nat):Int):=by omega
 obtain⟨zt,hzt⟩:∃zt,zt=65535-zn:=⟨_,rfl⟩;rw[<-hzt]at qaF q9j⊢;have hz1:¬(zn:Int)<0:=by omega
 have hz2:¬(zn:Int)>65535:=by omega
 clear hzt
 go_enter Tryz.func62,Tryz.ntmps62
 go_upto_region 12 with fail
 rw[<-HW1.out];have x1w1:=(HA3.out _ _ HS1.out).cell (i:=1) (by simp)
 have yw1:=(HA3.out _ _ HS1.out).blk.2
 go_upto_region 14 with(go_at_call 109;first|((with_reducible refine HP1.out.mono ?_);rintro e w4 ⟨rfl,hq⟩;(have q9t:=q7 hq;have x1w4:=(HA3.out _ _ hq).cell (i:=1) (by simp);have yw4:=(HA3.out _ _ hq).blk.2;have HP2:=q7 (HPK.out _ _ hq (by simp only;omega));clear hq HP1 x1w1 yw1))|((with_reducible refine HP2.out.mono ?_);rintro e w5 ⟨rfl,hq⟩;(have q9s:=q7 hq;have x1w5:=(HA3.out _ _ hq).cell (i:=1) (by simp);have yw5:=(HA3.out _ _ hq).blk.2;have HA5:=q7 (HAL.out _ _ hq (by simp only;omega));clear hq HP2 x1w4 yw4 q9t)))
 go_upto_region 16 with(go_at_call 110;(with_reducible refine HA5.out.mono ?_);rintro e w6 ⟨rfl,hq⟩;(have qa0:=q7 hq;have x2w6:=(HA3.out _ _ hq).cell (i:=2) (by simp);have yw6:=(HA3.out _ _ hq).blk.2;have HPZ:=q7 (HP6.out _ _ zn hq q9U (by omega));clear hq HA5 x1w5 yw5 q9s))
 go_upto_region 18 with(go_at_call 109;first|((with_reducible refine HPZ.out.mono ?_);rintro e w7 ⟨rfl,hq⟩;(have q9Z:=q7 hq;have x2w7:=(HA3.out _ _ hq).cell (i:=2) (by simp);have yw7:=(HA3.out _ _ hq).blk.2;have HPY:=q7 (HP6.out _ _ zt hq qaF (by simp only;omega));clear hq HPZ x2w6 yw6 qa0))|((with_reducible refine HPY.out.mono ?_);rintro e w8 ⟨rfl,hq⟩;(have qbL:=q7 hq;have x1w8:=(HA3.out _ _ hq).cell (i:=1) (by simp);have yw8:=(HA3.out _ _ hq).blk.2;clear hq HPY x2w7 yw7 q9Z)))
 go_wp2;go_ret
 exact⟨rfl,qbL.out.from1 HB1.out hBw⟩
theorem zF{w:World}{B g N L:Nat}{vb0:Value}(h:aJ w B g N L vb0)(zn:Nat)(hzn:zn<=65535)(o1 o2:Option Addr)(n1 n2 c1 c2:Nat)(hL:L<=100000000):
  Calls Tryz.prog 62 #[.pointer (some ⟨g,0,none⟩),.agg #[.bool true,.int .i64 0,.int .i64 (zn:Nat),.slice o1 n1 c1,.slice o2 n2 c2]] w fun e w'=>e=.returned (.int .i64 0)/\RSt w B g vb0 (jh [(zn,16),(65535-zn,16)] (jo (jh [(1,1),(0,2)] (N,L)))) w':=by
 have hBw:B<=w.heap.size:=by have:=h.ge;have:=h.box.blk.2;omega
 have hgw:=h.box.blk.2;have hvb:∀q,vb0.ownBlock=some q->q<w.heap.size:=fun q hq=>(h.own.lt q hq).2
 obtain⟨w1,hw1⟩:∃w1,w1=w.alloc (.cells #[.bool true,.int .i64 0,.int .i64 (zn:Nat),.slice o1 n1 c1,.slice o2 n2 c2] 124):=⟨_,rfl⟩;have hA:=q2E w true 0 (zn:Nat) o1 o2 n1 n2 c1 c2 124;rw[<-hw1]at hA;have hb1:Below w.heap.size w w1:=by rw[hw1];exact qn _ _
 have HB1:=q7 hb1;have HS1:=q7 (RSt.start (h.up hb1));have HA:=q7 hA;have HW1:=q7 hw1;have HA3:Hid (∀st W,RSt w1 B g vb0 st W->Own W w.heap.size 124 (.slice (some ⟨w.heap.size,0,none⟩) 5 5) [.bool true,.int .i64 0,.int .i64 (zn:Nat),.slice o1 n1 c1,.slice o2 n2 c2]):=q7 (fun st W h=>h.own HA.out (fun e=>by have e2:some w.heap.size=some g:=e;injection e2 with e2;omega) (fun q hq e=>by have e2:some w.heap.size=some q:=hq;injection e2 with e2;have:=hvb q e;omega))
 have HBL:Hid (∀st W,RSt w1 B g vb0 st W->Below B w W):=q7 (fun st W h=>(HB1.out.mono hBw).trans h.bel)
 clear h hw1 hb1 hA HA;have HPK:Hid (∀(W:World) (st:Nat×Nat),RSt w1 B g vb0 st W->st.2+2<=300000000->Calls Tryz.prog 109 #[.pointer (some ⟨g,0,none⟩),.int .i64 0,.int .i64 2] W fun e w'=>e=.returned (.int .i64 0)/\RSt w1 B g vb0 (st.1+0*2^st.2,st.2+2) w'):=q7 (fun W st h hl=>fX h 0 2 (by decide) (by omega) (by omega))
 have HP1:Hid (Calls Tryz.prog 109 #[.pointer (some ⟨g,0,none⟩),.int .i64 1,.int .i64 1] w1 fun e w'=>e=.returned (.int .i64 0)/\RSt w1 B g vb0 (N+1*2^L,L+1) w'):=q7 (fX HS1.out 1 1 (by decide) (by omega) (by simp only;omega))
 have HAL:=q7 (fun(W:World) (st:Nat×Nat) (h:RSt w1 B g vb0 st W) (hl:st.2<=300000000)=>G2 h hl)
 have HP6:=q7 (fun(W:World) (st:Nat×Nat) (v:Nat) (h:RSt w1 B g vb0 st W) (hv:v<2^16) (hl:st.2+16<=2147483648)=>fX h v 16 hv (by omega) hl)
 rw[show((16:Nat):Int)=16 from rfl]at HP6
 have hal:(jo (N+1*2^L+0*2^(L+1),L+1+2)).2<=150000000:=by show qO (L+1+2)<=150000000;unfold qO;omega
 have qaF:65535-zn<2^16:=by omega
 have q9U:zn<2^16:=by omega
 have q9j:(65535:Int)-(zn:Int)=((65535-zn:Nat):Int):=by omega
 obtain⟨zt,hzt⟩:∃zt,zt=65535-zn:=⟨_,rfl⟩;rw[<-hzt]at qaF q9j⊢;have hz1:¬(zn:Int)<0:=by omega
 have hz2:¬(zn:Int)>65535:=by omega
 clear hzt
 go_enter Tryz.func62,Tryz.ntmps62
 go_upto_region 12 with fail
 rw[<-HW1.out];have x1w1:=(HA3.out _ _ HS1.out).cell (i:=1) (by simp)
 have yw1:=(HA3.out _ _ HS1.out).blk.2
 go_upto_region 14 with(go_at_call 109;first|((with_reducible refine HP1.out.mono ?_);rintro e w4 ⟨rfl,hq⟩;(have q9t:=q7 hq;have x1w4:=(HA3.out _ _ hq).cell (i:=1) (by simp);have yw4:=(HA3.out _ _ hq).blk.2;have HP2:=q7 (HPK.out _ _ hq (by simp only;omega));clear hq HP1 x1w1 yw1))|((with_reducible refine HP2.out.mono ?_);rintro e w5 ⟨rfl,hq⟩;(have q9s:=q7 hq;have x1w5:=(HA3.out _ _ hq).cell (i:=1) (by simp);have yw5:=(HA3.out _ _ hq).blk.2;have HA5:=q7 (HAL.out _ _ hq (by simp only;omega));clear hq HP2 x1w4 yw4 q9t)))
 go_upto_region 16 with(go_at_call 110;(with_reducible refine HA5.out.mono ?_);rintro e w6 ⟨rfl,hq⟩;(have qa0:=q7 hq;have x2w6:=(HA3.out _ _ hq).cell (i:=2) (by simp);have yw6:=(HA3.out _ _ hq).blk.2;have HPZ:=q7 (HP6.out _ _ zn hq q9U (by omega));clear hq HA5 x1w5 yw5 q9s))
 go_upto_region 18 with(go_at_call 109;first|((with_reducible refine HPZ.out.mono ?_);rintro e w7 ⟨rfl,hq⟩;(have q9Z:=q7 hq;have x2w7:=(HA3.out _ _ hq).cell (i:=2) (by simp);have yw7:=(HA3.out _ _ hq).blk.2;have HPY:=q7 (HP6.out _ _ zt hq qaF (by simp only;omega));clear hq HPZ x2w6 yw6 qa0))|((with_reducible refine HPY.out.mono ?_);rintro e w8 ⟨rfl,hq⟩;(have qbL:=q7 hq;have x1w8:=(HA3.out _ _ hq).cell (i:=1) (by simp);have yw8:=(HA3.out _ _ hq).blk.2;clear hq HPY x2w7 yw7 q9Z)))
 go_wp2;go_ret
 exact⟨rfl,qbL.out.from1 HB1.out hBw⟩
theorem wK{w:World}{B g N L:Nat}{vb0:Value}(h:aJ w B g N L vb0)(z:Int)(o1 o2:Option Addr)(n1 n2 c1 c2:Nat)(hL:L<=100000000):
  Calls Tryz.prog 62 #[.pointer (some ⟨g,0,none⟩),.agg #[.bool false,.int .i64 1,.int .i64 z,.slice o1 n1 c1,.slice o2 n2 c2]] w fun e w'=>e=.returned (.int .i64 0)/\RSt w B g vb0 (jh [(0,1),(1,2)] (N,L)) w':=by
 have hBw:B<=w.heap.size:=by have:=h.ge;have:=h.box.blk.2;omega
 have hgw:=h.box.blk.2;have hvb:∀q,vb0.ownBlock=some q->q<w.heap.size:=fun q hq=>(h.own.lt q hq).2
 obtain⟨w1,hw1⟩:∃w1,w1=w.alloc (.cells #[.bool false,.int .i64 1,.int .i64 z,.slice o1 n1 c1,.slice o2 n2 c2] 124):=⟨_,rfl⟩;have hA:=q2E w false 1 z o1 o2 n1 n2 c1 c2 124;rw[<-hw1]at hA;have hb1:Below w.heap.size w w1:=by rw[hw1];exact qn _ _
 have HB1:=q7 hb1;have HS1:=q7 (RSt.start (h.up hb1));have HA:=q7 hA;have HW1:=q7 hw1;have HA3:Hid (∀st W,RSt w1 B g vb0 st W->Own W w.heap.size 124 (.slice (some ⟨w.heap.size,0,none⟩) 5 5) [.bool false,.int .i64 1,.int .i64 z,.slice o1 n1 c1,.slice o2 n2 c2]):=q7 (fun st W h=>h.own HA.out (fun e=>by have e2:some w.heap.size=some g:=e;injection e2 with e2;omega) (fun q hq e=>by have e2:some w.heap.size=some q:=hq;injection e2 with e2;have:=hvb q e;omega))
 have HBL:Hid (∀st W,RSt w1 B g vb0 st W->Below B w W):=q7 (fun st W h=>(HB1.out.mono hBw).trans h.bel)
 clear h hw1 hb1 hA HA;have HPK:Hid (∀(W:World) (st:Nat×Nat),RSt w1 B g vb0 st W->st.2+2<=300000000->Calls Tryz.prog 109 #[.pointer (some ⟨g,0,none⟩),.int .i64 1,.int .i64 2] W fun e w'=>e=.returned (.int .i64 0)/\RSt w1 B g vb0 (st.1+1*2^st.2,st.2+2) w'):=q7 (fun W st h hl=>fX h 1 2 (by decide) (by omega) (by omega))
 have HP1:Hid (Calls Tryz.prog 109 #[.pointer (some ⟨g,0,none⟩),.int .i64 0,.int .i64 1] w1 fun e w'=>e=.returned (.int .i64 0)/\RSt w1 B g vb0 (N+0*2^L,L+1) w'):=q7 (fX HS1.out 0 1 (by decide) (by omega) (by simp only;omega))
 go_enter Tryz.func62,Tryz.ntmps62
 go_upto_region 12 with fail
 rw[<-HW1.out];have x1w1:=(HA3.out _ _ HS1.out).cell (i:=1) (by simp)
 have yw1:=(HA3.out _ _ HS1.out).blk.2
 go_wp2_with(go_at_call 109;first|((with_reducible refine HP1.out.mono ?_);rintro e w4 ⟨rfl,hq⟩;(have q9t:=q7 hq;have x1w4:=(HA3.out _ _ hq).cell (i:=1) (by simp);have yw4:=(HA3.out _ _ hq).blk.2;have HP2:=q7 (HPK.out _ _ hq (by simp only;omega));clear hq HP1 x1w1 yw1))|((with_reducible refine HP2.out.mono ?_);rintro e w5 ⟨rfl,hq⟩;(have q9s:=q7 hq;have x1w5:=(HA3.out _ _ hq).cell (i:=1) (by simp);have yw5:=(HA3.out _ _ hq).blk.2;clear hq HP2 x1w4 yw4 q9t)))
 go_ret
 exact⟨rfl,q9s.out.from1 HB1.out hBw⟩
theorem zG{w:World}{B g N L:Nat}{vb0:Value}(h:aJ w B g N L vb0)(z:Int)(o1 o2:Option Addr)(n1 n2 c1 c2:Nat)(hL:L<=100000000):
  Calls Tryz.prog 62 #[.pointer (some ⟨g,0,none⟩),.agg #[.bool true,.int .i64 1,.int .i64 z,.slice o1 n1 c1,.slice o2 n2 c2]] w fun e w'=>e=.returned (.int .i64 0)/\RSt w B g vb0 (jh [(1,1),(1,2)] (N,L)) w':=by
 have hBw:B<=w.heap.size:=by have:=h.ge;have:=h.box.blk.2;omega
 have hgw:=h.box.blk.2;have hvb:∀q,vb0.ownBlock=some q->q<w.heap.size:=fun q hq=>(h.own.lt q hq).2
 obtain⟨w1,hw1⟩:∃w1,w1=w.alloc (.cells #[.bool true,.int .i64 1,.int .i64 z,.slice o1 n1 c1,.slice o2 n2 c2] 124):=⟨_,rfl⟩;have hA:=q2E w true 1 z o1 o2 n1 n2 c1 c2 124;rw[<-hw1]at hA;have hb1:Below w.heap.size w w1:=by rw[hw1];exact qn _ _
 have HB1:=q7 hb1;have HS1:=q7 (RSt.start (h.up hb1));have HA:=q7 hA;have HW1:=q7 hw1;have HA3:Hid (∀st W,RSt w1 B g vb0 st W->Own W w.heap.size 124 (.slice (some ⟨w.heap.size,0,none⟩) 5 5) [.bool true,.int .i64 1,.int .i64 z,.slice o1 n1 c1,.slice o2 n2 c2]):=q7 (fun st W h=>h.own HA.out (fun e=>by have e2:some w.heap.size=some g:=e;injection e2 with e2;omega) (fun q hq e=>by have e2:some w.heap.size=some q:=hq;injection e2 with e2;have:=hvb q e;omega))
 have HBL:Hid (∀st W,RSt w1 B g vb0 st W->Below B w W):=q7 (fun st W h=>(HB1.out.mono hBw).trans h.bel)
 clear h hw1 hb1 hA HA;have HPK:Hid (∀(W:World) (st:Nat×Nat),RSt w1 B g vb0 st W->st.2+2<=300000000->Calls Tryz.prog 109 #[.pointer (some ⟨g,0,none⟩),.int .i64 1,.int .i64 2] W fun e w'=>e=.returned (.int .i64 0)/\RSt w1 B g vb0 (st.1+1*2^st.2,st.2+2) w'):=q7 (fun W st h hl=>fX h 1 2 (by decide) (by omega) (by omega))
 have HP1:Hid (Calls Tryz.prog 109 #[.pointer (some ⟨g,0,none⟩),.int .i64 1,.int .i64 1] w1 fun e w'=>e=.returned (.int .i64 0)/\RSt w1 B g vb0 (N+1*2^L,L+1) w'):=q7 (fX HS1.out 1 1 (by decide) (by omega) (by simp only;omega))
 go_enter Tryz.func62,Tryz.ntmps62
 go_upto_region 12 with fail
 rw[<-HW1.out];have x1w1:=(HA3.out _ _ HS1.out).cell (i:=1) (by simp)
 have yw1:=(HA3.out _ _ HS1.out).blk.2
 go_wp2_with(go_at_call 109;first|((with_reducible refine HP1.out.mono ?_);rintro e w4 ⟨rfl,hq⟩;(have q9t:=q7 hq;have x1w4:=(HA3.out _ _ hq).cell (i:=1) (by simp);have yw4:=(HA3.out _ _ hq).blk.2;have HP2:=q7 (HPK.out _ _ hq (by simp only;omega));clear hq HP1 x1w1 yw1))|((with_reducible refine HP2.out.mono ?_);rintro e w5 ⟨rfl,hq⟩;(have q9s:=q7 hq;have x1w5:=(HA3.out _ _ hq).cell (i:=1) (by simp);have yw5:=(HA3.out _ _ hq).blk.2;clear hq HP2 x1w4 yw4 q9t)))
 go_ret
 exact⟨rfl,q9s.out.from1 HB1.out hBw⟩
theorem wL{w:World}{B g N L:Nat}{vb0:Value}(h:aJ w B g N L vb0)(z:Int)(o1 o2:Option Addr)(n1 n2 c1 c2:Nat)(l1 l2:List Nat)(hu1:∀W,Below B w W->qT W (.slice o1 n1 c1) (nls l1))(hu2:∀W,Below B w W->qT W (.slice o2 n2 c2) (nls l2))
  (he1:n1=l1.length) (he2:n2=l2.length) (hn1:257<=n1) (qcc:n1<=286) (hn2:1<=n2) (qcN:n2<=30) (h1:∀x∈l1,x<=15) (h2:∀x∈l2,x<=15) (hf0:cY l1 l2=0) (hL:L<=100000000):
  Calls Tryz.prog 62 #[.pointer (some ⟨g,0,none⟩),.agg #[.bool false,.int .i64 2,.int .i64 z,.slice o1 n1 c1,.slice o2 n2 c2]] w fun e w'=>e=.returned (.int .i64 0)/\RSt w B g vb0 (jh (pV l1 l2) (jh [(0,1),(2,2)] (N,L))) w':=by
 have hBw:B<=w.heap.size:=by have:=h.ge;have:=h.box.blk.2;omega
 have hgw:=h.box.blk.2;have hvb:∀q,vb0.ownBlock=some q->q<w.heap.size:=fun q hq=>(h.own.lt q hq).2
 obtain⟨w1,hw1⟩:∃w1,w1=w.alloc (.cells #[.bool false,.int .i64 2,.int .i64 z,.slice o1 n1 c1,.slice o2 n2 c2] 124):=⟨_,rfl⟩;have hA:=q2E w false 2 z o1 o2 n1 n2 c1 c2 124;rw[<-hw1]at hA;have hb1:Below w.heap.size w w1:=by rw[hw1];exact qn _ _
 have HB1:=q7 hb1;have HS1:=q7 (RSt.start (h.up hb1));have HA:=q7 hA;have HW1:=q7 hw1;have HA3:Hid (∀st W,RSt w1 B g vb0 st W->Own W w.heap.size 124 (.slice (some ⟨w.heap.size,0,none⟩) 5 5) [.bool false,.int .i64 2,.int .i64 z,.slice o1 n1 c1,.slice o2 n2 c2]):=q7 (fun st W h=>h.own HA.out (fun e=>by have e2:some w.heap.size=some g:=e;injection e2 with e2;omega) (fun q hq e=>by have e2:some w.heap.size=some q:=hq;injection e2 with e2;have:=hvb q e;omega))
 have HBL:Hid (∀st W,RSt w1 B g vb0 st W->Below B w W):=q7 (fun st W h=>(HB1.out.mono hBw).trans h.bel)
 clear h hw1 hb1 hA HA;have HPK:Hid (∀(W:World) (st:Nat×Nat),RSt w1 B g vb0 st W->st.2+2<=300000000->Calls Tryz.prog 109 #[.pointer (some ⟨g,0,none⟩),.int .i64 2,.int .i64 2] W fun e w'=>e=.returned (.int .i64 0)/\RSt w1 B g vb0 (st.1+2*2^st.2,st.2+2) w'):=q7 (fun W st h hl=>fX h 2 2 (by decide) (by omega) (by omega))
 have HU1:=q7 hu1;have HU2:=q7 hu2;have qcC:=q7 (fun j (hj:j<l1.length)=>h1 _ (jT l1 j 0 hj))
 have qcB:=q7 (fun j (hj:j<l2.length)=>h2 _ (jT l2 j 0 hj))
 have HFC:Hid (Calls Tryz.prog 108 #[.slice o1 n1 c1,.slice o2 n2 c2] w1 fun e w'=>e=.returned (.int .i64 0)/\Below w1.heap.size w1 w'):=q7 ((q0u _ _ l1 l2 w1 (hu1 _ (HBL.out _ _ HS1.out)) (hu2 _ (HBL.out _ _ HS1.out)) (by omega)).mono fun e w' ⟨he,hb⟩=>⟨by rw[he,hf0];rfl,hb⟩)
 have HN1:=q7 he1.symm;have HN2:=q7 he2.symm;have HPX:=q7 (fun(W:World) (st:Nat×Nat) (v n:Nat) (h:RSt w1 B g vb0 st W) (hv:v<2^n) (hn:n<=32) (hl:st.2+n<=2147483648)=>fX h v n hv hn hl)
 have hs1:(n1:Int)-257=((n1-257:Nat):Int):=by omega
 have hs2:(n2:Int)-1=((n2-1:Nat):Int):=by omega
 have hp5:n1-257<2^5:=by omega
 have qbw:n2-1<2^5:=by omega
 have i1:¬(n1:Int)<257:=by omega
 have i2:¬(n1:Int)>286:=by omega
 have i3:¬(n2:Int)<1:=by omega
 have i4:¬(n2:Int)>30:=by omega
 obtain⟨D,hD⟩:∃D,D=jh (pV l1 l2) (jh [(0,1),(2,2)] (N,L)):=⟨_,rfl⟩;rw[<-hD];unfold pV at hD;rw[jM,jM,jM,<-he1,<-he2]at hD;have HD:=q7 hD;clear hD hu1 hu2 h1 h2 he1 he2 hf0;obtain⟨m1,hm1⟩:∃m,m=n1-257:=⟨_,rfl⟩;obtain⟨m2,hm2⟩:∃m,m=n2-1:=⟨_,rfl⟩;rw[<-hm1]at hs1 hp5;rw[<-hm2]at hs2 qbw;have HM1:=q7 hm1.symm;have HM2:=q7 hm2.symm;clear hm1 hm2
 go_enter Tryz.func62,Tryz.ntmps62
 go_upto_region 12 with(go_at_call 108;rw[<-HW1.out];(with_reducible refine HFC.out.mono ?_);rintro e w2 ⟨rfl,hb2⟩;(have HS2:=q7 (HS1.out.up hb2 (qa hBw HB1.out.size));have x0w2:=(HA3.out _ _ HS2.out).cell (i:=0) (by simp);have x1w2:=(HA3.out _ _ HS2.out).cell (i:=1) (by simp);have yw2:=(HA3.out _ _ HS2.out).blk.2;clear hb2))
 have HP1:Hid (Calls Tryz.prog 109 #[.pointer (some ⟨g,0,none⟩),.int .i64 0,.int .i64 1] w2 fun e w'=>e=.returned (.int .i64 0)/\RSt w1 B g vb0 (N+0*2^L,L+1) w'):=q7 (fX HS2.out 0 1 (by decide) (by omega) (by simp only;omega))
 go_upto_region 22 with(go_at_call 109;first|((with_reducible refine HP1.out.mono ?_);rintro e w4 ⟨rfl,hq⟩;(have q9t:=q7 hq;have x1w4:=(HA3.out _ _ hq).cell (i:=1) (by simp);have yw4:=(HA3.out _ _ hq).blk.2;have HP2:=q7 (HPK.out _ _ hq (by simp only;omega));clear hq HP1 x1w2 x0w2 yw2))|((with_reducible refine HP2.out.mono ?_);rintro e w5 ⟨rfl,hq⟩;(have q9s:=q7 hq;have x1w5:=(HA3.out _ _ hq).cell (i:=1) (by simp);have x3w5:=(HA3.out _ _ hq).cell (i:=3) (by simp);have yw5:=(HA3.out _ _ hq).blk.2;have HP3:=q7 (HPX.out _ _ m1 5 hq hp5 (by omega) (by simp only;omega));rw[show((5:Nat):Int)=5 from rfl]at HP3;clear hq HP2 x1w4 yw4 q9t))|((with_reducible refine HP3.out.mono ?_);rintro e w6 ⟨rfl,hq⟩;(have qa0:=q7 hq;have x4w6:=(HA3.out _ _ hq).cell (i:=4) (by simp);have yw6:=(HA3.out _ _ hq).blk.2;have HP4:=q7 (HPX.out _ _ m2 5 hq qbw (by omega) (by simp only;omega));rw[show((5:Nat):Int)=5 from rfl]at HP4;clear hq HP3 x1w5 x3w5 yw5 q9s))|((with_reducible refine HP4.out.mono ?_);rintro e w7 ⟨rfl,hq⟩;(have q9Z:=q7 hq;have yw7:=(HA3.out _ _ hq).blk.2;have HP5:=q7 (HPX.out _ _ 15 4 hq (by decide) (by omega) (by simp only;omega));rw[show((4:Nat):Int)=4 from rfl,show((15:Nat):Int)=15 from rfl]at HP5;clear hq HP4 x4w6 yw6 qa0)))
 obtain⟨st3,qaa⟩:∃st,st=jh (M8 n1 n2) (jh [(0,1),(2,2)] (N,L)):=⟨_,rfl⟩;have HS3:=q7 qaa;rw[<-qaa]at HD;have HL3:Hid (st3.2=L+17):=q7 (by rw[qaa,jR,jR];rfl)
 clear qaa
 go_upto_region 23 with(go_at_call 109;(with_reducible refine HP5.out.mono ?_);rintro e w8 ⟨rfl,hq⟩;(have HS8:Hid (RSt w1 B g vb0 st3 w8):=q7 (by rw[HS3.out];unfold M8;rw[HM1.out,HM2.out];exact hq);clear hq HP5 q9Z yw7))
 obtain⟨vb8,hv8,hb8,hf8⟩:=HS8.out;have hg8:=hv8.box.blk.2;have qek:∀q,vb8.ownBlock=some q->q<w8.heap.size:=fun q hq=>(hv8.own.lt q hq).2
 have qeI:∀q,vb8.ownBlock=some q->q≠w.heap.size:=fun q hq e=>by
  rcases hf8.2.1 q hq with z|z
  ·have:=hvb q z;omega
  ·have:=(HA3.out _ _ HS1.out).blk.2;omega
 have hhb:=(HA3.out _ _ HS8.out);have qaZ:Hid (Below B w w8/\Fr g vb0 vb8 w w8):=q7 ⟨(HB1.out.mono hBw).trans hb8,((Fr.refl g vb0 w).below HB1.out).trans hf8⟩;have hB8:B<=w8.heap.size:=qa hBw qaZ.out.1.size;have HV8:=q7 hv8;clear hv8 hb8 hf8 HS8
 go_upto_region 24 with(go_at_call 111;(with_reducible refine(q7D _).mono ?_);rintro e w9 ⟨vo,rfl,ho9,hb9⟩;(have HOO:=q7 ho9;have HS9:=q7 (RSt.start (HV8.out.up hb9));have HH9:=q7 (hhb.up hb9);have HFR:Hid (Below B w w9/\Fr g vb0 vb8 w w9):=q7 ⟨qaZ.out.1.trans (hb9.mono hB8),qaZ.out.2.below hb9⟩;clear ho9 hb9))
 have hol:(ints (nls eZ)).length=19:=rfl;obtain⟨oo,co,go,hvo,hdo,-⟩:=HOO.out.cases;rw[hol]at hvo hdo;obtain rfl:=hdo.hat (by omega)
 subst hvo;have HGO:Hid (∀j,j<19->(ints (nls eZ)).getD j undef=.int .i64 (eZ.getD j 0:Nat)):=q7 (fun j hj=>by have hl:j<eZ.length:=hj;simp[ints,nls,List.getD,hl])
 have qaW:=q7 (fun(W:World) (j:Nat) (hj:j<19)=>qQ (P:=Tryz.prog) 66 3 Tryz.underlying66 (by kernel_rfl) hdo W .i64 (j:Int) (by omega) (by omega))
 have qeJ:=(HOO.out.lt go rfl).1;have HO3:Hid (∀st W,RSt w9 B g vb8 st W->Own W w8.heap.size 3 (.slice (some ⟨go,0,none⟩) 19 co) (ints (nls eZ))):=q7 (fun st W h=>h.own HOO.out (fun e=>by have e2:some go=some g:=e;injection e2 with e2;omega) (fun q hq e=>by have e2:some go=some q:=hq;injection e2 with e2;have:=qek q e;omega))
 have HH3:Hid (∀st W,RSt w9 B g vb8 st W->Own W w.heap.size 124 (.slice (some ⟨w.heap.size,0,none⟩) 5 5) [.bool false,.int .i64 2,.int .i64 z,.slice o1 n1 c1,.slice o2 n2 c2]):=q7 (fun st W h=>h.own HH9.out (fun e=>by have e2:some w.heap.size=some g:=e;injection e2 with e2;omega) (fun q hq e=>by have e2:some w.heap.size=some q:=hq;injection e2 with e2;exact qeI q e e2.symm))
 have HBW:Hid (∀st W,RSt w9 B g vb8 st W->Below B w W):=q7 (fun st W h=>HFR.out.1.trans h.bel)
 clear hol hdo hhb HPX HPK HA3 HBL HOO HH9 HV8 qaZ;go_wp2
 go_loopg [8] 20 (fun gk i wr=>∃j,j<=19/\i=.int .i64 (j:Nat)/\RSt w9 B g vb8 (jh (aY.take j) st3) wr/\gk=20-j)
 case atStart=>exact⟨0,qc _,rfl,HS9.out,rfl⟩
 case round=>
  clear HS9;obtain⟨j,hj,rfl,hs,hgk⟩:=hrel;have HSW:=q7 hs;clear hs
  by_cases hlt:j<19
  ·have hji:(j:Int)<19:=by omega
   have hoo:=HO3.out _ _ HSW.out;have hcell:=hoo.cell (i:=j) hlt;rw[HGO.out j hlt]at hcell;have qjr:=hoo.blk.2;have hix:=fun W=>qaW.out W j hlt
   simp only[Nat.zero_add,Int.toNat_natCast]at hix;have hy:=sL j;have HTK:Hid (jh (aY.take (j+1)) st3=((jh (aY.take j) st3).1+(if eZ.getD j 0<16 then 4 else 0)*2^(jh (aY.take j) st3).2,(jh (aY.take j) st3).2+3)):=q7 (by rw[sK j hlt,cT])
   have hlen:(jh (aY.take j) st3).2<=300000000:=by
    have:=kX j st3;have:=HL3.out;omega
   clear hoo;generalize eZ.getD j 0=y at*
   by_cases qa8:y<16
   ·have hyi:(y:Int)<16:=by omega
    have HPY:=q7 (fX HSW.out 4 3 (by decide) (by omega) (by omega))
    rw[show((4:Nat):Int)=4 from rfl,show((3:Nat):Int)=3 from rfl]at HPY
    have q9o:Hid (jh (aY.take (j+1)) st3=((jh (aY.take j) st3).1+4*2^(jh (aY.take j) st3).2,(jh (aY.take j) st3).2+3)):=q7 (by rw[HTK.out,if_pos qa8])
    clear qa8 HTK
    go_wp2_with(go_at_call 109;(with_reducible refine HPY.out.mono ?_);rintro e w10 ⟨rfl,hq⟩;have HQ:=q7 hq;clear hq)
    go_roundg (20-(j+1))
    case measure=>omega
    case rel=>exact⟨j+1,by omega,by go_num,by rw[q9o.out];exact HQ.out,rfl⟩
   ·have hyi:¬(y:Int)<16:=by omega
    have HPY:=q7 (fX HSW.out 0 3 (by decide) (by omega) (by omega))
    rw[show((0:Nat):Int)=0 from rfl,show((3:Nat):Int)=3 from rfl]at HPY
    have q9o:Hid (jh (aY.take (j+1)) st3=((jh (aY.take j) st3).1+0*2^(jh (aY.take j) st3).2,(jh (aY.take j) st3).2+3)):=q7 (by rw[HTK.out,if_neg qa8])
    clear qa8 HTK
    go_wp2_with(go_at_call 109;(with_reducible refine HPY.out.mono ?_);rintro e w10 ⟨rfl,hq⟩;have HQ:=q7 hq;clear hq)
    go_roundg (20-(j+1))
    case measure=>omega
    case rel=>exact⟨j+1,by omega,by go_num,by rw[q9o.out];exact HQ.out,rfl⟩
  ·obtain rfl:j=19:=by omega
   have qav:Hid (jh (aY.take 19) st3=jh aY st3):=q7 (by rw[List.take_of_length_le (by decide)])
   have hl4:(jh aY st3).2<=200000071:=by
    have h1:=kX 19 st3;rw[qav.out]at h1;have:=HL3.out;omega
   rw[qav.out]at HSW;obtain⟨st4,qb0⟩:∃st,st=jh aY st3:=⟨_,rfl⟩;rw[<-qb0]at HD HSW hl4;clear qb0 qav hlt HO3 qaW HGO;go_wp2
   go_loopg [9] (n1+1) (fun gq i W=>∃q,q<=n1/\i=.int .i64 (q:Nat)/\RSt w9 B g vb8 (jh (aV (l1.take q)) st4) W/\gq=n1+1-q)
   case atStart=>exact⟨0,qc _,rfl,by simpa[aV,jh]using HSW.out,rfl⟩
   case round=>
    clear HSW;obtain⟨q,hq,rfl,hs2,hgq⟩:=hrel;have HSQ:=q7 hs2;clear hs2;have xq:=(HH3.out _ _ HSQ.out).cell (i:=3) (by simp)
    have yq:=(HH3.out _ _ HSQ.out).blk.2
    by_cases hlq:q<n1
    ·have hqi:(q:Int)<(n1:Int):=by omega
     have hql:q<l1.length:=by have:=HN1.out;omega
     obtain⟨oa',cap',b',off',hv',hd',hc'⟩:=(HU1.out _ (HBW.out _ _ HSQ.out)).open;rw[qB,HN1.out]at hv' hd';rw[qB]at hc';injection hv' with q1 q2 q3
     subst q1 q3;have q9a:=qQ (P:=Tryz.prog) 66 3 Tryz.underlying66 (by kernel_rfl) hd'
     have hbb:=hd'.hblk (by omega)
     have hx:=hc' q hql;rw[jb]at hx;have qae:=qcC.out q hql;have HCK:Hid (jh (aV (l1.take (q+1))) st4=((jh (aV (l1.take q)) st4).1+jj (l1.getD q 0) 4*2^(jh (aV (l1.take q)) st4).2,(jh (aV (l1.take q)) st4).2+4)):=q7 (by rw[kE l1 q hql,cT])
     have hlen:(jh (aV (l1.take q)) st4).2<=500000000:=by rw[dS,List.length_take];omega
     have qa9:l1.getD q 0<2^4:=by omega
     have HPC:=q7 (N6 HSQ.out (l1.getD q 0) 4 qa9 (by omega) (by omega))
     rw[show((4:Nat):Int)=4 from rfl]at HPC
     have hm':=hd'.len;clear hc' hd' qa9;generalize l1.getD q 0=y at*
     go_wp2_with(go_at_call 112;(with_reducible refine HPC.out.mono ?_);rintro e w10 ⟨rfl,hqq⟩;have HQ:=q7 hqq;clear hqq)
     go_roundg (n1+1-(q+1))
     case measure=>omega
     case rel=>exact⟨q+1,by omega,by go_num,by rw[HCK.out];exact HQ.out,rfl⟩
    ·obtain rfl:q=n1:=by omega
     have HF:Hid (jh (aV (l1.take q)) st4=jh (aV l1) st4):=q7 (by rw[List.take_of_length_le (by have:=HN1.out;omega)])
     have hl5:(jh (aV l1) st4).2<=300000000:=by have:=HN1.out;rw[dS];omega
     rw[HF.out]at HSQ;obtain⟨st5,qcG⟩:∃st,st=jh (aV l1) st4:=⟨_,rfl⟩;rw[<-qcG]at HD HSQ hl5;have HSW:=HSQ;clear hlq qcG HF HSQ;go_wp2
     go_loopg [10] (n2+1) (fun gq i W=>∃q,q<=n2/\i=.int .i64 (q:Nat)/\RSt w9 B g vb8 (jh (aV (l2.take q)) st5) W/\gq=n2+1-q)
     case atStart=>exact⟨0,qc _,rfl,by simpa[aV,jh]using HSW.out,rfl⟩
     case round=>
      clear HSW;obtain⟨q,hq,rfl,hs2,hgq⟩:=hrel;have HSQ:=q7 hs2;clear hs2;have xq:=(HH3.out _ _ HSQ.out).cell (i:=4) (by simp)
      have yq:=(HH3.out _ _ HSQ.out).blk.2
      by_cases hlq:q<n2
      ·have hqi:(q:Int)<(n2:Int):=by omega
       have hql:q<l2.length:=by have:=HN2.out;omega
       obtain⟨oa',cap',b',off',hv',hd',hc'⟩:=(HU2.out _ (HBW.out _ _ HSQ.out)).open;rw[qB,HN2.out]at hv' hd';rw[qB]at hc';injection hv' with q1 q2 q3
       subst q1 q3;have q9a:=qQ (P:=Tryz.prog) 66 3 Tryz.underlying66 (by kernel_rfl) hd'
       have hbb:=hd'.hblk (by omega)
       have hx:=hc' q hql;rw[jb]at hx;have qae:=qcB.out q hql;have HCK:Hid (jh (aV (l2.take (q+1))) st5=((jh (aV (l2.take q)) st5).1+jj (l2.getD q 0) 4*2^(jh (aV (l2.take q)) st5).2,(jh (aV (l2.take q)) st5).2+4)):=q7 (by rw[kE l2 q hql,cT])
       have hlen:(jh (aV (l2.take q)) st5).2<=500000000:=by rw[dS,List.length_take];omega
       have qa9:l2.getD q 0<2^4:=by omega
       have HPC:=q7 (N6 HSQ.out (l2.getD q 0) 4 qa9 (by omega) (by omega))
       rw[show((4:Nat):Int)=4 from rfl]at HPC
       have hm':=hd'.len;clear hc' hd' qa9;generalize l2.getD q 0=y at*
       go_wp2_with(go_at_call 112;(with_reducible refine HPC.out.mono ?_);rintro e w10 ⟨rfl,hqq⟩;have HQ:=q7 hqq;clear hqq)
       go_roundg (n2+1-(q+1))
       case measure=>omega
       case rel=>exact⟨q+1,by omega,by go_num,by rw[HCK.out];exact HQ.out,rfl⟩
      ·obtain rfl:q=n2:=by omega
       have HF:Hid (jh (aV (l2.take q)) st5=jh (aV l2) st5):=q7 (by rw[List.take_of_length_le (by have:=HN2.out;omega)])
       rw[HF.out]at HSQ;clear hlq HF;go_wp2;go_ret;rw[HD.out];obtain⟨vb,h1,h2,h3⟩:=HSQ.out
       exact⟨rfl,vb,h1,HFR.out.1.trans h2,HFR.out.2.trans h3⟩
theorem zI{w:World}{B g N L:Nat}{vb0:Value}(h:aJ w B g N L vb0)(z:Int)(o1 o2:Option Addr)(n1 n2 c1 c2:Nat)(l1 l2:List Nat)(hu1:∀W,Below B w W->qT W (.slice o1 n1 c1) (nls l1))(hu2:∀W,Below B w W->qT W (.slice o2 n2 c2) (nls l2))
  (he1:n1=l1.length) (he2:n2=l2.length) (hn1:257<=n1) (qcc:n1<=286) (hn2:1<=n2) (qcN:n2<=30) (h1:∀x∈l1,x<=15) (h2:∀x∈l2,x<=15) (hf0:cY l1 l2=0) (hL:L<=100000000):
  Calls Tryz.prog 62 #[.pointer (some ⟨g,0,none⟩),.agg #[.bool true,.int .i64 2,.int .i64 z,.slice o1 n1 c1,.slice o2 n2 c2]] w fun e w'=>e=.returned (.int .i64 0)/\RSt w B g vb0 (jh (pV l1 l2) (jh [(1,1),(2,2)] (N,L))) w':=by
 have hBw:B<=w.heap.size:=by have:=h.ge;have:=h.box.blk.2;omega
 have hgw:=h.box.blk.2;have hvb:∀q,vb0.ownBlock=some q->q<w.heap.size:=fun q hq=>(h.own.lt q hq).2
 obtain⟨w1,hw1⟩:∃w1,w1=w.alloc (.cells #[.bool true,.int .i64 2,.int .i64 z,.slice o1 n1 c1,.slice o2 n2 c2] 124):=⟨_,rfl⟩;have hA:=q2E w true 2 z o1 o2 n1 n2 c1 c2 124;rw[<-hw1]at hA;have hb1:Below w.heap.size w w1:=by rw[hw1];exact qn _ _
 have HB1:=q7 hb1;have HS1:=q7 (RSt.start (h.up hb1));have HA:=q7 hA;have HW1:=q7 hw1;have HA3:Hid (∀st W,RSt w1 B g vb0 st W->Own W w.heap.size 124 (.slice (some ⟨w.heap.size,0,none⟩) 5 5) [.bool true,.int .i64 2,.int .i64 z,.slice o1 n1 c1,.slice o2 n2 c2]):=q7 (fun st W h=>h.own HA.out (fun e=>by have e2:some w.heap.size=some g:=e;injection e2 with e2;omega) (fun q hq e=>by have e2:some w.heap.size=some q:=hq;injection e2 with e2;have:=hvb q e;omega))
 have HBL:Hid (∀st W,RSt w1 B g vb0 st W->Below B w W):=q7 (fun st W h=>(HB1.out.mono hBw).trans h.bel)
 clear h hw1 hb1 hA HA;have HPK:Hid (∀(W:World) (st:Nat×Nat),RSt w1 B g vb0 st W->st.2+2<=300000000->Calls Tryz.prog 109 #[.pointer (some ⟨g,0,none⟩),.int .i64 2,.int .i64 2] W fun e w'=>e=.returned (.int .i64 0)/\RSt w1 B g vb0 (st.1+2*2^st.2,st.2+2) w'):=q7 (fun W st h hl=>fX h 2 2 (by decide) (by omega) (by omega))
 have HU1:=q7 hu1;have HU2:=q7 hu2;have qcC:=q7 (fun j (hj:j<l1.length)=>h1 _ (jT l1 j 0 hj))
 have qcB:=q7 (fun j (hj:j<l2.length)=>h2 _ (jT l2 j 0 hj))
 have HFC:Hid (Calls Tryz.prog 108 #[.slice o1 n1 c1,.slice o2 n2 c2] w1 fun e w'=>e=.returned (.int .i64 0)/\Below w1.heap.size w1 w'):=q7 ((q0u _ _ l1 l2 w1 (hu1 _ (HBL.out _ _ HS1.out)) (hu2 _ (HBL.out _ _ HS1.out)) (by omega)).mono fun e w' ⟨he,hb⟩=>⟨by rw[he,hf0];rfl,hb⟩)
 have HN1:=q7 he1.symm;have HN2:=q7 he2.symm;have HPX:=q7 (fun(W:World) (st:Nat×Nat) (v n:Nat) (h:RSt w1 B g vb0 st W) (hv:v<2^n) (hn:n<=32) (hl:st.2+n<=2147483648)=>fX h v n hv hn hl)
 have hs1:(n1:Int)-257=((n1-257:Nat):Int):=by omega
 have hs2:(n2:Int)-1=((n2-1:Nat):Int):=by omega
 have hp5:n1-257<2^5:=by omega
 have qbw:n2-1<2^5:=by omega
 have i1:¬(n1:Int)<257:=by omega
 have i2:¬(n1:Int)>286:=by omega
 have i3:¬(n2:Int)<1:=by omega
 have i4:¬(n2:Int)>30:=by omega
 obtain⟨D,hD⟩:∃D,D=jh (pV l1 l2) (jh [(1,1),(2,2)] (N,L)):=⟨_,rfl⟩;rw[<-hD];unfold pV at hD;rw[jM,jM,jM,<-he1,<-he2]at hD;have HD:=q7 hD;clear hD hu1 hu2 h1 h2 he1 he2 hf0;obtain⟨m1,hm1⟩:∃m,m=n1-257:=⟨_,rfl⟩;obtain⟨m2,hm2⟩:∃m,m=n2-1:=⟨_,rfl⟩;rw[<-hm1]at hs1 hp5;rw[<-hm2]at hs2 qbw;have HM1:=q7 hm1.symm;have HM2:=q7 hm2.symm;clear hm1 hm2
 go_enter Tryz.func62,Tryz.ntmps62
 go_upto_region 12 with(go_at_call 108;rw[<-HW1.out];(with_reducible refine HFC.out.mono ?_);rintro e w2 ⟨rfl,hb2⟩;(have HS2:=q7 (HS1.out.up hb2 (qa hBw HB1.out.size));have x0w2:=(HA3.out _ _ HS2.out).cell (i:=0) (by simp);have x1w2:=(HA3.out _ _ HS2.out).cell (i:=1) (by simp);have yw2:=(HA3.out _ _ HS2.out).blk.2;clear hb2))
 have HP1:Hid (Calls Tryz.prog 109 #[.pointer (some ⟨g,0,none⟩),.int .i64 1,.int .i64 1] w2 fun e w'=>e=.returned (.int .i64 0)/\RSt w1 B g vb0 (N+1*2^L,L+1) w'):=q7 (fX HS2.out 1 1 (by decide) (by omega) (by simp only;omega))
 go_upto_region 22 with(go_at_call 109;first|((with_reducible refine HP1.out.mono ?_);rintro e w4 ⟨rfl,hq⟩;(have q9t:=q7 hq;have x1w4:=(HA3.out _ _ hq).cell (i:=1) (by simp);have yw4:=(HA3.out _ _ hq).blk.2;have HP2:=q7 (HPK.out _ _ hq (by simp only;omega));clear hq HP1 x1w2 x0w2 yw2))|((with_reducible refine HP2.out.mono ?_);rintro e w5 ⟨rfl,hq⟩;(have q9s:=q7 hq;have x1w5:=(HA3.out _ _ hq).cell (i:=1) (by simp);have x3w5:=(HA3.out _ _ hq).cell (i:=3) (by simp);have yw5:=(HA3.out _ _ hq).blk.2;have HP3:=q7 (HPX.out _ _ m1 5 hq hp5 (by omega) (by simp only;omega));rw[show((5:Nat):Int)=5 from rfl]at HP3;clear hq HP2 x1w4 yw4 q9t))|((with_reducible refine HP3.out.mono ?_);rintro e w6 ⟨rfl,hq⟩;(have qa0:=q7 hq;have x4w6:=(HA3.out _ _ hq).cell (i:=4) (by simp);have yw6:=(HA3.out _ _ hq).blk.2;have HP4:=q7 (HPX.out _ _ m2 5 hq qbw (by omega) (by simp only;omega));rw[show((5:Nat):Int)=5 from rfl]at HP4;clear hq HP3 x1w5 x3w5 yw5 q9s))|((with_reducible refine HP4.out.mono ?_);rintro e w7 ⟨rfl,hq⟩;(have q9Z:=q7 hq;have yw7:=(HA3.out _ _ hq).blk.2;have HP5:=q7 (HPX.out _ _ 15 4 hq (by decide) (by omega) (by simp only;omega));rw[show((4:Nat):Int)=4 from rfl,show((15:Nat):Int)=15 from rfl]at HP5;clear hq HP4 x4w6 yw6 qa0)))
 obtain⟨st3,qaa⟩:∃st,st=jh (M8 n1 n2) (jh [(1,1),(2,2)] (N,L)):=⟨_,rfl⟩;have HS3:=q7 qaa;rw[<-qaa]at HD;have HL3:Hid (st3.2=L+17):=q7 (by rw[qaa,jR,jR];rfl)
 clear qaa
 go_upto_region 23 with(go_at_call 109;(with_reducible refine HP5.out.mono ?_);rintro e w8 ⟨rfl,hq⟩;(have HS8:Hid (RSt w1 B g vb0 st3 w8):=q7 (by rw[HS3.out];unfold M8;rw[HM1.out,HM2.out];exact hq);clear hq HP5 q9Z yw7))
 obtain⟨vb8,hv8,hb8,hf8⟩:=HS8.out;have hg8:=hv8.box.blk.2;have qek:∀q,vb8.ownBlock=some q->q<w8.heap.size:=fun q hq=>(hv8.own.lt q hq).2
 have qeI:∀q,vb8.ownBlock=some q->q≠w.heap.size:=fun q hq e=>by
  rcases hf8.2.1 q hq with z|z
  ·have:=hvb q z;omega
  ·have:=(HA3.out _ _ HS1.out).blk.2;omega
 have hhb:=(HA3.out _ _ HS8.out);have qaZ:Hid (Below B w w8/\Fr g vb0 vb8 w w8):=q7 ⟨(HB1.out.mono hBw).trans hb8,((Fr.refl g vb0 w).below HB1.out).trans hf8⟩;have hB8:B<=w8.heap.size:=qa hBw qaZ.out.1.size;have HV8:=q7 hv8;clear hv8 hb8 hf8 HS8
 go_upto_region 24 with(go_at_call 111;(with_reducible refine(q7D _).mono ?_);rintro e w9 ⟨vo,rfl,ho9,hb9⟩;(have HOO:=q7 ho9;have HS9:=q7 (RSt.start (HV8.out.up hb9));have HH9:=q7 (hhb.up hb9);have HFR:Hid (Below B w w9/\Fr g vb0 vb8 w w9):=q7 ⟨qaZ.out.1.trans (hb9.mono hB8),qaZ.out.2.below hb9⟩;clear ho9 hb9))
 have hol:(ints (nls eZ)).length=19:=rfl;obtain⟨oo,co,go,hvo,hdo,-⟩:=HOO.out.cases;rw[hol]at hvo hdo;obtain rfl:=hdo.hat (by omega)
 subst hvo;have HGO:Hid (∀j,j<19->(ints (nls eZ)).getD j undef=.int .i64 (eZ.getD j 0:Nat)):=q7 (fun j hj=>by have hl:j<eZ.length:=hj;simp[ints,nls,List.getD,hl])
 have qaW:=q7 (fun(W:World) (j:Nat) (hj:j<19)=>qQ (P:=Tryz.prog) 66 3 Tryz.underlying66 (by kernel_rfl) hdo W .i64 (j:Int) (by omega) (by omega))
 have qeJ:=(HOO.out.lt go rfl).1;have HO3:Hid (∀st W,RSt w9 B g vb8 st W->Own W w8.heap.size 3 (.slice (some ⟨go,0,none⟩) 19 co) (ints (nls eZ))):=q7 (fun st W h=>h.own HOO.out (fun e=>by have e2:some go=some g:=e;injection e2 with e2;omega) (fun q hq e=>by have e2:some go=some q:=hq;injection e2 with e2;have:=qek q e;omega))
 have HH3:Hid (∀st W,RSt w9 B g vb8 st W->Own W w.heap.size 124 (.slice (some ⟨w.heap.size,0,none⟩) 5 5) [.bool true,.int .i64 2,.int .i64 z,.slice o1 n1 c1,.slice o2 n2 c2]):=q7 (fun st W h=>h.own HH9.out (fun e=>by have e2:some w.heap.size=some g:=e;injection e2 with e2;omega) (fun q hq e=>by have e2:some w.heap.size=some q:=hq;injection e2 with e2;exact qeI q e e2.symm))
 have HBW:Hid (∀st W,RSt w9 B g vb8 st W->Below B w W):=q7 (fun st W h=>HFR.out.1.trans h.bel)
 clear hol hdo hhb HPX HPK HA3 HBL HOO HH9 HV8 qaZ;go_wp2
 go_loopg [8] 20 (fun gk i wr=>∃j,j<=19/\i=.int .i64 (j:Nat)/\RSt w9 B g vb8 (jh (aY.take j) st3) wr/\gk=20-j)
 case atStart=>exact⟨0,qc _,rfl,HS9.out,rfl⟩
 case round=>
  clear HS9;obtain⟨j,hj,rfl,hs,hgk⟩:=hrel;have HSW:=q7 hs;clear hs
  by_cases hlt:j<19
  ·have hji:(j:Int)<19:=by omega
   have hoo:=HO3.out _ _ HSW.out;have hcell:=hoo.cell (i:=j) hlt;rw[HGO.out j hlt]at hcell;have qjr:=hoo.blk.2;have hix:=fun W=>qaW.out W j hlt
   simp only[Nat.zero_add,Int.toNat_natCast]at hix;have hy:=sL j;have HTK:Hid (jh (aY.take (j+1)) st3=((jh (aY.take j) st3).1+(if eZ.getD j 0<16 then 4 else 0)*2^(jh (aY.take j) st3).2,(jh (aY.take j) st3).2+3)):=q7 (by rw[sK j hlt,cT])
   have hlen:(jh (aY.take j) st3).2<=300000000:=by
    have:=kX j st3;have:=HL3.out;omega
   clear hoo;generalize eZ.getD j 0=y at*
   by_cases qa8:y<16
   ·have hyi:(y:Int)<16:=by omega
    have HPY:=q7 (fX HSW.out 4 3 (by decide) (by omega) (by omega))
    rw[show((4:Nat):Int)=4 from rfl,show((3:Nat):Int)=3 from rfl]at HPY
    have q9o:Hid (jh (aY.take (j+1)) st3=((jh (aY.take j) st3).1+4*2^(jh (aY.take j) st3).2,(jh (aY.take j) st3).2+3)):=q7 (by rw[HTK.out,if_pos qa8])
    clear qa8 HTK
    go_wp2_with(go_at_call 109;(with_reducible refine HPY.out.mono ?_);rintro e w10 ⟨rfl,hq⟩;have HQ:=q7 hq;clear hq)
    go_roundg (20-(j+1))
    case measure=>omega
    case rel=>exact⟨j+1,by omega,by go_num,by rw[q9o.out];exact HQ.out,rfl⟩
   ·have hyi:¬(y:Int)<16:=by omega
    have HPY:=q7 (fX HSW.out 0 3 (by decide) (by omega) (by omega))
    rw[show((0:Nat):Int)=0 from rfl,show((3:Nat):Int)=3 from rfl]at HPY
    have q9o:Hid (jh (aY.take (j+1)) st3=((jh (aY.take j) st3).1+0*2^(jh (aY.take j) st3).2,(jh (aY.take j) st3).2+3)):=q7 (by rw[HTK.out,if_neg qa8])
    clear qa8 HTK
    go_wp2_with(go_at_call 109;(with_reducible refine HPY.out.mono ?_);rintro e w10 ⟨rfl,hq⟩;have HQ:=q7 hq;clear hq)
    go_roundg (20-(j+1))
    case measure=>omega
    case rel=>exact⟨j+1,by omega,by go_num,by rw[q9o.out];exact HQ.out,rfl⟩
  ·obtain rfl:j=19:=by omega
   have qav:Hid (jh (aY.take 19) st3=jh aY st3):=q7 (by rw[List.take_of_length_le (by decide)])
   have hl4:(jh aY st3).2<=200000071:=by
    have h1:=kX 19 st3;rw[qav.out]at h1;have:=HL3.out;omega
   rw[qav.out]at HSW;obtain⟨st4,qb0⟩:∃st,st=jh aY st3:=⟨_,rfl⟩;rw[<-qb0]at HD HSW hl4;clear qb0 qav hlt HO3 qaW HGO;go_wp2
   go_loopg [9] (n1+1) (fun gq i W=>∃q,q<=n1/\i=.int .i64 (q:Nat)/\RSt w9 B g vb8 (jh (aV (l1.take q)) st4) W/\gq=n1+1-q)
   case atStart=>exact⟨0,qc _,rfl,by simpa[aV,jh]using HSW.out,rfl⟩
   case round=>
    clear HSW;obtain⟨q,hq,rfl,hs2,hgq⟩:=hrel;have HSQ:=q7 hs2;clear hs2;have xq:=(HH3.out _ _ HSQ.out).cell (i:=3) (by simp)
    have yq:=(HH3.out _ _ HSQ.out).blk.2
    by_cases hlq:q<n1
    ·have hqi:(q:Int)<(n1:Int):=by omega
     have hql:q<l1.length:=by have:=HN1.out;omega
     obtain⟨oa',cap',b',off',hv',hd',hc'⟩:=(HU1.out _ (HBW.out _ _ HSQ.out)).open;rw[qB,HN1.out]at hv' hd';rw[qB]at hc';injection hv' with q1 q2 q3
     subst q1 q3;have q9a:=qQ (P:=Tryz.prog) 66 3 Tryz.underlying66 (by kernel_rfl) hd'
     have hbb:=hd'.hblk (by omega)
     have hx:=hc' q hql;rw[jb]at hx;have qae:=qcC.out q hql;have HCK:Hid (jh (aV (l1.take (q+1))) st4=((jh (aV (l1.take q)) st4).1+jj (l1.getD q 0) 4*2^(jh (aV (l1.take q)) st4).2,(jh (aV (l1.take q)) st4).2+4)):=q7 (by rw[kE l1 q hql,cT])
     have hlen:(jh (aV (l1.take q)) st4).2<=500000000:=by rw[dS,List.length_take];omega
     have qa9:l1.getD q 0<2^4:=by omega
     have HPC:=q7 (N6 HSQ.out (l1.getD q 0) 4 qa9 (by omega) (by omega))
     rw[show((4:Nat):Int)=4 from rfl]at HPC
     have hm':=hd'.len;clear hc' hd' qa9;generalize l1.getD q 0=y at*
     go_wp2_with(go_at_call 112;(with_reducible refine HPC.out.mono ?_);rintro e w10 ⟨rfl,hqq⟩;have HQ:=q7 hqq;clear hqq)
     go_roundg (n1+1-(q+1))
     case measure=>omega
     case rel=>exact⟨q+1,by omega,by go_num,by rw[HCK.out];exact HQ.out,rfl⟩
    ·obtain rfl:q=n1:=by omega
     have HF:Hid (jh (aV (l1.take q)) st4=jh (aV l1) st4):=q7 (by rw[List.take_of_length_le (by have:=HN1.out;omega)])
     have hl5:(jh (aV l1) st4).2<=300000000:=by have:=HN1.out;rw[dS];omega
     rw[HF.out]at HSQ;obtain⟨st5,qcG⟩:∃st,st=jh (aV l1) st4:=⟨_,rfl⟩;rw[<-qcG]at HD HSQ hl5;have HSW:=HSQ;clear hlq qcG HF HSQ;go_wp2
     go_loopg [10] (n2+1) (fun gq i W=>∃q,q<=n2/\i=.int .i64 (q:Nat)/\RSt w9 B g vb8 (jh (aV (l2.take q)) st5) W/\gq=n2+1-q)
     case atStart=>exact⟨0,qc _,rfl,by simpa[aV,jh]using HSW.out,rfl⟩
     case round=>
      clear HSW;obtain⟨q,hq,rfl,hs2,hgq⟩:=hrel;have HSQ:=q7 hs2;clear hs2;have xq:=(HH3.out _ _ HSQ.out).cell (i:=4) (by simp)
      have yq:=(HH3.out _ _ HSQ.out).blk.2
      by_cases hlq:q<n2
      ·have hqi:(q:Int)<(n2:Int):=by omega
       have hql:q<l2.length:=by have:=HN2.out;omega
       obtain⟨oa',cap',b',off',hv',hd',hc'⟩:=(HU2.out _ (HBW.out _ _ HSQ.out)).open;rw[qB,HN2.out]at hv' hd';rw[qB]at hc';injection hv' with q1 q2 q3
       subst q1 q3;have q9a:=qQ (P:=Tryz.prog) 66 3 Tryz.underlying66 (by kernel_rfl) hd'
       have hbb:=hd'.hblk (by omega)
       have hx:=hc' q hql;rw[jb]at hx;have qae:=qcB.out q hql;have HCK:Hid (jh (aV (l2.take (q+1))) st5=((jh (aV (l2.take q)) st5).1+jj (l2.getD q 0) 4*2^(jh (aV (l2.take q)) st5).2,(jh (aV (l2.take q)) st5).2+4)):=q7 (by rw[kE l2 q hql,cT])
       have hlen:(jh (aV (l2.take q)) st5).2<=500000000:=by rw[dS,List.length_take];omega
       have qa9:l2.getD q 0<2^4:=by omega
       have HPC:=q7 (N6 HSQ.out (l2.getD q 0) 4 qa9 (by omega) (by omega))
       rw[show((4:Nat):Int)=4 from rfl]at HPC
       have hm':=hd'.len;clear hc' hd' qa9;generalize l2.getD q 0=y at*
       go_wp2_with(go_at_call 112;(with_reducible refine HPC.out.mono ?_);rintro e w10 ⟨rfl,hqq⟩;have HQ:=q7 hqq;clear hqq)
       go_roundg (n2+1-(q+1))
       case measure=>omega
       case rel=>exact⟨q+1,by omega,by go_num,by rw[HCK.out];exact HQ.out,rfl⟩
      ·obtain rfl:q=n2:=by omega
       have HF:Hid (jh (aV (l2.take q)) st5=jh (aV l2) st5):=q7 (by rw[List.take_of_length_le (by have:=HN2.out;omega)])
       rw[HF.out]at HSQ;clear hlq HF;go_wp2;go_ret;rw[HD.out];obtain⟨vb,h1,h2,h3⟩:=HSQ.out
       exact⟨rfl,vb,h1,HFR.out.1.trans h2,HFR.out.2.trans h3⟩
def q6w(k z:Int)(n1 n2:Nat):Prop:=k<0\/2<k\/(k=0/\(z<0\/65535<z))\/(k=2/\(n1<257\/286<n1\/n2<1\/30<n2))
theorem q2M{w:World}{B g N L:Nat}{vb0:Value}(h:aJ w B g N L vb0)(f:Bool)(k z:Int)(o1 o2:Option Addr)(n1 n2 c1 c2:Nat)(hm1:n1<=9223372036854775807)(hm2:n2<=9223372036854775807)(q93:q6w k z n1 n2):
  Calls Tryz.prog 62 #[.pointer (some ⟨g,0,none⟩),.agg #[.bool f,.int .i64 k,.int .i64 z,.slice o1 n1 c1,.slice o2 n2 c2]] w fun e w'=>e=.returned (.int .i64 1)/\RSt w B g vb0 (N,L) w':=by
 have hBw:B<=w.heap.size:=by have:=h.ge;have:=h.box.blk.2;omega
 obtain⟨w1,hw1⟩:∃w1,w1=w.alloc (.cells #[.bool f,.int .i64 k,.int .i64 z,.slice o1 n1 c1,.slice o2 n2 c2] 124):=⟨_,rfl⟩;have hb1:Below w.heap.size w w1:=by rw[hw1];exact qn _ _
 have HB1:=q7 hb1;have HS1:=q7 (RSt.start (h.up hb1));have HW1:=q7 hw1;clear h hw1 hb1;have q9D:=q93;unfold q6w at q9D
 by_cases hk0:k<0
 ·clear q93 q9D
  go_enter Tryz.func62,Tryz.ntmps62
  go_wp2;go_ret;rw[<-HW1.out]
  exact⟨rfl,HS1.out.from1 HB1.out hBw⟩
 ·by_cases hk2:k>2
  ·clear q93 q9D
   go_enter Tryz.func62,Tryz.ntmps62
   go_wp2;go_ret;rw[<-HW1.out]
   exact⟨rfl,HS1.out.from1 HB1.out hBw⟩
  ·by_cases hz0:k=0
   ·subst hz0
    by_cases hz1:z<0
    ·clear q93 q9D
     go_enter Tryz.func62,Tryz.ntmps62
     go_wp2;go_ret;rw[<-HW1.out]
     exact⟨rfl,HS1.out.from1 HB1.out hBw⟩
    ·have hz2:z>65535:=by omega
     clear q93 q9D
     go_enter Tryz.func62,Tryz.ntmps62
     go_wp2;go_ret;rw[<-HW1.out]
     exact⟨rfl,HS1.out.from1 HB1.out hBw⟩
   ·obtain rfl:k=2:=by omega
    by_cases ha:n1<257
    ·have hai:(n1:Int)<257:=by omega
     clear q93 q9D
     go_enter Tryz.func62,Tryz.ntmps62
     go_wp2;go_ret;rw[<-HW1.out]
     exact⟨rfl,HS1.out.from1 HB1.out hBw⟩
    ·have hai:¬(n1:Int)<257:=by omega
     by_cases hb:286<n1
     ·have hbi:(n1:Int)>286:=by omega
      clear q93 q9D
      go_enter Tryz.func62,Tryz.ntmps62
      go_wp2;go_ret;rw[<-HW1.out]
      exact⟨rfl,HS1.out.from1 HB1.out hBw⟩
     ·have hbi:¬(n1:Int)>286:=by omega
      by_cases hc:n2<1
      ·have hci:(n2:Int)<1:=by omega
       clear q93 q9D
       go_enter Tryz.func62,Tryz.ntmps62
       go_wp2;go_ret;rw[<-HW1.out]
       exact⟨rfl,HS1.out.from1 HB1.out hBw⟩
      ·have hci:¬(n2:Int)<1:=by omega
       have hdi:(n2:Int)>30:=by omega
       clear q93 q9D
       go_enter Tryz.func62,Tryz.ntmps62
       go_wp2;go_ret;rw[<-HW1.out]
       exact⟨rfl,HS1.out.from1 HB1.out hBw⟩
theorem q2N{w:World}{B g N L:Nat}{vb0:Value}(h:aJ w B g N L vb0)(f:Bool)(z:Int)(o1 o2:Option Addr)(n1 n2 c1 c2:Nat)(l1 l2:List Int)(hu1:∀W,Below B w W->qT W (.slice o1 n1 c1) l1)(hu2:∀W,Below B w W->qT W (.slice o2 n2 c2) l2)
  (he1:n1=l1.length) (hn1:257<=n1) (qcc:n1<=286) (hn2:1<=n2) (qcN:n2<=30) (hr:bI l1 l2≠0):
  Calls Tryz.prog 62 #[.pointer (some ⟨g,0,none⟩),.agg #[.bool f,.int .i64 2,.int .i64 z,.slice o1 n1 c1,.slice o2 n2 c2]] w fun e w'=>e=.returned (.int .i64 (bI l1 l2:Nat))/\RSt w B g vb0 (N,L) w':=by
 have hBw:B<=w.heap.size:=by have:=h.ge;have:=h.box.blk.2;omega
 obtain⟨w1,hw1⟩:∃w1,w1=w.alloc (.cells #[.bool f,.int .i64 2,.int .i64 z,.slice o1 n1 c1,.slice o2 n2 c2] 124):=⟨_,rfl⟩;have hb1:Below w.heap.size w w1:=by rw[hw1];exact qn _ _
 have HB1:=q7 hb1;have HS1:=q7 (RSt.start (h.up hb1));have HW1:=q7 hw1;have HFC:=q7 (q4D _ _ l1 l2 w1 (hu1 w1 (hb1.mono hBw)) (hu2 w1 (hb1.mono hBw)) (by omega))
 have i1:¬(n1:Int)<257:=by omega
 have i2:¬(n1:Int)>286:=by omega
 have i3:¬(n2:Int)<1:=by omega
 have i4:¬(n2:Int)>30:=by omega
 have hr':((bI l1 l2:Int) != 0)=true:=by simpa using hr
 clear h hw1 hb1 hu1 hu2 he1 hr;generalize bI l1 l2=r at*
 go_enter Tryz.func62,Tryz.ntmps62
 go_wp2_with(go_at_call 108;rw[<-HW1.out];(with_reducible refine HFC.out.mono ?_);rintro e w2 ⟨rfl,hb2⟩;(have HS2:=q7 (HS1.out.up hb2 (qa hBw HB1.out.size));clear hb2))
 go_ret
 exact⟨rfl,HS2.out.from1 HB1.out hBw⟩
theorem q4N{w:World}{B g N L:Nat}{vb0:Value}(h:aJ w B g N L vb0)(f:Bool)(k z:Int)(u1 u2:Value)(l1 l2:List Int)(hu1:∀W,Below B w W->qT W u1 l1)(hu2:∀W,Below B w W->qT W u2 l2)(hL:L<=100000000):
  Calls Tryz.prog 62 #[.pointer (some ⟨g,0,none⟩),.agg #[.bool f,.int .i64 k,.int .i64 z,u1,u2]] w fun e w'=>e=.returned (.int .i64 (fH k z l1 l2:Nat))/\RSt w B g vb0 (if fH k z l1 l2=0 then wrI f k z l1 l2 (N,L)else(N,L)) w':=by
 obtain⟨o1,c1,b1,f1,hv1,hd1,-⟩:=(hu1 w (qj _ _)).open;obtain⟨o2,c2,b2,f2,hv2,hd2,-⟩:=(hu2 w (qj _ _)).open;have hm1:=hd1.len;have hm2:=hd2.len;subst hv1 hv2
 by_cases q93:q6w k z l1.length l2.length
 ·have hm:fH k z l1 l2=1:=by
   unfold q6w at q93;unfold fH
   by_cases k0:k=0
   ·rw[if_pos k0,if_pos (by omega)]
   ·rw[if_neg k0,if_neg (by omega)]
    by_cases k2:k=2
    ·rw[if_pos k2,if_pos (by omega)]
    ·rw[if_neg k2]
  rw[hm]
  exact q2M h f k z o1 o2 _ _ c1 c2 hm1 hm2 q93
 ·have hb:=q93
  unfold q6w at hb
  by_cases k0:k=0
  ·subst k0
   have hm:fH 0 z l1 l2=0:=by unfold fH;rw[if_pos rfl,if_neg (by omega)]
   obtain⟨zn,rfl⟩:∃zn:Nat,z=(zn:Int):=⟨z.toNat,by omega⟩
   rw[hm,if_pos rfl];unfold wrI;rw[if_pos rfl,Int.toNat_natCast]
   cases f with
   |false=>exact wJ h zn (by omega) o1 o2 _ _ c1 c2 hL
   |true=>exact zF h zn (by omega) o1 o2 _ _ c1 c2 hL
  ·by_cases k1:k=1
   ·subst k1
    have hm:fH 1 z l1 l2=0:=by unfold fH;rw[if_neg (by decide),if_pos rfl]
    rw[hm,if_pos rfl];unfold wrI;rw[if_neg (by decide),if_pos rfl]
    cases f with
    |false=>exact wK h z o1 o2 _ _ c1 c2 hL
    |true=>exact zG h z o1 o2 _ _ c1 c2 hL
   ·obtain rfl:k=2:=by omega
    have hm:fH 2 z l1 l2=bI l1 l2:=by unfold fH;rw[if_neg (by decide),if_neg (by decide),if_pos rfl,if_neg (by omega)]
    by_cases hr:bI l1 l2=0
    ·obtain⟨m1,m2,m3,m4,m5,m6,m7,m8,m9⟩:=nK (hm.trans hr)
     rw[hm,hr,if_pos rfl];unfold wrI;rw[if_neg (by decide),if_neg (by decide)]
     have hf0:cY (l1.map Int.toNat) (l2.map Int.toNat)=0:=by rw[<-sM,<-m5,<-m6];exact hr
     cases f with
     |false=>exact wL h z o1 o2 _ _ c1 c2 (l1.map Int.toNat) (l2.map Int.toNat) (fun W hb=>by rw[<-m5];exact hu1 W hb) (fun W hb=>by rw[<-m6];exact hu2 W hb) (by simp) (by simp) m1 m2 m3 m4 m7 m8 hf0 hL
     |true=>exact zI h z o1 o2 _ _ c1 c2 (l1.map Int.toNat) (l2.map Int.toNat) (fun W hb=>by rw[<-m5];exact hu1 W hb) (fun W hb=>by rw[<-m6];exact hu2 W hb) (by simp) (by simp) m1 m2 m3 m4 m7 m8 hf0 hL
    ·rw[hm,if_neg hr]
     exact q2N h f z o1 o2 _ _ c1 c2 l1 l2 hu1 hu2 rfl (by omega) (by omega) (by omega) (by omega) hr
theorem q2O{w:World}{v:Value}{l:List PtN}(h:js w v l)(hok:∀p∈l,yT p)(q9e:∀p∈l,∀o∈p.ops,pL o)(hsm:∀p∈l,q5W p)(hsz:∀k,k<=l.length->(aX l k).2.2<=90000000):
  Calls Tryz.prog 29 #[v] w (bS (eN l) w):=by
 have HT:=q7 (q3T h hok)
 have q9I:∀i,i<l.length->l.getD i zPt∈l:=fun i hi=>by
  have:l.getD i zPt=l[i]:=by simp[List.getD,hi]
  rw[this];exact List.getElem_mem hi
 have qde:Hid (∀i,i<l.length->∀o∈(l.getD i zPt).ops,pL o):=q7 (fun i hi=>q9e _ (q9I i hi))
 have HSM:Hid (∀i,i<l.length->q5W (l.getD i zPt)):=q7 (fun i hi=>hsm _ (q9I i hi))
 have HSZ:=q7 hsz;obtain⟨oa,cap,bl,off,rfl,hd,hco⟩:=h.open;have HCO:=q7 hco;have HD:=q7 hd;obtain⟨y,hy⟩:∃y,y=eN l:=⟨_,rfl⟩;rw[<-hy];have HY:=q7 hy;unfold eN at HY;have hm:=hd.len;clear hy h hok hd hco q9I q9e hsm hsz;generalize jq 10 17 l=z at*;obtain⟨er,tb⟩:=z;simp only at HY;unfold bS at HT;simp only at HT
 by_cases her:er=0
 ·subst her
  have HYA:Hid (y=if(aX l l.length).1≠0 then((aX l l.length).1,[])else(0,fI (aX l l.length).2.1 (aX l l.length).2.2)):=q7 (by rw[HY.out,if_neg (fun h=>h rfl)])
  clear HY
  go_enter Tryz.func29,Tryz.ntmps29
  go_upto_region 4 with(go_at_call 30;(with_reducible refine HT.out.mono ?_);rintro e w1 ⟨rfl,x1,rfl⟩;have HB1:=q7 (qu w x1);generalize ext w x1=w1 at*;clear HT)
  have hB1:w.heap.size<=w1.heap.size:=HB1.out.size;have HV2:Hid (aJ (w1.alloc (.cells #[Value.slice none 0 0] 122)) w1.heap.size w1.heap.size 0 0 (.slice none 0 0)):=q7 ⟨qE w1 w1.heap.size #[Value.slice none 0 0] 122 (by simp) (q9 _),by simpa[cL]using Own.nil _ _ _,by simp[Value.ownBlock],q9 _,by decide⟩
  have HB2:=q7 (qn w1 (.cells #[Value.slice none 0 0] 122));go_wp2;generalize w1.alloc (.cells #[Value.slice none 0 0] 122)=w2 at*;obtain⟨B,hB⟩:∃B,B=w1.heap.size:=⟨_,rfl⟩;rw[<-hB]at HV2 HB2 hB1⊢;have HBB:=q7 hB;have q99:Hid (∀W,Below B w2 W->Below w.heap.size w W):=q7 (fun W hb=>HB1.out.trans ((HB2.out.trans hb).mono hB1))
  obtain⟨g,hg⟩:∃g,g=B:=⟨_,rfl⟩;rw[show aJ w2 B B 0 0 (.slice none 0 0)=aJ w2 B g 0 0 (.slice none 0 0) by rw[hg]]at HV2
  rw[<-hg];have hgB:B<=g:=by omega
  obtain⟨vb2,qgh⟩:∃vb2,vb2=Value.slice none 0 0:=⟨_,rfl⟩;rw[<-qgh]at HV2;clear hB hg qgh
  go_loopg [7] (l.length+1) (fun gk iv wr=>∃k:Nat,iv=.int .i64 k/\k<=l.length/\(aX l k).1=0/\RSt w2 B g vb2 (aX l k).2 wr/\gk=l.length+1-k)
  case atStart=>exact⟨0,rfl,qc _,rfl,RSt.start HV2.out,rfl⟩
  case round=>
   clear HV2;obtain⟨k,rfl,hk,hk0,hst,rfl⟩:=hrel;have HS:=q7 hst;have HK0:=q7 hk0;have hlen:=HSZ.out k hk;have qgU:=hst.lt;generalize wr=wo at*;clear hst hk0
   by_cases hlt:k<l.length
   ·have hix:=jy (P:=Tryz.prog) 5 24 73 Tryz.underlying24 (by kernel_rfl) HD.out
    have q9a:=fun W kd=>hix W kd (k:Int) (by omega) (by omega)
    simp only[Int.toNat_natCast]at q9a;obtain⟨oo,oc,o1,c1,o2,c2,hcc,hs,hi1,hi2⟩:=HCO.out k hlt;have hsm:=HSM.out k hlt;have q9e:=qde.out k hlt;have HNX:=q7 (nQ (l:=l) (k:=k) HK0.out);have hbb:=HD.out.hblk (by omega)
    obtain⟨p,hp⟩:∃p,p=l.getD k zPt:=⟨_,rfl⟩;rw[<-hp]at hcc hs hi1 hi2 hsm q9e HNX;clear hp;have hBW:=q99.out _ HS.out.bel;have hwr:w.heap.size<=wo.heap.size:=hBW.size;obtain⟨wk,hwk⟩:∃wk,wk=wo.alloc (.cells #[.int .i64 p.kind,.string p.text,.slice oo p.ops.length oc,.slice o1 p.lits.length c1,.slice o2 p.dists.length c2] 73):=⟨_,rfl⟩;have hAL:=qn wo (.cells #[.int .i64 p.kind,.string p.text,.slice oo p.ops.length oc,.slice o1 p.lits.length c1,.slice o2 p.dists.length c2] 73);have hPT:=qE wo wo.heap.size #[.int .i64 p.kind,.string p.text,.slice oo p.ops.length oc,.slice o1 p.lits.length c1,.slice o2 p.dists.length c2] 73 (by simp) (q9 _)
    rw[<-hwk]at hAL hPT;have hBr:B<=wo.heap.size:=by omega
    obtain⟨vbk,hvr,hbr,hfr⟩:=HS.out;have hnq:vbk.ownBlock≠some wo.heap.size:=fun e=>by have:=(hvr.own.lt _ e).2;omega
    have hvk:=hvr.up hAL;have HVK:=q7 hvk;have HBR:=q7 (hbr.trans (hAL.mono hBr));have HFR:=q7 (hfr.below hAL);have hgq:g≠wo.heap.size:=by omega
    have HC5:Hid (∀c,c<5->wo.cell? ⟨bl,off+k*5+c,none⟩=some ((#[.int .i64 p.kind,.string p.text,.slice oo p.ops.length oc,.slice o1 p.lits.length c1,.slice o2 p.dists.length c2]:Array Value).getD c undef)):=q7 (fun c hc=>(hBW.cell (p:=⟨bl,off+k*5+c,none⟩) hbb).trans (hcc c hc))
    have hBK:Below w.heap.size w wk:=hBW.trans (hAL.mono hwr);have HPT:=q7 hPT;have HWK:=q7 hwk;have qk2:B<=wk.heap.size:=qa hBr hAL.size;have HWS:Hid (∀st' W,RSt wk B g vbk st' W->RSt w2 B g vb2 st' W):=q7 (fun st' W hw=>hw.from2 HBR.out HFR.out)
    have HPS:Hid (∀st' W,RSt wk B g vbk st' W->Own W wo.heap.size 73 (.slice (some ⟨wo.heap.size,0,none⟩) 5 5) [.int .i64 p.kind,.string p.text,.slice oo p.ops.length oc,.slice o1 p.lits.length c1,.slice o2 p.dists.length c2]):=q7 (fun st' W hw=>hw.own HPT.out (by intro e;have e2:some wo.heap.size=some g:=e;injection e2 with e2;omega) (by intro q e;have e2:some wo.heap.size=some q:=e;injection e2 with e2;subst e2;exact hnq))
    have HHD:=q7 (q4N hvk (decide (k+1=l.length)) p.kind p.text.size (.slice o1 p.lits.length c1) (.slice o2 p.dists.length c2) p.lits p.dists (fun W hb=>hi1.up (hBK.trans (hb.mono (by rw[HBB.out];exact HB1.out.size)))) (fun W hb=>hi2.up (hBK.trans (hb.mono (by rw[HBB.out];exact HB1.out.size)))) (by omega))
    have hfl:((k:Int)==(l.length:Int)-1)=decide (k+1=l.length):=by
     by_cases e:k+1=l.length
     ·rw[decide_eq_true e];simp;omega
     ·rw[decide_eq_false e];simp;omega
    have hmi:∀st',(tQ l.length k p (aX l k).2)=st'->st'.1≠0->y=(st'.1,[]):=fun st' h1 h2=>by
     have e:aX l (k+1)=st':=by rw[HNX.out,h1]
     have e2:=gP (l:=l) (k:=k+1) (by rw[e];exact h2) (l.length-(k+1))
     rw[show k+1+(l.length-(k+1))=l.length by omega,e]at e2
     rw[HYA.out,e2,if_pos h2]
    have qa7:=q7 hmi;have q9J:Hid (∀st',(tQ l.length k p (aX l k).2)=st'->aX l (k+1)=st'):=q7 (fun st' h=>by rw[HNX.out,h])
    have p0:wk.cell? ⟨wo.heap.size,0,none⟩=some (.int .i64 p.kind):=hPT.cell (by simp)
    have p1:wk.cell? ⟨wo.heap.size,1,none⟩=some (.string p.text):=hPT.cell (by simp)
    have p3:wk.cell? ⟨wo.heap.size,3,none⟩=some (.slice o1 p.lits.length c1):=hPT.cell (by simp)
    have p4:wk.cell? ⟨wo.heap.size,4,none⟩=some (.slice o2 p.dists.length c2):=hPT.cell (by simp)
    have hp:=hPT.blk.2;have htx:p.text.size<=1000000:=hsm.text;have qgz:p.ops.length<=1000000:=hsm.ops;have qa4:Hid (∀W,Below w.heap.size w W->SlK 3 W (.slice oo p.ops.length oc) (p.ops.map opV)/\qT W (.slice o1 p.lits.length c1) p.lits/\qT W (.slice o2 p.dists.length c2) p.dists):=q7 (fun W hb=>⟨hs.up hb,hi1.up hb,hi2.up hb⟩)
    have qg2:=q7 hBK;have HOK:=q7 q9e;obtain⟨m,hmm⟩:∃m,m=fH p.kind p.text.size p.lits p.dists:=⟨_,rfl⟩;rw[<-hmm]at HHD;have HMM:=q7 hmm;clear hmm hmi hcc hs hi1 hi2 hsm q9e HNX hix hAL hPT hwk hvr hbr hfr hvk HSM qde HCO HVK hBK;obtain⟨st,hst⟩:∃st,st=(aX l k).2:=⟨_,rfl⟩;rw[<-hst]at HHD qa7 q9J hlen;clear hst
    by_cases hm0:m=0
    ·subst hm0
     rw[if_pos rfl]at HHD;have hw1:=G6 (f:=decide (k+1=l.length)) (st:=st) HMM.out.symm
     have HEP:Hid (tQ l.length k p st=if p.kind=0 then(0,iT (bys p.text) (jo (wrI (decide (k+1=l.length)) p.kind p.text.size p.lits p.dists st)))else lJ (fJ p) (bO p) p.ops (wrI (decide (k+1=l.length)) p.kind p.text.size p.lits p.dists st)):=q7 (by
      unfold tQ;rw[<-HMM.out,if_neg (fun h=>h rfl)])
     rw[show(st.1,st.2)=st from rfl]at HHD
     obtain⟨s1,hs1⟩:∃s1,s1=wrI (decide (k+1=l.length)) p.kind p.text.size p.lits p.dists st:=⟨_,rfl⟩;rw[<-hs1]at HHD HEP hw1;clear hs1 HMM;generalize decide (k+1=l.length)=fl at*
     by_cases hk0:p.kind=0
     ·have qeF:(p.kind==0)=true:=by simpa using hk0
      rw[if_pos hk0]at HEP;have HBY:=q7 (fun(W:World) (hw:RSt wk B g vbk s1 W)=>q4H hw p.text htx (by omega))
      have HK1:=q7 (q9J.out _ HEP.out);clear hk0 qa7 q9J HEP HOK qa4;generalize p.lits.length=n1 at*;generalize p.dists.length=n2 at*;generalize p.ops.length=n3 at*
      go_upto_region 9 with(refine qG rfl 73 _ rfl bl (off+k*5) 5 rfl #[.int .i64 p.kind,.string p.text,.slice oo n3 oc,.slice o1 n1 c1,.slice o2 n2 c2] _ HC5.out rfl Tryz.underlying73 rfl (by kernel_rfl) ?_)
      rw[<-HWK.out]
      go_wp2_with(first
       |(go_at_call 62;(with_reducible refine HHD.out.mono ?_);rintro e w5 ⟨rfl,hw5⟩;have HW5:=q7 hw5;have q0:w5.cell? ⟨wo.heap.size,0,none⟩=some (.int .i64 p.kind):=(HPS.out _ _ hw5).cell (by simp);have q1:w5.cell? ⟨wo.heap.size,1,none⟩=some (.string p.text):=(HPS.out _ _ hw5).cell (by simp);have hq5:=(HPS.out _ _ hw5).blk.2;clear hw5)
       |(go_at_call 63;(with_reducible refine(HBY.out _ HW5.out).mono ?_);rintro e w6 ⟨rfl,hw6⟩;have HW6:=q7 hw6;clear hw6))
      go_roundg (l.length+1-(k+1))
      case measure=>omega
      case rel=>exact⟨k+1,by go_num,by omega,by rw[HK1.out],by rw[HK1.out];exact HWS.out _ _ HW6.out,rfl⟩
     ·have qeF:(p.kind==0)=false:=by simpa using hk0
      rw[if_neg hk0]at HEP;clear hk0;have qaC:Hid (∀z,lJ (fJ p) (bO p) p.ops s1=z->tQ l.length k p st=z):=q7 (fun z h=>by rw[HEP.out,h])
      clear HEP;have HGQ:=q7 hgq
      by_cases hk1:p.kind=1
      ·have qjj:(p.kind==1)=true:=by simpa using hk1
       have HLI:Hid (fJ p=nls lM/\bO p=nls oH):=q7 (by unfold fJ bO;rw[if_pos hk1,if_pos hk1];exact⟨rfl,rfl⟩)
       rw[HLI.out.1,HLI.out.2]at qaC;clear hk1 HLI;generalize hn1:p.lits.length=n1 at*;generalize hn2:p.dists.length=n2 at*;clear hn1 hn2;obtain⟨n3,hn3⟩:∃n3,n3=p.ops.length:=⟨_,rfl⟩;rw[<-hn3]at HC5 HWK HPS HPT qa4 qgz;have HN3:=q7 hn3;clear hn3
       go_upto_region 9 with(refine qG rfl 73 _ rfl bl (off+k*5) 5 rfl #[.int .i64 p.kind,.string p.text,.slice oo n3 oc,.slice o1 n1 c1,.slice o2 n2 c2] _ HC5.out rfl Tryz.underlying73 rfl (by kernel_rfl) ?_)
       rw[<-HWK.out]
       go_upto_region 19 with(first
        |(go_at_call 62;(with_reducible refine HHD.out.mono ?_);rintro e w5 ⟨rfl,hw5⟩;have HW5:=q7 hw5;have q0:w5.cell? ⟨wo.heap.size,0,none⟩=some (.int .i64 p.kind):=(HPS.out _ _ hw5).cell (by simp);have q3:w5.cell? ⟨wo.heap.size,3,none⟩=some (.slice o1 n1 c1):=(HPS.out _ _ hw5).cell (by simp);have q4:w5.cell? ⟨wo.heap.size,4,none⟩=some (.slice o2 n2 c2):=(HPS.out _ _ hw5).cell (by simp);have hq5:=(HPS.out _ _ hw5).blk.2;clear hw5)
        |(go_at_call 64;(with_reducible refine(q6f _).mono ?_);rintro e w6 ⟨v6,rfl,ho6,hb6⟩;have HO6:=q7 ho6;have HB6:=q7 hb6;obtain⟨oa6,ca6,ga6,hv6,-⟩:=ho6.cases;subst hv6;generalize (ints (nls lM)).length=n6 at*;clear ho6 hb6)
        |(go_at_call 65;(with_reducible refine(q6g _).mono ?_);rintro e w7 ⟨v7,rfl,ho7,hb7⟩;have HO7:=q7 ho7;have HB7:=q7 hb7;obtain⟨oa7,ca7,ga7,hv7,-⟩:=ho7.cases;subst hv7;generalize (ints (nls oH)).length=n7 at*;clear ho7 hb7))
       obtain⟨vb5,hv5,hb5,hf5⟩:=HW5.out;have h56:=HB6.out.size;have h67:=HB7.out.size;have hlB:=hb5.size;have hg5:=hv5.box.blk.2;have qbu:∀q,vb5.ownBlock=some q->q<w5.heap.size:=fun q e=>(hv5.own.lt q e).2
       have hB5:B<=w5.heap.size:=by omega
       have HV7:=q7 ((hv5.up HB6.out).up HB7.out);have HF7:=q7 ((hf5.below HB6.out).below HB7.out);have qdu:Hid (Below B wk w7):=q7 ((hb5.trans (HB6.out.mono hB5)).trans (HB7.out.mono (by omega)))
       have HT1:Hid (mC g vb5 w7 (.slice oa6 n6 ca6) (nls lM)):=q7 (mC.own (HO6.out.up HB7.out) (fun q e=>by have h1:=HO6.out.lt q e;exact⟨by omega,fun e2=>by have:=qbu q e2;omega⟩))
       have HT2:Hid (mC g vb5 w7 (.slice oa7 n7 ca7) (nls oH)):=q7 (mC.own HO7.out (fun q e=>by have h1:=HO7.out.lt q e;exact⟨by omega,fun e2=>by have:=qbu q e2;omega⟩))
       clear hv5 hb5 hf5 qbu HO6 HO7 HB6 HB7 HW5 q0 q3 q4 hq5 h56 h67 hg5;generalize nls lM=l1 at*;generalize nls oH=l2 at*;obtain⟨ops,q9e⟩:∃ops,ops=p.ops:=⟨_,rfl⟩;rw[<-q9e]at HN3 qaC qa4 HOK;clear q9e;have hn3:=HN3.out;have HTK:Hid (∀j,(hj:j<ops.length)->cC l1 l2 (ops.take (j+1)) (0,s1)=cOp l1 l2 ops[j] (cC l1 l2 (ops.take j) (0,s1))):=q7 (fun j hj=>by rw[List.take_succ_eq_append_getElem hj,nO])
       have HLN:Hid (∀j,j<=ops.length->(cC l1 l2 (ops.take j) (0,s1)).2.2<=800000000):=q7 (fun j hj=>by
        have:=(lA l1 l2 (ops.take j) (0,s1)).2;rw[List.length_take]at this;have h2:min j ops.length<=ops.length:=Nat.min_le_right _ _;have h3:48*min j ops.length<=48*ops.length:=Nat.mul_le_mul_left _ h2;simp only at this;omega)
       have qa2:Hid (∀j,(hj:j<ops.length)->pL ops[j]):=q7 (fun j hj=>HOK.out _ (List.getElem_mem hj))
       have qbN:Hid (∀j,(cC l1 l2 (ops.take j) (0,s1)).1≠0->lJ l1 l2 ops s1=cC l1 l2 (ops.take j) (0,s1)):=q7 (fun j hj=>by
        have e:cC l1 l2 ops (0,s1)=cC l1 l2 (ops.take j) (0,s1):=by
         have e1:cC l1 l2 ops (0,s1)=cC l1 l2 (ops.drop j) (cC l1 l2 (ops.take j) (0,s1)):=by
          unfold cC;rw[<-List.foldl_append,List.take_append_drop]
         rw[e1,kZ hj]
        unfold lJ;rw[e,cD hj])
       have HC0:Hid (cC l1 l2 (ops.take 0) (0,s1)=(0,s1.1,s1.2)):=q7 rfl;have HYE:Hid (∀z,lJ l1 l2 ops s1=z->z.1≠0->y=(z.1,[])):=q7 (fun z h1 h2=>qa7.out z (qaC.out z h1) h2)
       have HYN:Hid (∀N L,lJ l1 l2 ops s1=(0,N,L)->aX l (k+1)=(0,N,L)):=q7 (fun N L h=>q9J.out _ (qaC.out _ h))
       clear HOK qa7 q9J qaC hn3;go_wp2
       go_loopg [12] (n3+1) (fun gk jv wr=>∃(j N' L':Nat) (vb':Value),jv=.int .i64 j/\j<=n3/\Hid (cC l1 l2 (ops.take j) (0,s1)=(0,N',L'))/\aJ wr B g N' L' vb'/\Fr g vb5 vb' w7 wr/\Below B wk wr/\gk=n3+1-j)
       case atStart=>exact⟨0,s1.1,s1.2,vb5,rfl,qc _,HC0,HV7.out,Fr.refl _ _ _,qdu.out,rfl⟩
       case round=>
        clear HV7 qdu HC0;obtain⟨j,N',L',vb',rfl,hj,HJ,hv,hf,hbl,rfl⟩:=hrel;have HV:=q7 hv;have HF:=q7 hf;have HBL:=q7 hbl;have hln:=HLN.out j (by rw[<-HN3.out];exact hj)
        rw[HJ.out]at hln;simp only at hln;have qaG:=hbl.size;have hrs:RSt wk B g vbk (N',L') wr:=⟨vb',hv,hbl,HF7.out.trans hf⟩;have q2:wr.cell? ⟨wo.heap.size,2,none⟩=some (.slice oo n3 oc):=(HPS.out _ _ hrs).cell (by simp)
        have hq:=(HPS.out _ _ hrs).blk.2;have hWw:=qg2.out.trans (hbl.mono hB1);have HWW:=q7 hWw;have HWR:=q7 (q99.out wr ((HWS.out _ _ hrs).bel));have HRS:=q7 hrs;have qk1:B<=wr.heap.size:=by omega
        clear hv hf hbl hrs hWw
        by_cases q9x:j<n3
        ·have qbz:decide (j<n3)=true:=by rw[decide_eq_true_iff];omega
         have hjo:j<ops.length:=by rw[<-HN3.out];exact q9x
         obtain⟨oo',oc',ob',off',hv',hdo,hco⟩:=cP (qa4.out wr HWW.out).1
         obtain⟨rfl,rfl⟩:oo=oo'/\oc=oc':=by
          injection hv' with e1 e2 e3;exact⟨e1,e3⟩
         rw[<-HN3.out]at hdo;have hix:=jy (P:=Tryz.prog) 3 65 64 Tryz.underlying65 (by kernel_rfl) hdo
         have qcS:=fun W kd=>hix W kd (j:Int) (by omega) (by omega)
         simp only[Int.toNat_natCast]at qcS;have hcc:=hco j hjo;have hbo:=hdo.hblk (by omega)
         have q9o:=q7 (HTK.out j hjo);have HQ:=q7 (q6v HV.out (.slice oa6 n6 ca6) (.slice oa7 n7 ca7) l1 l2 (HT1.out.next HF.out) (HT2.out.next HF.out) ops[j] (qa2.out j hjo) (by omega))
         have q9y:=q7 (qbN.out (j+1));rw[q9o.out,HJ.out]at q9y;rw[HJ.out]at q9o;unfold q4M at HQ;generalize ops[j]=o at*;obtain⟨ol,on,od⟩:=o;simp only at HQ
         have HC3:Hid (∀c,c<3->wr.cell? ⟨ob',off'+j*3+c,none⟩=some ((#[.int .u8 (ol:Nat),.int .i64 on,.int .i64 od]:Array Value).getD c undef)):=q7 (fun c hc=>by
          rw[hcc c hc]
          match c,hc with
          |0,_=>rfl
          |1,_=>rfl
          |2,_=>rfl)
         generalize cOp l1 l2 ⟨ol,on,od⟩ (0,N',L')=ys at*;obtain⟨ey,sy⟩:=ys;simp only at HQ q9y;clear hco hix hdo hv' hcc HTK HLN qa2 qbN HT1 HT2
         by_cases hey:ey=0
         ·subst hey
          go_wp2_with(first
           |(refine qG rfl 64 _ rfl ob' (off'+j*3) 3 rfl #[.int .u8 (ol:Nat),.int .i64 on,.int .i64 od] _ HC3.out rfl Tryz.underlying64 rfl (by kernel_rfl) ?_)
           |(go_at_call 66;(with_reducible refine HQ.out.mono ?_);rintro e w8 ⟨rfl,N8,L8,vb8,hq1,hq2,hq3,hq4⟩;have HR1:=q7 hq1;have HR2:=q7 hq2;have HR3:=q7 hq3;have HR4:=q7 hq4;clear hq1 hq2 hq3 hq4))
          go_roundg (n3+1-(j+1))
          case measure=>omega
          case rel=>exact⟨j+1,N8,L8,vb8,by go_num,by omega,q7 (by rw[q9o.out,HR2.out (by trivial)]),HR1.out,HF.out.trans HR4.out,HBL.out.trans HR3.out,rfl⟩
         ·have qjH:((ey:Int) != 0)=true:=by simpa using hey
          have HE:=q7 (HYE.out _ (q9y.out hey) hey);clear hey q9y q9o
          go_wp2_with(first
           |(refine qG rfl 64 _ rfl ob' (off'+j*3) 3 rfl #[.int .u8 (ol:Nat),.int .i64 on,.int .i64 od] _ HC3.out rfl Tryz.underlying64 rfl (by kernel_rfl) ?_)
           |(go_at_call 66;(with_reducible refine HQ.out.mono ?_);rintro e w8 ⟨rfl,N8,L8,vb8,hq1,hq2,hq3,hq4⟩;have HR3:=q7 hq3;clear hq1 hq2 hq3 hq4))
          go_ret2
          exact⟨by rw[HE.out];rfl,qt (HWW.out.trans (HR3.out.mono (by omega)))⟩
        ·obtain rfl:j=n3:=by omega
         have qbz:decide (j<j)=false:=by simp
         have HX:=q7 (nJ (.slice oa6 n6 ca6) l1 256 (HT1.out.next HF.out wr vb' (Fr.refl _ _ _)) (HT1.out.next HF.out) HV.out (by omega))
         unfold M2 at HX
         have HCA:Hid (lJ l1 l2 ops s1=gB l1 256 0 0 (0,N',L')):=q7 (by
          have h2:=HJ.out;rw[HN3.out,List.take_length]at h2;unfold lJ;rw[h2])
         have HCP:Hid ((gK l1 256=0->lJ l1 l2 ops s1=(0,fG l1 256 (N',L')))/\(gK l1 256≠0->lJ l1 l2 ops s1=(gK l1 256,N',L'))):=q7 (by
          rw[HCA.out];unfold gB;rw[if_neg (fun h=>h rfl)]
          constructor
          ·intro h
           rw[if_neg (by omega)]
           simp only[Nat.zero_mul,Nat.add_zero]
          ·intro h
           rw[if_pos h])
         clear q9x HTK HLN qa2 qbN HT1 HT2 HCA HV;generalize fG l1 256 (N',L')=nl at*;obtain⟨N9,L9⟩:=nl;generalize gK l1 256=q at*
         by_cases hq0:q=0
         ·subst hq0
          have HK1:=q7 (HYN.out _ _ (HCP.out.1 rfl))
          go_wp2_with(go_at_call 67;(with_reducible refine HX.out.mono ?_);rintro e w8 ⟨rfl,vb8,hq1,hq2,hq3⟩;have HR1:=q7 hq1;have HR2:=q7 hq2;have HR3:=q7 hq3;clear hq1 hq2 hq3)
          go_roundg (l.length+1-(k+1))
          case measure=>omega
          case rel=>exact⟨k+1,by go_num,by omega,by rw[HK1.out],by rw[HK1.out];exact HWS.out _ _ ⟨vb8,HR1.out,HBL.out.trans HR2.out,(HF7.out.trans HF.out).trans HR3.out⟩,rfl⟩
         ·have hqi:((q:Int) != 0)=true:=by simpa using hq0
          have HE:=q7 (HYE.out _ (HCP.out.2 hq0) hq0);clear hq0 HCP
          go_wp2_with(go_at_call 67;(with_reducible refine HX.out.mono ?_);rintro e w8 ⟨rfl,vb8,hq1,hq2,hq3⟩;have HR2:=q7 hq2;clear hq1 hq2 hq3)
          go_ret2
          exact⟨by rw[HE.out];rfl,qt (HWW.out.trans (HR2.out.mono (by omega)))⟩
      ·have qjj:(p.kind==1)=false:=by simpa using hk1
       have HLI:Hid (fJ p=p.lits/\bO p=p.dists):=q7 (by unfold fJ bO;rw[if_neg hk1,if_neg hk1];exact⟨rfl,rfl⟩)
       rw[HLI.out.1,HLI.out.2]at qaC;clear hk1 HLI;generalize hn1:p.lits.length=n1 at*;generalize hn2:p.dists.length=n2 at*;clear hn1 hn2;obtain⟨n3,hn3⟩:∃n3,n3=p.ops.length:=⟨_,rfl⟩;rw[<-hn3]at HC5 HWK HPS HPT qa4 qgz;have HN3:=q7 hn3;clear hn3
       go_upto_region 9 with(refine qG rfl 73 _ rfl bl (off+k*5) 5 rfl #[.int .i64 p.kind,.string p.text,.slice oo n3 oc,.slice o1 n1 c1,.slice o2 n2 c2] _ HC5.out rfl Tryz.underlying73 rfl (by kernel_rfl) ?_)
       rw[<-HWK.out]
       go_upto_region 19 with(go_at_call 62;(with_reducible refine HHD.out.mono ?_);rintro e w7 ⟨rfl,hw5⟩;have HW5:=q7 hw5;have q0:w7.cell? ⟨wo.heap.size,0,none⟩=some (.int .i64 p.kind):=(HPS.out _ _ hw5).cell (by simp);have q3:w7.cell? ⟨wo.heap.size,3,none⟩=some (.slice o1 n1 c1):=(HPS.out _ _ hw5).cell (by simp);have q4:w7.cell? ⟨wo.heap.size,4,none⟩=some (.slice o2 n2 c2):=(HPS.out _ _ hw5).cell (by simp);have hq5:=(HPS.out _ _ hw5).blk.2;clear hw5)
       obtain⟨vb5,hv5,hb5,hf5⟩:=HW5.out;have hlB:=hb5.size;have HV7:=q7 hv5;have HF7:=q7 hf5;have qdu:=q7 hb5;have qf9:=qg2.out.trans (hb5.mono hB1);have HT1:=q7 (mC.low (qa4.out _ (qj _ _)).2.1 hv5 hB1 qf9);have HT2:=q7 (mC.low (qa4.out _ (qj _ _)).2.2 hv5 hB1 qf9);clear hv5 hb5 hf5 HW5 q0 q3 q4 hq5 qf9;obtain⟨l1,hl1⟩:∃l1,l1=p.lits:=⟨_,rfl⟩;obtain⟨l2,hl2⟩:∃l2,l2=p.dists:=⟨_,rfl⟩;rw[<-hl1]at HT1;rw[<-hl2]at HT2;rw[<-hl1,<-hl2]at qaC;clear hl1 hl2;obtain⟨ops,q9e⟩:∃ops,ops=p.ops:=⟨_,rfl⟩;rw[<-q9e]at HN3 qaC qa4 HOK;clear q9e;have hn3:=HN3.out;have HTK:Hid (∀j,(hj:j<ops.length)->cC l1 l2 (ops.take (j+1)) (0,s1)=cOp l1 l2 ops[j] (cC l1 l2 (ops.take j) (0,s1))):=q7 (fun j hj=>by rw[List.take_succ_eq_append_getElem hj,nO])
       have HLN:Hid (∀j,j<=ops.length->(cC l1 l2 (ops.take j) (0,s1)).2.2<=800000000):=q7 (fun j hj=>by
        have:=(lA l1 l2 (ops.take j) (0,s1)).2;rw[List.length_take]at this;have h2:min j ops.length<=ops.length:=Nat.min_le_right _ _;have h3:48*min j ops.length<=48*ops.length:=Nat.mul_le_mul_left _ h2;simp only at this;omega)
       have qa2:Hid (∀j,(hj:j<ops.length)->pL ops[j]):=q7 (fun j hj=>HOK.out _ (List.getElem_mem hj))
       have qbN:Hid (∀j,(cC l1 l2 (ops.take j) (0,s1)).1≠0->lJ l1 l2 ops s1=cC l1 l2 (ops.take j) (0,s1)):=q7 (fun j hj=>by
        have e:cC l1 l2 ops (0,s1)=cC l1 l2 (ops.take j) (0,s1):=by
         have e1:cC l1 l2 ops (0,s1)=cC l1 l2 (ops.drop j) (cC l1 l2 (ops.take j) (0,s1)):=by
          unfold cC;rw[<-List.foldl_append,List.take_append_drop]
         rw[e1,kZ hj]
        unfold lJ;rw[e,cD hj])
       have HC0:Hid (cC l1 l2 (ops.take 0) (0,s1)=(0,s1.1,s1.2)):=q7 rfl;have HYE:Hid (∀z,lJ l1 l2 ops s1=z->z.1≠0->y=(z.1,[])):=q7 (fun z h1 h2=>qa7.out z (qaC.out z h1) h2)
       have HYN:Hid (∀N L,lJ l1 l2 ops s1=(0,N,L)->aX l (k+1)=(0,N,L)):=q7 (fun N L h=>q9J.out _ (qaC.out _ h))
       clear HOK qa7 q9J qaC hn3;go_wp2
       go_loopg [12] (n3+1) (fun gk jv wr=>∃(j N' L':Nat) (vb':Value),jv=.int .i64 j/\j<=n3/\Hid (cC l1 l2 (ops.take j) (0,s1)=(0,N',L'))/\aJ wr B g N' L' vb'/\Fr g vb5 vb' w7 wr/\Below B wk wr/\gk=n3+1-j)
       case atStart=>exact⟨0,s1.1,s1.2,vb5,rfl,qc _,HC0,HV7.out,Fr.refl _ _ _,qdu.out,rfl⟩
       case round=>
        clear HV7 qdu HC0;obtain⟨j,N',L',vb',rfl,hj,HJ,hv,hf,hbl,rfl⟩:=hrel;have HV:=q7 hv;have HF:=q7 hf;have HBL:=q7 hbl;have hln:=HLN.out j (by rw[<-HN3.out];exact hj)
        rw[HJ.out]at hln;simp only at hln;have qaG:=hbl.size;have hrs:RSt wk B g vbk (N',L') wr:=⟨vb',hv,hbl,HF7.out.trans hf⟩;have q2:wr.cell? ⟨wo.heap.size,2,none⟩=some (.slice oo n3 oc):=(HPS.out _ _ hrs).cell (by simp)
        have hq:=(HPS.out _ _ hrs).blk.2;have hWw:=qg2.out.trans (hbl.mono hB1);have HWW:=q7 hWw;have HWR:=q7 (q99.out wr ((HWS.out _ _ hrs).bel));have HRS:=q7 hrs;have qk1:B<=wr.heap.size:=by omega
        clear hv hf hbl hrs hWw
        by_cases q9x:j<n3
        ·have qbz:decide (j<n3)=true:=by rw[decide_eq_true_iff];omega
         have hjo:j<ops.length:=by rw[<-HN3.out];exact q9x
         obtain⟨oo',oc',ob',off',hv',hdo,hco⟩:=cP (qa4.out wr HWW.out).1
         obtain⟨rfl,rfl⟩:oo=oo'/\oc=oc':=by
          injection hv' with e1 e2 e3;exact⟨e1,e3⟩
         rw[<-HN3.out]at hdo;have hix:=jy (P:=Tryz.prog) 3 65 64 Tryz.underlying65 (by kernel_rfl) hdo
         have qcS:=fun W kd=>hix W kd (j:Int) (by omega) (by omega)
         simp only[Int.toNat_natCast]at qcS;have hcc:=hco j hjo;have hbo:=hdo.hblk (by omega)
         have q9o:=q7 (HTK.out j hjo);have HQ:=q7 (q6v HV.out (.slice o1 n1 c1) (.slice o2 n2 c2) l1 l2 (HT1.out.next HF.out) (HT2.out.next HF.out) ops[j] (qa2.out j hjo) (by omega))
         have q9y:=q7 (qbN.out (j+1));rw[q9o.out,HJ.out]at q9y;rw[HJ.out]at q9o;unfold q4M at HQ;generalize ops[j]=o at*;obtain⟨ol,on,od⟩:=o;simp only at HQ
         have HC3:Hid (∀c,c<3->wr.cell? ⟨ob',off'+j*3+c,none⟩=some ((#[.int .u8 (ol:Nat),.int .i64 on,.int .i64 od]:Array Value).getD c undef)):=q7 (fun c hc=>by
          rw[hcc c hc]
          match c,hc with
          |0,_=>rfl
          |1,_=>rfl
          |2,_=>rfl)
         generalize cOp l1 l2 ⟨ol,on,od⟩ (0,N',L')=ys at*;obtain⟨ey,sy⟩:=ys;simp only at HQ q9y;clear hco hix hdo hv' hcc HTK HLN qa2 qbN HT1 HT2
         by_cases hey:ey=0
         ·subst hey
          go_wp2_with(first
           |(refine qG rfl 64 _ rfl ob' (off'+j*3) 3 rfl #[.int .u8 (ol:Nat),.int .i64 on,.int .i64 od] _ HC3.out rfl Tryz.underlying64 rfl (by kernel_rfl) ?_)
           |(go_at_call 66;(with_reducible refine HQ.out.mono ?_);rintro e w8 ⟨rfl,N8,L8,vb8,hq1,hq2,hq3,hq4⟩;have HR1:=q7 hq1;have HR2:=q7 hq2;have HR3:=q7 hq3;have HR4:=q7 hq4;clear hq1 hq2 hq3 hq4))
          go_roundg (n3+1-(j+1))
          case measure=>omega
          case rel=>exact⟨j+1,N8,L8,vb8,by go_num,by omega,q7 (by rw[q9o.out,HR2.out (by trivial)]),HR1.out,HF.out.trans HR4.out,HBL.out.trans HR3.out,rfl⟩
         ·have qjH:((ey:Int) != 0)=true:=by simpa using hey
          have HE:=q7 (HYE.out _ (q9y.out hey) hey);clear hey q9y q9o
          go_wp2_with(first
           |(refine qG rfl 64 _ rfl ob' (off'+j*3) 3 rfl #[.int .u8 (ol:Nat),.int .i64 on,.int .i64 od] _ HC3.out rfl Tryz.underlying64 rfl (by kernel_rfl) ?_)
           |(go_at_call 66;(with_reducible refine HQ.out.mono ?_);rintro e w8 ⟨rfl,N8,L8,vb8,hq1,hq2,hq3,hq4⟩;have HR3:=q7 hq3;clear hq1 hq2 hq3 hq4))
          go_ret2
          exact⟨by rw[HE.out];rfl,qt (HWW.out.trans (HR3.out.mono (by omega)))⟩
        ·obtain rfl:j=n3:=by omega
         have qbz:decide (j<j)=false:=by simp
         have HX:=q7 (nJ (.slice o1 n1 c1) l1 256 (HT1.out.next HF.out wr vb' (Fr.refl _ _ _)) (HT1.out.next HF.out) HV.out (by omega))
         unfold M2 at HX
         have HCA:Hid (lJ l1 l2 ops s1=gB l1 256 0 0 (0,N',L')):=q7 (by
          have h2:=HJ.out;rw[HN3.out,List.take_length]at h2;unfold lJ;rw[h2])
         have HCP:Hid ((gK l1 256=0->lJ l1 l2 ops s1=(0,fG l1 256 (N',L')))/\(gK l1 256≠0->lJ l1 l2 ops s1=(gK l1 256,N',L'))):=q7 (by
          rw[HCA.out];unfold gB;rw[if_neg (fun h=>h rfl)]
          constructor
          ·intro h
           rw[if_neg (by omega)]
           simp only[Nat.zero_mul,Nat.add_zero]
          ·intro h
           rw[if_pos h])
         clear q9x HTK HLN qa2 qbN HT1 HT2 HCA HV;generalize fG l1 256 (N',L')=nl at*;obtain⟨N9,L9⟩:=nl;generalize gK l1 256=q at*
         by_cases hq0:q=0
         ·subst hq0
          have HK1:=q7 (HYN.out _ _ (HCP.out.1 rfl))
          go_wp2_with(go_at_call 67;(with_reducible refine HX.out.mono ?_);rintro e w8 ⟨rfl,vb8,hq1,hq2,hq3⟩;have HR1:=q7 hq1;have HR2:=q7 hq2;have HR3:=q7 hq3;clear hq1 hq2 hq3)
          go_roundg (l.length+1-(k+1))
          case measure=>omega
          case rel=>exact⟨k+1,by go_num,by omega,by rw[HK1.out],by rw[HK1.out];exact HWS.out _ _ ⟨vb8,HR1.out,HBL.out.trans HR2.out,(HF7.out.trans HF.out).trans HR3.out⟩,rfl⟩
         ·have hqi:((q:Int) != 0)=true:=by simpa using hq0
          have HE:=q7 (HYE.out _ (HCP.out.2 hq0) hq0);clear hq0 HCP
          go_wp2_with(go_at_call 67;(with_reducible refine HX.out.mono ?_);rintro e w8 ⟨rfl,vb8,hq1,hq2,hq3⟩;have HR2:=q7 hq2;clear hq1 hq2 hq3)
          go_ret2
          exact⟨by rw[HE.out];rfl,qt (HWW.out.trans (HR2.out.mono (by omega)))⟩
    ·have qjb:((m:Int) != 0)=true:=by simpa using hm0
     have HE:Hid (y=(m,[])):=q7 (qa7.out (m,st) (by unfold tQ;rw[<-HMM.out,if_pos hm0]) hm0)
     clear hm0 qa7 q9J HMM HOK qa4;generalize decide (k+1=l.length)=fl at*;generalize p.lits.length=n1 at*;generalize p.dists.length=n2 at*;generalize p.ops.length=n3 at*
     go_upto_region 9 with(refine qG rfl 73 _ rfl bl (off+k*5) 5 rfl #[.int .i64 p.kind,.string p.text,.slice oo n3 oc,.slice o1 n1 c1,.slice o2 n2 c2] _ HC5.out rfl Tryz.underlying73 rfl (by kernel_rfl) ?_)
     rw[<-HWK.out]
     go_wp2_with(go_at_call 62;(with_reducible refine HHD.out.mono ?_);rintro e w5 ⟨rfl,hw5⟩;have HW5:=q7 hw5;clear hw5)
     go_ret2
     exact⟨by rw[HE.out];rfl,qt (q99.out _ (HWS.out _ _ HW5.out).bel)⟩
   ·obtain rfl:k=l.length:=by omega
    obtain⟨vbk,hvr,hbr,hfr⟩:=HS.out;have HTX:=q7 (q7H hvr.p (by omega))
    have HE:Hid (y=(0,fI (aX l l.length).2.1 (aX l l.length).2.2)):=q7 (by rw[HYA.out,if_neg (by have:=HK0.out;omega)])
    have HBW:=q7 (q99.out _ hbr);clear hlt hvr hbr hfr HYA;generalize fI (aX l l.length).2.1 (aX l l.length).2.2=tn at*
    go_wp2_with(go_at_call 68;(with_reducible refine HTX.out.mono ?_);rintro e w5 ⟨rfl,hb5⟩;have HB5:=q7 hb5;clear hb5)
    go_ret2
    exact⟨by rw[HE.out];rfl,qt (HBW.out.trans (HB5.out.mono HBW.out.size))⟩
 ·have hei:((er:Int) != 0)=true:=by simpa using her
  have HE:Hid (y=(er,[])):=q7 (by rw[HY.out,if_pos her])
  clear her HY
  go_enter Tryz.func29,Tryz.ntmps29
  go_wp2_with(go_at_call 30;(with_reducible refine HT.out.mono ?_);rintro e w1 ⟨rfl,x1,rfl⟩)
  go_ret2
  exact⟨by rw[HE.out];rfl,(qt (by repeat(first|exact qj _ _|assumption|refine qw ?_ _|refine qk ?_|refine qA ?_ _|refine qs ?_ _)))⟩
theorem q6F(m:Nat):[Value.int .u8 ((m:Int)%256)]=qD [UInt8.ofNat (m%256)]:=by
 simp only[qD,List.map_cons,List.map_nil,bV];rw[show((m%256:Nat):Int)=(m:Int)%256 by omega]
theorem q40{n W:Nat}(hW:W=1\/W=2\/W=4)(hn:n<256^W)(w:World):Calls Tryz.prog 31 #[.int .i64 n,.int .i64 W] w fun e w'=>e=.returned (.tuple #[.string ⟨(leB n W).toArray⟩,.int .i64 0])/\∃x,w'=ext w x:=by
 have HW:=q7 (fun w=>q4Y hW w)
 have h4:W<=4:=by omega
 have hnb:(n:Int)<4294967296:=by
  have:256^W<=256^4:=qe (by decide) h4
  omega
 obtain⟨R,hR⟩:∃R,R=leB n W:=⟨_,rfl⟩;rw[<-hR];have HR:=q7 (⟨hR,hn⟩:R=leB n W/\n<256^W);have h1:decide ((n:Int)<0)=false:=by rw[qm];omega
 clear hR hn hW
 go_enter Tryz.func31,Tryz.ntmps31
 go_wp2_with((with_reducible go_at_call 70);refine(HW.out _).mono ?_;rintro en w2 ⟨rfl,x2,rfl⟩)
 go_loopg [0,6,7] W (fun gk nv vo iv wr=>∃(i m:Nat) (D:qK),i<=W/\iv=.int .i64 i/\nv=.int .i64 m/\m<4294967296/\Hid (Own wr w.heap.size 5 vo (qD D))/\Hid (D.length=i/\R=D++leB m (W-i)/\m<256^(W-i))/\gk=W-i/\Hid (Below w.heap.size w wr))
 case atStart=>exact⟨0,n,[],qc _,rfl,rfl,by omega,q7 (Own.nil _ _ _),q7 ⟨rfl,HR.out.1,HR.out.2⟩,rfl,q7 (qu w x2)⟩
 case round=>
  obtain⟨i,m,D,hi,rfl,rfl,hm,HO,HD,rfl,HB⟩:=hrel
  by_cases h2:i<W
  ·have h2i:(i:Int)<(W:Int):=by omega
   obtain⟨q,hq⟩:∃q,W-i=q+1:=⟨W-i-1,by omega⟩
   have hq2:W-(i+1)=q:=by omega
   have HX0:Hid (Sl (wr.alloc (.cells #[.int .u8 ((m:Int)%256)] 5)) (.slice (some ⟨wr.heap.size,0,none⟩) 1 1) (qD [UInt8.ofNat (m%256)])):=q7 (by rw[<-q6F];simpa using eJ wr #[.int .u8 ((m:Int)%256)] 5 (by simp))
   have HT1:=q7 (HO.out.up (qn wr (.cells #[.int .u8 ((m:Int)%256)] 5)));have HT2:=q7 (gC [UInt8.ofNat (m%256)]);have HT3:Hid ((qD D).length+(qD [UInt8.ofNat (m%256)]).length<=4294967296):=q7 (by rw[qz,qz,HD.out.1,List.length_singleton];omega)
   have HT4:Hid (w.heap.size<=(wr.alloc (.cells #[.int .u8 ((m:Int)%256)] 5)).heap.size):=q7 (qa HB.out.size (by simp))
   have HB2:=q7 (HB.out.trans ((qn wr (.cells #[.int .u8 ((m:Int)%256)] 5)).mono HB.out.size))
   go_wp2_with(at_builtin;refine jt rfl (.tmp 20) (.tmp 24) 49 rfl w.heap.size 5 (.int .u8 0) 1 Tryz.underlying49 (by kernel_rfl) rfl (by decide) u6 (qD D) rfl HT1.out (.slice (some ⟨wr.heap.size,0,none⟩) 1 1) (qD [UInt8.ofNat (m%256)]) rfl HX0.out HT2.out HT3.out HT4.out ?_;intro v' w5 hown1 hg1 hk1;rw[<-jC]at hown1;have HO1:=q7 hown1;have HB5:=q7 (jL HB2.out HT4.out HT1.out hg1);clear hown1 hg1 hk1)
   go_roundg (W-(i+1))
   case measure=>omega
   case rel=>exact⟨i+1,m/256,D++[UInt8.ofNat (m%256)],by omega,by congr 1,by congr 1,by omega,HO1,q7 ⟨by rw[qg,HD.out.1];rfl,by rw[HD.out.2.1,hq,hq2];simp[leB],by have:=HD.out.2.2;rw[hq,Nat.pow_succ]at this;rw[hq2];omega⟩,rfl,HB5⟩
  ·have h2i:decide ((i:Int)<(W:Int))=false:=by rw[qm];omega
   have hm0:m=0:=by
    have:=HD.out.2.2;rw[show W-i=0 by omega]at this;simpa using this
   subst hm0;have hRD:R=D:=by have:=HD.out.2.1;rw[show W-i=0 by omega]at this;simpa[leB]using this
   have hcv:=j7 (P:=Tryz.prog) wr 49 9 5 Tryz.underlying49 Tryz.underlying5 Tryz.underlying9 u6 D HO.out.sl;rw[<-hRD]at hcv;go_wp2
   go_ret2
   exact⟨by rw[hRD];rfl,qt HB.out⟩
theorem q6K{s:ByteArray}(hs:s.size<=4611686018427387904)(w:World):Calls Tryz.prog 107 #[.string s] w fun e w'=>e=.returned (.bool (no0 (bys s)))/\w'=w:=by
 have HIX:=q7 (fun(i:Nat) (h:i<s.size) (W:World)=>jS (P:=Tryz.prog) 9 Tryz.underlying9 h W)
 have HL:=q7 (qF s);obtain⟨R,hR⟩:∃R,R=no0 (bys s):=⟨_,rfl⟩;rw[<-hR];have HR:=q7 hR;clear hR;generalize bys s=t at*
 go_enter Tryz.func107,Tryz.ntmps107
 go_wp2
 go_loopg [3] s.size (fun gk iv wr=>∃(i:Nat),i<=s.size/\iv=.int .i64 i/\Hid (no0 (t.take i)=true)/\gk=s.size-i/\wr=w)
 case atStart=>exact⟨0,qc _,rfl,q7 rfl,rfl,rfl⟩
 case round=>
  obtain⟨i,hi,rfl,hn,rfl,rfl⟩:=hrel
  by_cases h1:i<s.size
  ·have h1i:(i:Int)<(s.size:Nat):=by omega
   have hix:=HIX.out i h1;have htk:=P0 (l:=t) (i:=i) (by rw[HL.out];exact h1)
   rw[hn.out,Bool.true_and]at htk
   by_cases h2:t.getD i 0=0
   ·have hz:R=false:=by rw[HR.out];exact zT (by rw[HL.out];exact h1) h2
    rw[h2]at hix;simp only[show((UInt8.toNat 0:Nat):Int)=0 from rfl]at hix
    have HZ:=q7 hz;clear htk HIX hz;go_wp2;go_ret
    exact⟨by rw[HZ.out];rfl,rfl⟩
   ·have hne:=rQ h2
    simp only[show((UInt8.toNat 0:Nat):Int)=0 from rfl]at hne
    have HT:Hid (no0 (t.take (i+1))=true):=q7 (by rw[htk];simpa using h2)
    generalize (t.getD i 0).toNat=y at*;clear htk HIX h2;go_wp2
    go_roundg (s.size-(i+1))
    case measure=>omega
    case rel=>exact⟨i+1,by omega,by congr 1,HT,rfl,rfl⟩
  ·have h1i:decide ((i:Int)<(s.size:Nat))=false:=by rw[qm];omega
   have HZ:Hid (R=true):=q7 (by rw[HR.out,<-hn.out,List.take_of_length_le (by rw[HL.out];omega)])
   go_wp2;go_ret
   exact⟨by rw[HZ.out];rfl,rfl⟩
theorem q2Z{h:GH}(hok:X9 h)(hs:h.name.size<=4611686018427387904/\h.note.size<=4611686018427387904)(w:World):Calls Tryz.prog 59 #[.agg (ghC h)] w fun e w'=>e=.returned (.bool (jG h))/\∃x,w'=ext w x:=by
 have hr:jG h=(fC h.flags&&iU h.time 4294967295&&iU h.level 255&&iU h.os 255&&(jF h.flags 4||h.extra.toList.isEmpty)&&(jF h.flags 8||h.name.toList.isEmpty)&&(jF h.flags 16||h.note.toList.isEmpty)&&decide (h.extra.size<=65535)&&no0 (bys h.name)&&no0 (bys h.note)):=rfl;have H4:=q7 (fun W=>q6K hs.1 W)
 have H5:=q7 (fun W=>q6K hs.2 W)
 obtain⟨tm,ex,nm,nt,lv,os,tx,sm,fl⟩:=h;simp only at*;have HH:Hid (∀b:Int,0<=fl->fl<=28->1<=b/\b<=256->∀W,Calls Tryz.prog 61 #[.int .i64 fl,.int .i64 b] W fun e w'=>e=.returned (.bool (jF fl b))/\w'=W):=q7 (fun b h1 h2 hb W=>zU ⟨h1,by omega⟩ hb W)
 have hfl:=hok.flags;have htm:=hok.time;have hlv:=hok.level;have hos:=hok.os;simp only at hfl htm hlv hos;generalize jG ⟨tm,ex,nm,nt,lv,os,tx,sm,fl⟩=R at*;have HR:=q7 hr;clear hr hok hs;generalize hz4:ex.toList.isEmpty=z4 at*;generalize hz8:nm.toList.isEmpty=z8 at*;generalize qiJ:nt.toList.isEmpty=z16 at*;generalize no0 (bys nm)=e1 at*;generalize no0 (bys nt)=e2 at*;unfold ghC;simp only
 by_cases g1:tm<0
 ·have hff:iU tm 4294967295=false:=by unfold iU;simp;omega
  have q93:R=false:=by rw[HR.out,hff];simp
  have HB:=q7 q93;clear q93
  go_enter Tryz.func59,Tryz.ntmps59
  go_wp2;go_ret
  exact⟨by rw[HB.out];rfl,(qt (by repeat(first|exact qj _ _|assumption|refine qw ?_ _|refine qk ?_|refine qA ?_ _|refine qs ?_ _)))⟩
 ·have n1:decide (tm<0)=false:=decide_eq_false g1
  by_cases g2:4294967295<tm
  ·have hff:iU tm 4294967295=false:=by unfold iU;simp;omega
   have q93:R=false:=by rw[HR.out,hff];simp
   have HB:=q7 q93;clear q93
   go_enter Tryz.func59,Tryz.ntmps59
   go_wp2;go_ret
   exact⟨by rw[HB.out];rfl,(qt (by repeat(first|exact qj _ _|assumption|refine qw ?_ _|refine qk ?_|refine qA ?_ _|refine qs ?_ _)))⟩
  ·have n2:decide (4294967295<tm)=false:=decide_eq_false g2
   by_cases g3:lv<0
   ·have hff:iU lv 255=false:=by unfold iU;simp;omega
    have q93:R=false:=by rw[HR.out,hff];simp
    have HB:=q7 q93;clear q93
    go_enter Tryz.func59,Tryz.ntmps59
    go_wp2;go_ret
    exact⟨by rw[HB.out];rfl,(qt (by repeat(first|exact qj _ _|assumption|refine qw ?_ _|refine qk ?_|refine qA ?_ _|refine qs ?_ _)))⟩
   ·have n3:decide (lv<0)=false:=decide_eq_false g3
    by_cases g4:255<lv
    ·have hff:iU lv 255=false:=by unfold iU;simp;omega
     have q93:R=false:=by rw[HR.out,hff];simp
     have HB:=q7 q93;clear q93
     go_enter Tryz.func59,Tryz.ntmps59
     go_wp2;go_ret
     exact⟨by rw[HB.out];rfl,(qt (by repeat(first|exact qj _ _|assumption|refine qw ?_ _|refine qk ?_|refine qA ?_ _|refine qs ?_ _)))⟩
    ·have n4:decide (255<lv)=false:=decide_eq_false g4
     by_cases g5:os<0
     ·have hff:iU os 255=false:=by unfold iU;simp;omega
      have q93:R=false:=by rw[HR.out,hff];simp
      have HB:=q7 q93;clear q93
      go_enter Tryz.func59,Tryz.ntmps59
      go_wp2;go_ret
      exact⟨by rw[HB.out];rfl,(qt (by repeat(first|exact qj _ _|assumption|refine qw ?_ _|refine qk ?_|refine qA ?_ _|refine qs ?_ _)))⟩
     ·have n5:decide (os<0)=false:=decide_eq_false g5
      by_cases g6:255<os
      ·have hff:iU os 255=false:=by unfold iU;simp;omega
       have q93:R=false:=by rw[HR.out,hff];simp
       have HB:=q7 q93;clear q93
       go_enter Tryz.func59,Tryz.ntmps59
       go_wp2;go_ret
       exact⟨by rw[HB.out];rfl,(qt (by repeat(first|exact qj _ _|assumption|refine qw ?_ _|refine qk ?_|refine qA ?_ _|refine qs ?_ _)))⟩
      ·have n6:decide (255<os)=false:=decide_eq_false g6
       by_cases g7:fl<0
       ·have hff:fC fl=false:=by unfold fC;simp;omega
        have q93:R=false:=by rw[HR.out,hff];simp
        have HB:=q7 q93;clear q93
        go_enter Tryz.func59,Tryz.ntmps59
        go_wp2;go_ret
        exact⟨by rw[HB.out];rfl,(qt (by repeat(first|exact qj _ _|assumption|refine qw ?_ _|refine qk ?_|refine qA ?_ _|refine qs ?_ _)))⟩
       ·have n7:decide (fl<0)=false:=decide_eq_false g7
        have hf0:0<=fl:=by omega
        by_cases g8:28<fl
        ·have hff:fC fl=false:=by unfold fC;simp;omega
         have q93:R=false:=by rw[HR.out,hff];simp
         have HB:=q7 q93;clear q93
         go_enter Tryz.func59,Tryz.ntmps59
         go_wp2;go_ret
         exact⟨by rw[HB.out];rfl,(qt (by repeat(first|exact qj _ _|assumption|refine qw ?_ _|refine qk ?_|refine qA ?_ _|refine qs ?_ _)))⟩
        ·have n8:decide (28<fl)=false:=decide_eq_false g8
         have hf1:fl<=28:=by omega
         by_cases g9:fl%4=0
         ·have n9:(fl%4 != 0)=false:=by simp[g9]
          have ht:fl.tmod 4=fl%4:=Int.tmod_eq_emod_of_nonneg hf0;have e0:fC fl=true:=by simp[fC,hf0,hf1,g9]
          have e5:iU tm 4294967295=true:=by simp[iU];omega
          have e6:iU lv 255=true:=by simp[iU];omega
          have e7:iU os 255=true:=by simp[iU];omega
          have hR2:=HR.out;rw[e0,e5,e6,e7]at hR2;simp only[Bool.true_and]at hR2;have HR2:=q7 hR2;clear hR2 HR e0 e5 e6 e7;have HA:=q7 (HH.out 4 hf0 hf1 (by decide))
          have HB8:=q7 (HH.out 8 hf0 hf1 (by decide))
          have HC:=q7 (HH.out 16 hf0 hf1 (by decide))
          clear HH;generalize jF fl 4=b4 at*;generalize jF fl 8=b8 at*;generalize jF fl 16=b16 at*;have hex:decide ((ex.size:Int)>65535)= !decide (ex.size<=65535):=by rw[Bool.eq_iff_iff];simp only[decide_eq_true_eq,Bool.not_eq_true',qm];omega
          generalize decide (ex.size<=65535)=le at*
          cases le
          ·go_enter Tryz.func59,Tryz.ntmps59
           go_wp2_with(first
            |((with_reducible go_at_call 61);first|((with_reducible refine(HA.out _).mono ?_);rintro en w2 ⟨rfl,hx⟩;rw[hx];clear hx)|((with_reducible refine(HB8.out _).mono ?_);rintro en w2 ⟨rfl,hx⟩;rw[hx];clear hx)|((with_reducible refine(HC.out _).mono ?_);rintro en w2 ⟨rfl,hx⟩;rw[hx];clear hx))
            |((with_reducible go_at_call 107);first|((with_reducible refine(H4.out _).mono ?_);rintro en w2 ⟨rfl,hx⟩;rw[hx];clear hx)|((with_reducible refine(H5.out _).mono ?_);rintro en w2 ⟨rfl,hx⟩;rw[hx];clear hx)))
           all_goals
            go_ret
            exact⟨by rw[HR2.out];simp[*],(qt (by repeat(first|exact qj _ _|assumption|refine qw ?_ _|refine qk ?_|refine qA ?_ _|refine qs ?_ _)))⟩
          ·cases b4
           ·cases z4
            ·go_enter Tryz.func59,Tryz.ntmps59
             go_wp2_with(first
              |((with_reducible go_at_call 61);first|((with_reducible refine(HA.out _).mono ?_);rintro en w2 ⟨rfl,hx⟩;rw[hx];clear hx)|((with_reducible refine(HB8.out _).mono ?_);rintro en w2 ⟨rfl,hx⟩;rw[hx];clear hx)|((with_reducible refine(HC.out _).mono ?_);rintro en w2 ⟨rfl,hx⟩;rw[hx];clear hx))
              |((with_reducible go_at_call 107);first|((with_reducible refine(H4.out _).mono ?_);rintro en w2 ⟨rfl,hx⟩;rw[hx];clear hx)|((with_reducible refine(H5.out _).mono ?_);rintro en w2 ⟨rfl,hx⟩;rw[hx];clear hx)))
             all_goals
              go_ret
              exact⟨by rw[HR2.out];simp[*],(qt (by repeat(first|exact qj _ _|assumption|refine qw ?_ _|refine qk ?_|refine qA ?_ _|refine qs ?_ _)))⟩
            ·cases e1
             ·go_enter Tryz.func59,Tryz.ntmps59
              go_wp2_with(first
               |((with_reducible go_at_call 61);first|((with_reducible refine(HA.out _).mono ?_);rintro en w2 ⟨rfl,hx⟩;rw[hx];clear hx)|((with_reducible refine(HB8.out _).mono ?_);rintro en w2 ⟨rfl,hx⟩;rw[hx];clear hx)|((with_reducible refine(HC.out _).mono ?_);rintro en w2 ⟨rfl,hx⟩;rw[hx];clear hx))
               |((with_reducible go_at_call 107);first|((with_reducible refine(H4.out _).mono ?_);rintro en w2 ⟨rfl,hx⟩;rw[hx];clear hx)|((with_reducible refine(H5.out _).mono ?_);rintro en w2 ⟨rfl,hx⟩;rw[hx];clear hx)))
              all_goals
               go_ret
               exact⟨by rw[HR2.out];simp[*],(qt (by repeat(first|exact qj _ _|assumption|refine qw ?_ _|refine qk ?_|refine qA ?_ _|refine qs ?_ _)))⟩
             ·cases e2
              ·go_enter Tryz.func59,Tryz.ntmps59
               go_wp2_with(first
                |((with_reducible go_at_call 61);first|((with_reducible refine(HA.out _).mono ?_);rintro en w2 ⟨rfl,hx⟩;rw[hx];clear hx)|((with_reducible refine(HB8.out _).mono ?_);rintro en w2 ⟨rfl,hx⟩;rw[hx];clear hx)|((with_reducible refine(HC.out _).mono ?_);rintro en w2 ⟨rfl,hx⟩;rw[hx];clear hx))
                |((with_reducible go_at_call 107);first|((with_reducible refine(H4.out _).mono ?_);rintro en w2 ⟨rfl,hx⟩;rw[hx];clear hx)|((with_reducible refine(H5.out _).mono ?_);rintro en w2 ⟨rfl,hx⟩;rw[hx];clear hx)))
               all_goals
                go_ret
                exact⟨by rw[HR2.out];simp[*],(qt (by repeat(first|exact qj _ _|assumption|refine qw ?_ _|refine qk ?_|refine qA ?_ _|refine qs ?_ _)))⟩
              ·cases b8
               ·cases z8
                ·go_enter Tryz.func59,Tryz.ntmps59
                 go_wp2_with(first
                  |((with_reducible go_at_call 61);first|((with_reducible refine(HA.out _).mono ?_);rintro en w2 ⟨rfl,hx⟩;rw[hx];clear hx)|((with_reducible refine(HB8.out _).mono ?_);rintro en w2 ⟨rfl,hx⟩;rw[hx];clear hx)|((with_reducible refine(HC.out _).mono ?_);rintro en w2 ⟨rfl,hx⟩;rw[hx];clear hx))
                  |((with_reducible go_at_call 107);first|((with_reducible refine(H4.out _).mono ?_);rintro en w2 ⟨rfl,hx⟩;rw[hx];clear hx)|((with_reducible refine(H5.out _).mono ?_);rintro en w2 ⟨rfl,hx⟩;rw[hx];clear hx)))
                 all_goals
                  go_ret
                  exact⟨by rw[HR2.out];simp[*],(qt (by repeat(first|exact qj _ _|assumption|refine qw ?_ _|refine qk ?_|refine qA ?_ _|refine qs ?_ _)))⟩
                ·go_enter Tryz.func59,Tryz.ntmps59
                 go_wp2_with(first
                  |((with_reducible go_at_call 61);first|((with_reducible refine(HA.out _).mono ?_);rintro en w2 ⟨rfl,hx⟩;rw[hx];clear hx)|((with_reducible refine(HB8.out _).mono ?_);rintro en w2 ⟨rfl,hx⟩;rw[hx];clear hx)|((with_reducible refine(HC.out _).mono ?_);rintro en w2 ⟨rfl,hx⟩;rw[hx];clear hx))
                  |((with_reducible go_at_call 107);first|((with_reducible refine(H4.out _).mono ?_);rintro en w2 ⟨rfl,hx⟩;rw[hx];clear hx)|((with_reducible refine(H5.out _).mono ?_);rintro en w2 ⟨rfl,hx⟩;rw[hx];clear hx)))
                 all_goals
                  go_ret
                  exact⟨by rw[HR2.out];simp[*],(qt (by repeat(first|exact qj _ _|assumption|refine qw ?_ _|refine qk ?_|refine qA ?_ _|refine qs ?_ _)))⟩
               ·go_enter Tryz.func59,Tryz.ntmps59
                go_wp2_with(first
                 |((with_reducible go_at_call 61);first|((with_reducible refine(HA.out _).mono ?_);rintro en w2 ⟨rfl,hx⟩;rw[hx];clear hx)|((with_reducible refine(HB8.out _).mono ?_);rintro en w2 ⟨rfl,hx⟩;rw[hx];clear hx)|((with_reducible refine(HC.out _).mono ?_);rintro en w2 ⟨rfl,hx⟩;rw[hx];clear hx))
                 |((with_reducible go_at_call 107);first|((with_reducible refine(H4.out _).mono ?_);rintro en w2 ⟨rfl,hx⟩;rw[hx];clear hx)|((with_reducible refine(H5.out _).mono ?_);rintro en w2 ⟨rfl,hx⟩;rw[hx];clear hx)))
                all_goals
                 go_ret
                 exact⟨by rw[HR2.out];simp[*],(qt (by repeat(first|exact qj _ _|assumption|refine qw ?_ _|refine qk ?_|refine qA ?_ _|refine qs ?_ _)))⟩
           ·cases e1
            ·go_enter Tryz.func59,Tryz.ntmps59
             go_wp2_with(first
              |((with_reducible go_at_call 61);first|((with_reducible refine(HA.out _).mono ?_);rintro en w2 ⟨rfl,hx⟩;rw[hx];clear hx)|((with_reducible refine(HB8.out _).mono ?_);rintro en w2 ⟨rfl,hx⟩;rw[hx];clear hx)|((with_reducible refine(HC.out _).mono ?_);rintro en w2 ⟨rfl,hx⟩;rw[hx];clear hx))
              |((with_reducible go_at_call 107);first|((with_reducible refine(H4.out _).mono ?_);rintro en w2 ⟨rfl,hx⟩;rw[hx];clear hx)|((with_reducible refine(H5.out _).mono ?_);rintro en w2 ⟨rfl,hx⟩;rw[hx];clear hx)))
             all_goals
              go_ret
              exact⟨by rw[HR2.out];simp[*],(qt (by repeat(first|exact qj _ _|assumption|refine qw ?_ _|refine qk ?_|refine qA ?_ _|refine qs ?_ _)))⟩
            ·cases e2
             ·go_enter Tryz.func59,Tryz.ntmps59
              go_wp2_with(first
               |((with_reducible go_at_call 61);first|((with_reducible refine(HA.out _).mono ?_);rintro en w2 ⟨rfl,hx⟩;rw[hx];clear hx)|((with_reducible refine(HB8.out _).mono ?_);rintro en w2 ⟨rfl,hx⟩;rw[hx];clear hx)|((with_reducible refine(HC.out _).mono ?_);rintro en w2 ⟨rfl,hx⟩;rw[hx];clear hx))
               |((with_reducible go_at_call 107);first|((with_reducible refine(H4.out _).mono ?_);rintro en w2 ⟨rfl,hx⟩;rw[hx];clear hx)|((with_reducible refine(H5.out _).mono ?_);rintro en w2 ⟨rfl,hx⟩;rw[hx];clear hx)))
              all_goals
               go_ret
               exact⟨by rw[HR2.out];simp[*],(qt (by repeat(first|exact qj _ _|assumption|refine qw ?_ _|refine qk ?_|refine qA ?_ _|refine qs ?_ _)))⟩
             ·cases b8
              ·cases z8
               ·go_enter Tryz.func59,Tryz.ntmps59
                go_wp2_with(first
                 |((with_reducible go_at_call 61);first|((with_reducible refine(HA.out _).mono ?_);rintro en w2 ⟨rfl,hx⟩;rw[hx];clear hx)|((with_reducible refine(HB8.out _).mono ?_);rintro en w2 ⟨rfl,hx⟩;rw[hx];clear hx)|((with_reducible refine(HC.out _).mono ?_);rintro en w2 ⟨rfl,hx⟩;rw[hx];clear hx))
                 |((with_reducible go_at_call 107);first|((with_reducible refine(H4.out _).mono ?_);rintro en w2 ⟨rfl,hx⟩;rw[hx];clear hx)|((with_reducible refine(H5.out _).mono ?_);rintro en w2 ⟨rfl,hx⟩;rw[hx];clear hx)))
                all_goals
                 go_ret
                 exact⟨by rw[HR2.out];simp[*],(qt (by repeat(first|exact qj _ _|assumption|refine qw ?_ _|refine qk ?_|refine qA ?_ _|refine qs ?_ _)))⟩
               ·go_enter Tryz.func59,Tryz.ntmps59
                go_wp2_with(first
                 |((with_reducible go_at_call 61);first|((with_reducible refine(HA.out _).mono ?_);rintro en w2 ⟨rfl,hx⟩;rw[hx];clear hx)|((with_reducible refine(HB8.out _).mono ?_);rintro en w2 ⟨rfl,hx⟩;rw[hx];clear hx)|((with_reducible refine(HC.out _).mono ?_);rintro en w2 ⟨rfl,hx⟩;rw[hx];clear hx))
                 |((with_reducible go_at_call 107);first|((with_reducible refine(H4.out _).mono ?_);rintro en w2 ⟨rfl,hx⟩;rw[hx];clear hx)|((with_reducible refine(H5.out _).mono ?_);rintro en w2 ⟨rfl,hx⟩;rw[hx];clear hx)))
                all_goals
                 go_ret
                 exact⟨by rw[HR2.out];simp[*],(qt (by repeat(first|exact qj _ _|assumption|refine qw ?_ _|refine qk ?_|refine qA ?_ _|refine qs ?_ _)))⟩
              ·go_enter Tryz.func59,Tryz.ntmps59
               go_wp2_with(first
                |((with_reducible go_at_call 61);first|((with_reducible refine(HA.out _).mono ?_);rintro en w2 ⟨rfl,hx⟩;rw[hx];clear hx)|((with_reducible refine(HB8.out _).mono ?_);rintro en w2 ⟨rfl,hx⟩;rw[hx];clear hx)|((with_reducible refine(HC.out _).mono ?_);rintro en w2 ⟨rfl,hx⟩;rw[hx];clear hx))
                |((with_reducible go_at_call 107);first|((with_reducible refine(H4.out _).mono ?_);rintro en w2 ⟨rfl,hx⟩;rw[hx];clear hx)|((with_reducible refine(H5.out _).mono ?_);rintro en w2 ⟨rfl,hx⟩;rw[hx];clear hx)))
               all_goals
                go_ret
                exact⟨by rw[HR2.out];simp[*],(qt (by repeat(first|exact qj _ _|assumption|refine qw ?_ _|refine qk ?_|refine qA ?_ _|refine qs ?_ _)))⟩
         ·have n9:(fl%4 != 0)=true:=by simp[g9]
          have ht:fl.tmod 4=fl%4:=Int.tmod_eq_emod_of_nonneg hf0;have hff:fC fl=false:=by simp[fC,g9]
          have q93:R=false:=by rw[HR.out,hff];simp
          have HB:=q7 q93;clear q93
          go_enter Tryz.func59,Tryz.ntmps59
          go_wp2;go_ret
          exact⟨by rw[HB.out];rfl,(qt (by repeat(first|exact qj _ _|assumption|refine qw ?_ _|refine qk ?_|refine qA ?_ _|refine qs ?_ _)))⟩
end Go.Cm
namespace Go.Cm
open Go.RowKit Go.Proofs Go.WideShapes Go.ChangeShapes Go.Deep
section
variable {H : Type} {enc : TypeId × Value → H} {w : World} {base : Nat} {held : Bool}
theorem X4{v:Value}{x:DataW H}{p:List MemPlace}{r:Reach}{b0:Nat}(hv:Value.okWide Tryz.prog w r b0 24 v)(h:DataW.Trod enc Tryz.prog w base (fun _=>true) held 24 v x p)(hw:∀n∈x.weights Tryz.prog 24,n<=reachBytes):
  ∃l,js w v l/\(∀p∈l,yT p)/\∀p∈l,∀o∈p.ops,pL o:=by
 obtain⟨a0,len0,cap0,rfl⟩:=okWide_slice Tryz.underlying24 hv;obtain⟨fuel,hf⟩:=h;have c5:Tryz.prog.cellsOf 73=5:=by kernel_rfl
 have b5:Tryz.prog.bytesOf 73=96:=by kernel_rfl
 obtain⟨oa,len,cap,b,off,C,D,hcs,hd,hx⟩:=yA 5 (by decide) Tryz.underlying24 c5 (by rw[b5];decide) hf hw
 have hN:∀i,i<len->∃z:PtN,fW w (C i) z/\yT z/\∀o∈z.ops,pL o:=fun i hi=>by
  obtain⟨hl,-,⟨n,p,h2⟩,h3⟩:=hx i hi
  exact D8 h2 hl h3
 obtain⟨Z,hZ⟩:=choose_lt hN
 have qjK:Value.slice a0 len0 cap0=.slice oa len cap:=by
  have:[Value.slice a0 len0 cap0]=[.slice oa len cap]:=hcs;injection this
 rw[qjK];refine⟨(List.range len).map Z,⟨(List.range len).map C,⟨oa,cap,b,off,by simp,by simpa using hd,fun i hi c hcl=>?_⟩,by simp,fun i hi=>?_⟩,fun z hz=>?_,fun z hz=>?_⟩
 ·have hi':i<len:=by simpa using hi
  rw[(hx i hi').2.1 c hcl]
  simp[List.getD,hi']
 ·have hi':i<len:=by simpa using hi
  have:=(hZ i hi').1
  simpa[List.getD,hi']using this
 ·obtain⟨i,hi,rfl⟩:=List.mem_map.1 hz
  exact(hZ i (List.mem_range.1 hi)).2.1
 ·obtain⟨i,hi,rfl⟩:=List.mem_map.1 hz
  exact(hZ i (List.mem_range.1 hi)).2.2
theorem X5{v:Value}{x:DataW H}{p:List MemPlace}{r:Reach}{b0:Nat}(hv:Value.okWide Tryz.prog w r b0 23 v)(h:DataW.Trod enc Tryz.prog w base (fun _=>true) held 23 v x p)(_hw:∀n∈x.weights Tryz.prog 23,n<=reachBytes):
  ∃g:GH,v=.agg (ghC g)/\X9 g:=by
 obtain⟨A,rfl,hsz⟩:=okWide_struct Tryz.underlying23 hv;obtain⟨fuel,hf⟩:=h;have hs:A.size=9:=hsz.trans (by kernel_rfl)
 obtain⟨g,hg,ho⟩:=S7 hf (by simpa[Value.cells]using hs)
 have hA:A=ghC g:=Array.ext' hg
 exact⟨g,by rw[hA],ho⟩
end
end Go.Cm
