/- Walks of functions and plain facts, joined and squeezed by a program. Conditions: as each says. -/
import Derived.Laws.BitsAllLaws
import Derived.Test.YtnelgjehpbjloaaGreatDoorGXB
set_option maxHeartbeats 8000000
set_option maxRecDepth 100000
set_option linter.unusedSimpArgs false
namespace Go.Cm
open Go.RowKit Go.Proofs
theorem oR{w:World}{p:Nat}{x:Nat×Nat}{l:List (Nat×Nat)}(hL:jK w)(h:bK w (x::l) (.iface 86 (.pointer (some ⟨p,0,none⟩)))):Calls Tryz.prog 40 #[.iface 86 (.pointer (some ⟨p,0,none⟩))] w fun e w'=>e=.returned (.pointer (some ⟨p,0,none⟩))/\∃x,w'=ext w x:=q0S hL h
theorem bX.nil{w:World}{v:Value}(h:bX w [] v):v=.agg #[.nilIface]:=by
 obtain⟨e,rfl,he⟩:=h;unfold cH at he;rw[if_pos rfl]at he;rw[he]
theorem q0U{w:World}{l:List (Nat×Nat)}{v:Value}(hL:jK w)(h:bX w l v):Calls Tryz.prog 16 #[v] w fun e w'=>e=.returned (.int .i64 ((l.headD (0,0)).1:Nat))/\∃x,w'=ext w x:=by
 obtain⟨e,rfl,he⟩:=h;have HL:=q7 (hL.up (qn w (.cells #[e] 42)));have hk:=qE w w.heap.size #[e] 42 (by simp) (q9 _)
 have c0:(w.alloc (.cells #[e] 42)).cell? ⟨w.heap.size,0,none⟩=some e:=by simp
 cases l with
 |nil=>
  obtain rfl:e=.nilIface:=by unfold cH at he;rwa [if_pos rfl]at he
  go_enter Tryz.func16,Tryz.ntmps16
  go_wp2_with((with_reducible go_at_call 40);refine(rK _).mono ?_;rintro en w2 ⟨rfl,x2,rfl⟩)
  go_ret
  exact⟨rfl,(qt (by repeat(first|exact qj _ _|assumption|refine qw ?_ _|refine qk ?_|refine qA ?_ _|refine qs ?_ _)))⟩
 |cons y l=>
  have HC:=q7 (he.some.up (qn w (.cells #[e] 42)));obtain⟨p,u,rfl,h1,h2,h3,h4,h5⟩:=he.some;have hz:=qd h1 (qn w (.cells #[.iface 86 (.pointer (some ⟨p,0,none⟩))] 42)).size;clear he h5 hk
  go_enter Tryz.func16,Tryz.ntmps16
  go_wp2_with((with_reducible go_at_call 40);refine(oR HL.out HC.out).mono ?_;rintro en w2 ⟨rfl,x2,rfl⟩)
  go_ret
  exact⟨rfl,(qt (by repeat(first|exact qj _ _|assumption|refine qw ?_ _|refine qk ?_|refine qA ?_ _|refine qs ?_ _)))⟩
theorem atB{w:World}{l:List (Nat×Nat)}{v:Value}(hL:jK w)(h:bX w l v):Calls Tryz.prog 17 #[v] w fun e w'=>e=.returned (.int .i64 ((l.headD (0,0)).2:Nat))/\∃x,w'=ext w x:=by
 obtain⟨e,rfl,he⟩:=h;have HL:=q7 (hL.up (qn w (.cells #[e] 42)));have hk:=qE w w.heap.size #[e] 42 (by simp) (q9 _)
 have c0:(w.alloc (.cells #[e] 42)).cell? ⟨w.heap.size,0,none⟩=some e:=by simp
 cases l with
 |nil=>
  obtain rfl:e=.nilIface:=by unfold cH at he;rwa [if_pos rfl]at he
  go_enter Tryz.func17,Tryz.ntmps17
  go_wp2_with((with_reducible go_at_call 40);refine(rK _).mono ?_;rintro en w2 ⟨rfl,x2,rfl⟩)
  go_ret
  exact⟨rfl,(qt (by repeat(first|exact qj _ _|assumption|refine qw ?_ _|refine qk ?_|refine qA ?_ _|refine qs ?_ _)))⟩
 |cons y l=>
  have HC:=q7 (he.some.up (qn w (.cells #[e] 42)));obtain⟨p,u,rfl,h1,h2,h3,h4,h5⟩:=he.some;have hz:=qd h1 (qn w (.cells #[.iface 86 (.pointer (some ⟨p,0,none⟩))] 42)).size;clear he h5 hk
  go_enter Tryz.func17,Tryz.ntmps17
  go_wp2_with((with_reducible go_at_call 40);refine(oR HL.out HC.out).mono ?_;rintro en w2 ⟨rfl,x2,rfl⟩)
  go_ret
  exact⟨rfl,(qt (by repeat(first|exact qj _ _|assumption|refine qw ?_ _|refine qk ?_|refine qA ?_ _|refine qs ?_ _)))⟩
theorem q4U{w:World}{g k:Nat}{p:Value}(hc:w.cell? ⟨g,0,none⟩=some (.int .i64 k))(hf:w.frozen? ⟨g,0,none⟩=false)(hk:k<=1000000):Calls Tryz.prog 39 #[p,.pointer (some ⟨g,0,none⟩)] w fun e w'=>e=.returned (.tuple #[])/\w'=w.setCell ⟨g,0,none⟩ (.int .i64 ((k:Int)+1)):=by
 go_enter Tryz.func39,Tryz.ntmps39
 go_wp2
 go_end0
 exact⟨rfl,rfl⟩
theorem zP{w:World}{u:Value}(h:bK w [] u):H7 u=.pointer none:=by obtain⟨q,rfl⟩:=h;simp[H7]
theorem q7I{w0 w:World}{l:List (Nat×Nat)}{v:Value}{g:Nat}(hL:jK w0)(h:bX w0 l v)(hb:Below w0.heap.size w0 w)(ho:Own w w0.heap.size 3 (.slice (some ⟨g,0,none⟩) 1 1) [.int .i64 0])(hl:l.length<=100000):
  Calls Tryz.prog 38 #[v,.func (Fn.func 39) #[] #[.pointer (some ⟨g,0,none⟩)]] w fun e w'=>e=.returned (.tuple #[])/\Below w0.heap.size w0 w'/\Own w' w0.heap.size 3 (.slice (some ⟨g,0,none⟩) 1 1) [.int .i64 (l.length:Nat)]:=by
 obtain⟨e,rfl,he⟩:=h;have HL:=q7 hL;have HB0:=q7 hb;have HO0:=q7 ho
 have qeX:(l=[]/\e=.nilIface)\/(l≠[]/\bK w0 l e/\∃q,e=.iface 86 (.pointer (some ⟨q,0,none⟩))):=by
  cases l with
  |nil=>exact .inl ⟨rfl,by unfold cH at he;rwa [if_pos rfl]at he⟩
  |cons y l=>obtain⟨p,u,h1,-⟩:=id he.some;exact .inr ⟨by simp,he.some,_,h1⟩
 obtain⟨K,hK⟩:∃K,K=l.length:=⟨_,rfl⟩;have HK:=q7 hK;rw[<-hK]at hl⊢;clear he hL hb ho hK
 go_enter Tryz.func38,Tryz.ntmps38
 rcases qeX with⟨rfl,rfl⟩|⟨hne,hc,q,rfl⟩
 ·have hz:K=0:=HK.out
  subst hz
  go_wp2_with((with_reducible go_at_call 40);refine(rK _).mono ?_;rintro en w2 ⟨rfl,x2,rfl⟩)
  refine wp_loop_rounds 1 ?_;rw[rounds_succ];go_wp2
  go_end0
  have hbz:=qA (qn w (.cells #[.nilIface] 42)) x2
  exact⟨rfl,qq HB0.out hbz,HO0.out.up hbz⟩
 ·have hlp:H7 (.iface 86 (.pointer (some ⟨q,0,none⟩)))=.pointer (some ⟨q,0,none⟩):=rfl
  obtain⟨y,l2,rfl⟩:∃y l2,l=y::l2:=by cases l with|nil=>exact absurd rfl hne|cons y l2=>exact⟨y,l2,rfl⟩
  have HC:=q7 hc;clear hc hne
  go_wp2_with((with_reducible go_at_call 40);(refine(oR (HL.out.up (HB0.out.trans ((qn _ _).mono HB0.out.size))) (HC.out.up (HB0.out.trans ((qn _ _).mono HB0.out.size)))).mono ?_);rintro en w2 ⟨rfl,x2,hw2⟩;have hb2:Below w.heap.size w w2:=(by rw[hw2];exact qA (qn _ _) _);clear hw2;have HB2:=q7 (HB0.out.trans (hb2.mono HB0.out.size));have HO2:=q7 (HO0.out.up hb2);clear hb2)
  clear hlp
  go_loopg [4] K (fun gk nv wr=>∃(l':List (Nat×Nat)) (u:Value) (k':Nat),nv=H7 u/\Hid (bK w0 l' u)/\Hid (Below w0.heap.size w0 wr)/\Hid (Own wr w0.heap.size 3 (.slice (some ⟨g,0,none⟩) 1 1) [.int .i64 (k':Nat)])/\k'+l'.length=K/\gk=l'.length)
  case atStart=>exact⟨_,_,0,rfl,HC,HB2,HO2,by rw[HK.out];simp,HK.out⟩
  case round=>
   obtain⟨l',u,k',rfl,HC2,HBr,HOr,qca,rfl⟩:=hrel
   cases l' with
   |nil=>
    have hz:k'=K:=by simpa using qca
    subst hz;rw[zP HC2.out];go_wp2
    go_end0
    exact⟨rfl,HBr.out,HOr.out⟩
   |cons x l3=>
    obtain⟨p,u2,rfl,h1,h2,h3,h4,h5⟩:=HC2.out;have hlp:H7 (.iface 86 (.pointer (some ⟨p,0,none⟩)))=.pointer (some ⟨p,0,none⟩):=rfl;rw[hlp];clear hlp;have c0:wr.cell? ⟨g,0,none⟩=some (.int .i64 (k':Nat)):=HOr.out.cell (i:=0) (by simp)
    have f0:wr.frozen? ⟨g,0,none⟩=false:=HOr.out.free 0;obtain⟨ho,hgr⟩:=HOr.out.store 0 (.int .i64 ((k':Int)+1));have hb3:Below w0.heap.size w0 (wr.setCell ⟨g,0,none⟩ (.int .i64 ((k':Int)+1))):=HBr.out.setCell (HOr.out.blk.1) _;have hk':k'<=1000000:=by simp only[List.length_cons]at qca;omega
    have c2:(wr.setCell ⟨g,0,none⟩ (.int .i64 ((k':Int)+1))).cell? ⟨p,2,none⟩=some u2:=by rw[hb3.cell (p:=⟨p,2,none⟩) h1];exact h4
    have hd:=q4U (p:=.pointer (some ⟨p,0,none⟩)) c0 f0 hk';have hm:Hid (k'+1+l3.length=K):=q7 (by simp only[List.length_cons]at qca;omega)
    have e1:((k':Int)+1)=((k'+1:Nat):Int):=by omega
    simp only[List.set_cons_zero]at ho;rw[e1]at ho hb3 c2 hd;generalize wr.setCell ⟨g,0,none⟩ (.int .i64 ((k'+1:Nat):Int))=w5 at*;have HO5:=q7 ho;have HB5:=q7 hb3;have HC5:=q7 (h5.up hb3);clear ho hb3 hgr HOr h2 h3 h4 e1 hk' HC2;have HD:=q7 hd;have H5:=q7 h5;clear hd h5
    cases l3 with
    |nil=>
     go_wp2_with(first
      |((with_reducible go_at_call 39);refine HD.out.mono ?_;rintro en w6 ⟨rfl,hw6⟩;rw[hw6];clear hw6)
      |((with_reducible go_at_call 40);refine(O6 (HL.out.up HB5.out) HC5.out).mono ?_;rintro en w6 ⟨rfl,x2,hw2⟩;have hb6:Below w5.heap.size w5 w6:=(by rw[hw2];exact qu _ _);clear hw2;have HB6:=q7 (HB5.out.trans (hb6.mono HB5.out.size));have HO6:=q7 (HO5.out.up hb6);clear hb6))
     go_roundg 0
     case measure=>simp
     case rel=>exact⟨[],u2,k'+1,(zP HC5.out).symm,H5,HB6,HO6,hm.out,rfl⟩
    |cons z l4=>
     obtain⟨p2,u3,rfl,-⟩:=id H5.out
     go_wp2_with(first
      |((with_reducible go_at_call 39);refine HD.out.mono ?_;rintro en w6 ⟨rfl,hw6⟩;rw[hw6];clear hw6)
      |((with_reducible go_at_call 40);refine(oR (HL.out.up HB5.out) HC5.out).mono ?_;rintro en w6 ⟨rfl,x2,hw2⟩;have hb6:Below w5.heap.size w5 w6:=(by rw[hw2];exact qu _ _);clear hw2;have HB6:=q7 (HB5.out.trans (hb6.mono HB5.out.size));have HO6:=q7 (HO5.out.up hb6);clear hb6))
     go_roundg (l4.length+1)
     case measure=>simp
     case rel=>exact⟨z::l4,_,k'+1,rfl,H5,HB6,HO6,hm.out,rfl⟩
theorem tR{w:World}{l:List (Nat×Nat)}{v:Value}(hL:jK w)(h:bX w l v)(hl:l.length<=100000):Calls Tryz.prog 14 #[v] w fun e w'=>e=.returned (.int .i64 (l.length:Nat))/\∃x,w'=ext w x:=by
 have hbl:=h;obtain⟨e,rfl,he⟩:=h;have h4:=qE (w.alloc (.cells #[e] 42)) w.heap.size #[.int .i64 0] 3 (by simp) (by simp)
 have hsz:(w.alloc (.cells #[e] 42)).heap.size=w.heap.size+1:=by simp
 rw[hsz]at h4;have HC:=q7I hL hbl (qs (qn w (.cells #[e] 42)) (.cells #[.int .i64 0] 3)) h4 hl;clear hbl he h4 hsz hL
 go_enter Tryz.func14,Tryz.ntmps14
 go_wp2_with((with_reducible go_at_call 38);refine HC.mono ?_;rintro en w2 ⟨rfl,hb2,ho2⟩;have c1:w2.cell? ⟨w.heap.size+1,0,none⟩=some (.int .i64 (l.length:Nat)):=ho2.cell (i:=0) (by simp))
 go_ret
 exact⟨rfl,qt hb2⟩
theorem bY{s:ByteArray}{a b:Nat}{l:qK}(h:(((bys s).drop a).take (b-a))=l):s.extract a b=⟨l.toArray⟩:=by
 have:(s.extract a b).data.toList=l:=by
  rw[<-h];simp[bys,List.extract]
 cases hx:s.extract a b with
 |mk d=>rw[hx]at this;simp only at this;rw[<-this]
theorem qN(l:qK):(⟨l.toArray⟩:ByteArray).size=l.length:=by simp[ByteArray.size]
def q4W(x:Nat×Nat):List Value:=[.int .i64 (x.1:Nat),.int .i64 (x.2:Nat)]
def cV(w:World)(v:Value)(l:List (Nat×Nat)):Prop:=SlK 2 w v (l.map q4W)
theorem cV.up{w w':World}{v:Value}{l:List (Nat×Nat)}(h:cV w v l)(hb:Below w.heap.size w w'):cV w' v l:=SlK.up h hb
theorem cV.open{w:World}{v:Value}{l:List (Nat×Nat)}(h:cV w v l):∃oa cap b off,v=.slice oa l.length cap/\Hd w oa l.length cap b off/\∀i,i<l.length->w.cell? ⟨b,off+i*2,none⟩=some (.int .i64 ((l.getD i (0,0)).1:Nat))/\w.cell? ⟨b,off+i*2+1,none⟩=some (.int .i64 ((l.getD i (0,0)).2:Nat)):=by
 obtain⟨oa,cap,b,off,hv,hd,hc⟩:=h;rw[List.length_map]at hv hd hc;refine⟨oa,cap,b,off,hv,hd,fun i hi=>?_⟩
 have e:(l.map q4W).getD i []=q4W (l.getD i (0,0)):=by simp[List.getD,hi]
 have h0:=hc i hi 0 (by decide)
 have h1:=hc i hi 1 (by decide)
 rw[e]at h0 h1
 exact⟨h0,h1⟩
def leB(n:Nat):Nat->qK
 |0=>[]
 |w+1=>UInt8.ofNat (n%256)::leB (n/256) w
def leN:qK->Nat
 |[]=>0
 |b::l=>b.toNat+256*leN l
theorem I0{k:Nat}(hk:k=1\/k=2\/k=4)(w:World):Calls Tryz.prog 57 #[.int .i64 k] w fun e w'=>e=.returned (.bool true)/\∃x,w'=ext w x:=by
 rcases hk with rfl|rfl|rfl
 all_goals
  go_enter Tryz.func57,Tryz.ntmps57
  go_wp2;go_ret
  exact⟨rfl,(qt (by repeat(first|exact qj _ _|assumption|refine qw ?_ _|refine qk ?_|refine qA ?_ _|refine qs ?_ _)))⟩
theorem wN(W:World)(l:qK)(hl:l.length<=100000):(convert 49 9 (.slice (some ⟨W.heap.size,0,none⟩) l.length l.length)).run Tryz.prog (W.alloc (.cells (qD l).toArray 5))=.ok (.string ⟨l.toArray⟩) (W.alloc (.cells (qD l).toArray 5)):=by
 have h:=eJ W (qD l).toArray 5 (by simp[qz];omega)
 simp only[List.size_toArray,qz]at h
 exact j7 _ _ _ 5 Tryz.underlying49 Tryz.underlying5 Tryz.underlying9 _ _ (by simpa using h)
theorem bV(n:Nat):(((UInt8.ofNat (n%256)).toNat:Nat):Int)=((n%256:Nat):Int):=by rw[UInt8.toNat_ofNat'];omega
theorem q8J{n:Nat}(hn:n<256):(qD (leB n 1)).toArray=#[.int .u8 (n:Int)]:=by
 simp only[leB,qD,List.map_cons,List.map_nil,bV];rw[show((n%256:Nat):Int)=(n:Int) by omega]
theorem q8K{n:Nat}(hn:n<65536):(qD (leB n 2)).toArray=#[.int .u8 ((n:Int)%256),.int .u8 ((n:Int)/256)]:=by
 simp only[leB,qD,List.map_cons,List.map_nil,bV];rw[show((n%256:Nat):Int)=(n:Int)%256 by omega,show((n/256%256:Nat):Int)=(n:Int)/256 by omega]
theorem q8L{n:Nat}(hn:n<4294967296):(qD (leB n 4)).toArray=#[.int .u8 ((n:Int)%256),.int .u8 ((n:Int)/256%256),.int .u8 ((n:Int)/65536%256),.int .u8 ((n:Int)/16777216)]:=by
 simp only[leB,qD,List.map_cons,List.map_nil,bV];rw[show((n%256:Nat):Int)=(n:Int)%256 by omega,show((n/256%256:Nat):Int)=(n:Int)/256%256 by omega,show((n/256/256%256:Nat):Int)=(n:Int)/65536%256 by omega,show((n/256/256/256%256:Nat):Int)=(n:Int)/16777216 by omega]
theorem q4Z{n:Nat}(hn:n<256)(w:World):Calls Tryz.prog 26 #[.int .i64 n,.int .i64 1] w fun e w'=>e=.returned (.tuple #[.string ⟨(leB n 1).toArray⟩,.int .i64 0])/\∃x,w'=ext w x:=by
 have HW:=q7 (fun W=>I0 (k:=1) (by omega) W)
 have h0:(n:Int)/256=0:=by omega
 have h1:decide ((n:Int)<0)=false:=by rw[qm];omega
 have hmk:∀W:World,(Instr.makeSlice 49 (.int .i64 1) (.int .i64 1)).run Tryz.prog W=.ok (.slice (some ⟨W.heap.size,0,none⟩) 1 1) (W.alloc (.cells (madeCells #[.int .u8 0] 1) 5)):=fun W=>rP (P:=Tryz.prog) 49 5 (.int .u8 0) 1 1 Tryz.underlying49 (by kernel_rfl) rfl (by decide) (by decide) W
 go_enter Tryz.func26,Tryz.ntmps26
 go_wp2_with((with_reducible go_at_call 57);refine(HW.out _).mono ?_;rintro en w2 ⟨rfl,x2,rfl⟩)
 rw[show madeCells #[.int .u8 0] 1=#[.int .u8 0]from by kernel_rfl]
 refine wp_loop_rounds 2 ?_;rw[rounds_succ];go_wp2;rw[rounds_succ];have hcv:=wN (ext w x2) (leB n 1) (by simp[leB])
 rw[q8J hn,show(leB n 1).length=1 from rfl]at hcv
 go_wp2
 go_ret2
 exact⟨rfl,(qt (by repeat(first|exact qj _ _|assumption|refine qw ?_ _|refine qk ?_|refine qA ?_ _|refine qs ?_ _)))⟩
theorem q50{n:Nat}(hn:n<65536)(w:World):Calls Tryz.prog 26 #[.int .i64 n,.int .i64 2] w fun e w'=>e=.returned (.tuple #[.string ⟨(leB n 2).toArray⟩,.int .i64 0])/\∃x,w'=ext w x:=by
 have HW:=q7 (fun W=>I0 (k:=2) (by omega) W)
 have h0:(n:Int)/65536=0:=by omega
 have h1:decide ((n:Int)<0)=false:=by rw[qm];omega
 have hmk:∀W:World,(Instr.makeSlice 49 (.int .i64 2) (.int .i64 2)).run Tryz.prog W=.ok (.slice (some ⟨W.heap.size,0,none⟩) 2 2) (W.alloc (.cells (madeCells #[.int .u8 0] 2) 5)):=fun W=>rP (P:=Tryz.prog) 49 5 (.int .u8 0) 1 2 Tryz.underlying49 (by kernel_rfl) rfl (by decide) (by decide) W
 go_enter Tryz.func26,Tryz.ntmps26
 go_wp2_with((with_reducible go_at_call 57);refine(HW.out _).mono ?_;rintro en w2 ⟨rfl,x2,rfl⟩)
 rw[show madeCells #[.int .u8 0] 2=#[.int .u8 0,.int .u8 0]from by kernel_rfl]
 refine wp_loop_rounds 3 ?_;rw[rounds_succ];go_wp2;rw[rounds_succ];go_wp2;rw[rounds_succ];have hcv:=wN (ext w x2) (leB n 2) (by simp[leB])
 rw[q8K hn,show(leB n 2).length=2 from rfl]at hcv
 go_wp2
 go_ret2
 exact⟨rfl,(qt (by repeat(first|exact qj _ _|assumption|refine qw ?_ _|refine qk ?_|refine qA ?_ _|refine qs ?_ _)))⟩
theorem I1{n:Nat}(hn:n<4294967296)(w:World):Calls Tryz.prog 26 #[.int .i64 n,.int .i64 4] w fun e w'=>e=.returned (.tuple #[.string ⟨(leB n 4).toArray⟩,.int .i64 0])/\∃x,w'=ext w x:=by
 have HW:=q7 (fun W=>I0 (k:=4) (by omega) W)
 have h0:(n:Int)/4294967296=0:=by omega
 have h1:decide ((n:Int)<0)=false:=by rw[qm];omega
 have hmk:∀W:World,(Instr.makeSlice 49 (.int .i64 4) (.int .i64 4)).run Tryz.prog W=.ok (.slice (some ⟨W.heap.size,0,none⟩) 4 4) (W.alloc (.cells (madeCells #[.int .u8 0] 4) 5)):=fun W=>rP (P:=Tryz.prog) 49 5 (.int .u8 0) 1 4 Tryz.underlying49 (by kernel_rfl) rfl (by decide) (by decide) W
 go_enter Tryz.func26,Tryz.ntmps26
 go_wp2_with((with_reducible go_at_call 57);refine(HW.out _).mono ?_;rintro en w2 ⟨rfl,x2,rfl⟩)
 rw[show madeCells #[.int .u8 0] 4=#[.int .u8 0,.int .u8 0,.int .u8 0,.int .u8 0]from by kernel_rfl]
 refine wp_loop_rounds 5 ?_;rw[rounds_succ];go_wp2;rw[rounds_succ];go_wp2;rw[rounds_succ];go_wp2;rw[rounds_succ];go_wp2;rw[rounds_succ];have hcv:=wN (ext w x2) (leB n 4) (by simp[leB])
 rw[q8L hn,show(leB n 4).length=4 from rfl]at hcv
 go_wp2
 go_ret2
 exact⟨rfl,(qt (by repeat(first|exact qj _ _|assumption|refine qw ?_ _|refine qk ?_|refine qA ?_ _|refine qs ?_ _)))⟩
theorem lC(a b:Nat)(ha:a<4611686018427387904)(hb:b<4611686018427387904):bits .or .i64 (a:Int) (b:Int)=((a|||b:Nat):Int):=by
 have hx:a|||b<2^62:=Nat.or_lt_two_pow (by omega) (by omega)
 have h1:(BitVec.ofInt 64 (a:Int)).toNat=a:=by
  rw[BitVec.ofInt_natCast,BitVec.toNat_ofNat];exact Nat.mod_eq_of_lt (by omega)
 have h2:(BitVec.ofInt 64 (b:Int)).toNat=b:=by
  rw[BitVec.ofInt_natCast,BitVec.toNat_ofNat];exact Nat.mod_eq_of_lt (by omega)
 show IntKind.i64.wrap ((BitVec.ofInt 64 (a:Int)|||BitVec.ofInt 64 (b:Int)).toNat:Int)=_
 rw[BitVec.toNat_or,h1,h2,IntKind.wrap_i64];generalize a|||b=x at*;omega
theorem lD(a v n r:Nat)(ha:a<2^n)(hn:n<=24)(hv:v<256)(hr:r=a+v*2^n):bits .or .i64 (a:Int) ((v:Int)*((2^n:Nat):Int))=(r:Nat):=by
 have h1:2^n<=2^24:=qe (by decide) hn
 have h2:v*2^n<=256*2^24:=Nat.mul_le_mul (by omega) h1
 have:=lC a (v*2^n) (by omega) (by omega)
 rw[show((v*2^n:Nat):Int)=(v:Int)*((2^n:Nat):Int) by rw[Int.natCast_mul]]at this
 rw[this,Nat.or_comm,Nat.mul_comm,<-Nat.two_pow_add_eq_or_of_lt ha,hr,Nat.mul_comm,Nat.add_comm]
def qJ(s:ByteArray)(at_ W:Nat):Nat:=leN (((bys s).drop at_).take W)
theorem kG(l:qK)(i:Nat):(l.getD i 0).toNat<256:=UInt8.toNat_lt _
theorem tS{l:qK}{a k:Nat}(h:a+k<l.length):(l.drop a).take (k+1)=l.getD a 0::(l.drop (a+1)).take k:=by
 have h1:a<l.length:=by omega
 rw[List.drop_eq_getElem_cons h1,List.take_succ_cons]
 simp[List.getD,h1]
theorem q41:∀(l:qK),leN l<256^l.length
 |[]=>by simp[leN]
 |b::l=>by
  have:=q41 l;have hb:=UInt8.toNat_lt b;rw[List.length_cons,Nat.pow_succ,leN];omega
theorem dU(s:ByteArray)(a W:Nat):qJ s a W<256^W:=by
 unfold qJ
 exact qd (q41 _) (qe (by decide) (by rw[List.length_take];omega))
theorem bG{s:ByteArray}{a k:Nat}(h:a+k<s.size):qJ s a (k+1)=((bys s).getD a 0).toNat+256*qJ s (a+1) k:=by
 unfold qJ;rw[tS (by rw[qF];exact h)];rfl
theorem lE(s:ByteArray)(a:Nat):qJ s a 0=0:=rfl
theorem q0Y:∀(w n:Nat),n<256^w->leN (leB n w)=n
 |0,n,h=>by simp at h;simp[leB,leN,h]
 |w+1,n,h=>by
  rw[leB,leN,q0Y w (n/256) (by rw[Nat.pow_succ]at h;omega),UInt8.toNat_ofNat'];omega
theorem jf:∀(w n:Nat),(leB n w).length=w
 |0,_=>rfl
 |w+1,n=>by rw[leB,List.length_cons,jf w]
theorem q2S{s:ByteArray}{a:Nat}(h:a+1<=s.size)(hs:s.size<=4611686018427387904)(w:World):Calls Tryz.prog 83 #[.string s,.int .i64 a,.int .i64 1] w fun e w'=>e=.returned (.tuple #[.int .i64 (qJ s a 1:Nat),.int .i64 0])/\∃x,w'=ext w x:=by
 have HW:=q7 (fun w=>I0 (k:=1) (by omega) w)
 have hn:qJ s a 1=((bys s).getD (a) 0).toNat:=by
  rw[bG (by omega),lE];(try simp only[Nat.add_assoc,Nat.reduceAdd]);omega
 have i0:=fun V=>jS (P:=Tryz.prog) 9 Tryz.underlying9 (s:=s) (i:=a) (by omega) V
 have y0:=kG (bys s) a;have c1:decide ((a:Int)>(s.size:Nat))=false:=by rw[qm];omega
 have c2:decide ((s.size:Int)-(a:Nat)<1)=false:=by rw[qm];omega
 have c3:decide (s.size<a)=false:=by rw[qm];omega
 generalize ((bys s).getD a 0).toNat=b0 at*;obtain⟨r0,e0⟩:∃r,r=b0:=⟨_,rfl⟩;have o0:bits .or .i64 0 (b0:Int)=(r0:Nat):=by rw[e0];simpa using lC 0 b0 (by decide) (by omega)
 have hR:qJ s a 1=r0:=by omega
 have hRb:r0<4294967296:=by omega
 have g0:r0<4294967296:=by omega
 generalize qJ s a 1=R at*;have HN:=q7 hR;clear hn hR e0
 go_enter Tryz.func83,Tryz.ntmps83
 go_wp2_with((with_reducible go_at_call 57);refine(HW.out _).mono ?_;rintro en w2 ⟨rfl,x2,rfl⟩)
 refine wp_loop_rounds 2 ?_;rw[rounds_succ];go_wp2;rw[rounds_succ];go_wp2
 go_ret2
 exact⟨by rw[HN.out];rfl,(qt (by repeat(first|exact qj _ _|assumption|refine qw ?_ _|refine qk ?_|refine qA ?_ _|refine qs ?_ _)))⟩
theorem q2T{s:ByteArray}{a:Nat}(h:a+2<=s.size)(hs:s.size<=4611686018427387904)(w:World):Calls Tryz.prog 83 #[.string s,.int .i64 a,.int .i64 2] w fun e w'=>e=.returned (.tuple #[.int .i64 (qJ s a 2:Nat),.int .i64 0])/\∃x,w'=ext w x:=by
 have HW:=q7 (fun w=>I0 (k:=2) (by omega) w)
 have hn:qJ s a 2=((bys s).getD (a) 0).toNat+((bys s).getD (a+1) 0).toNat*256:=by
  rw[bG (by omega),bG (by omega),lE];(try simp only[Nat.add_assoc,Nat.reduceAdd]);omega
 have i0:=fun V=>jS (P:=Tryz.prog) 9 Tryz.underlying9 (s:=s) (i:=a) (by omega) V
 have y0:=kG (bys s) a
 have i1:∀V:World,(Instr.index 9 (.string s) (.int .i64 ((a:Int)+1))).run Tryz.prog V=.ok (.int .u8 (((bys s).getD (a+1) 0).toNat:Nat)) V:=fun V=>by
  have:=jS (P:=Tryz.prog) 9 Tryz.underlying9 (s:=s) (i:=a+1) (by omega) V
  rwa [show((a+1:Nat):Int)=(a:Int)+1 by omega]at this
 have y1:=kG (bys s) (a+1);have c1:decide ((a:Int)>(s.size:Nat))=false:=by rw[qm];omega
 have c2:decide ((s.size:Int)-(a:Nat)<2)=false:=by rw[qm];omega
 have c3:decide (s.size<a)=false:=by rw[qm];omega
 generalize ((bys s).getD a 0).toNat=b0 at*;generalize ((bys s).getD (a+1) 0).toNat=b1 at*;obtain⟨r0,e0⟩:∃r,r=b0:=⟨_,rfl⟩;obtain⟨r1,e1⟩:∃r,r=r0+b1*256:=⟨_,rfl⟩;have o0:bits .or .i64 0 (b0:Int)=(r0:Nat):=by rw[e0];simpa using lC 0 b0 (by decide) (by omega)
 have o1:bits .or .i64 (r0:Int) ((b1:Int)*256)=(r1:Nat):=by
  have:=lD r0 b1 8 r1 (by omega) (by omega) (by omega) (by omega)
  simpa using this
 have hR:qJ s a 2=r1:=by omega
 have hRb:r1<4294967296:=by omega
 have g0:r0<4294967296:=by omega
 have g1:r1<4294967296:=by omega
 generalize qJ s a 2=R at*;have HN:=q7 hR;clear hn hR e0 e1
 go_enter Tryz.func83,Tryz.ntmps83
 go_wp2_with((with_reducible go_at_call 57);refine(HW.out _).mono ?_;rintro en w2 ⟨rfl,x2,rfl⟩)
 refine wp_loop_rounds 3 ?_;rw[rounds_succ];go_wp2;rw[rounds_succ];go_wp2;rw[rounds_succ];go_wp2
 go_ret2
 exact⟨by rw[HN.out];rfl,(qt (by repeat(first|exact qj _ _|assumption|refine qw ?_ _|refine qk ?_|refine qA ?_ _|refine qs ?_ _)))⟩
theorem wO{s:ByteArray}{a:Nat}(h:a+4<=s.size)(hs:s.size<=4611686018427387904)(w:World):Calls Tryz.prog 83 #[.string s,.int .i64 a,.int .i64 4] w fun e w'=>e=.returned (.tuple #[.int .i64 (qJ s a 4:Nat),.int .i64 0])/\∃x,w'=ext w x:=by
 have HW:=q7 (fun w=>I0 (k:=4) (by omega) w)
 have hn:qJ s a 4=((bys s).getD (a) 0).toNat+((bys s).getD (a+1) 0).toNat*256+((bys s).getD (a+2) 0).toNat*65536+((bys s).getD (a+3) 0).toNat*16777216:=by
  rw[bG (by omega),bG (by omega),bG (by omega),bG (by omega),lE];(try simp only[Nat.add_assoc,Nat.reduceAdd]);omega
 have i0:=fun V=>jS (P:=Tryz.prog) 9 Tryz.underlying9 (s:=s) (i:=a) (by omega) V
 have y0:=kG (bys s) a
 have i1:∀V:World,(Instr.index 9 (.string s) (.int .i64 ((a:Int)+1))).run Tryz.prog V=.ok (.int .u8 (((bys s).getD (a+1) 0).toNat:Nat)) V:=fun V=>by
  have:=jS (P:=Tryz.prog) 9 Tryz.underlying9 (s:=s) (i:=a+1) (by omega) V
  rwa [show((a+1:Nat):Int)=(a:Int)+1 by omega]at this
 have y1:=kG (bys s) (a+1)
 have i2:∀V:World,(Instr.index 9 (.string s) (.int .i64 ((a:Int)+2))).run Tryz.prog V=.ok (.int .u8 (((bys s).getD (a+2) 0).toNat:Nat)) V:=fun V=>by
  have:=jS (P:=Tryz.prog) 9 Tryz.underlying9 (s:=s) (i:=a+2) (by omega) V
  rwa [show((a+2:Nat):Int)=(a:Int)+2 by omega]at this
 have y2:=kG (bys s) (a+2)
 have i3:∀V:World,(Instr.index 9 (.string s) (.int .i64 ((a:Int)+3))).run Tryz.prog V=.ok (.int .u8 (((bys s).getD (a+3) 0).toNat:Nat)) V:=fun V=>by
  have:=jS (P:=Tryz.prog) 9 Tryz.underlying9 (s:=s) (i:=a+3) (by omega) V
  rwa [show((a+3:Nat):Int)=(a:Int)+3 by omega]at this
 have y3:=kG (bys s) (a+3);have c1:decide ((a:Int)>(s.size:Nat))=false:=by rw[qm];omega
 have c2:decide ((s.size:Int)-(a:Nat)<4)=false:=by rw[qm];omega
 have c3:decide (s.size<a)=false:=by rw[qm];omega
 generalize ((bys s).getD a 0).toNat=b0 at*;generalize ((bys s).getD (a+1) 0).toNat=b1 at*;generalize ((bys s).getD (a+2) 0).toNat=b2 at*;generalize ((bys s).getD (a+3) 0).toNat=b3 at*;obtain⟨r0,e0⟩:∃r,r=b0:=⟨_,rfl⟩;obtain⟨r1,e1⟩:∃r,r=r0+b1*256:=⟨_,rfl⟩;obtain⟨r2,e2⟩:∃r,r=r1+b2*65536:=⟨_,rfl⟩;obtain⟨r3,e3⟩:∃r,r=r2+b3*16777216:=⟨_,rfl⟩;have o0:bits .or .i64 0 (b0:Int)=(r0:Nat):=by rw[e0];simpa using lC 0 b0 (by decide) (by omega)
 have o1:bits .or .i64 (r0:Int) ((b1:Int)*256)=(r1:Nat):=by
  have:=lD r0 b1 8 r1 (by omega) (by omega) (by omega) (by omega)
  simpa using this
 have o2:bits .or .i64 (r1:Int) ((b2:Int)*65536)=(r2:Nat):=by
  have:=lD r1 b2 16 r2 (by omega) (by omega) (by omega) (by omega)
  simpa using this
 have o3:bits .or .i64 (r2:Int) ((b3:Int)*16777216)=(r3:Nat):=by
  have:=lD r2 b3 24 r3 (by omega) (by omega) (by omega) (by omega)
  simpa using this
 have hR:qJ s a 4=r3:=by omega
 have hRb:r3<4294967296:=by omega
 have g0:r0<4294967296:=by omega
 have g1:r1<4294967296:=by omega
 have g2:r2<4294967296:=by omega
 have g3:r3<4294967296:=by omega
 generalize qJ s a 4=R at*;have HN:=q7 hR;clear hn hR e0 e1 e2 e3
 go_enter Tryz.func83,Tryz.ntmps83
 go_wp2_with((with_reducible go_at_call 57);refine(HW.out _).mono ?_;rintro en w2 ⟨rfl,x2,rfl⟩)
 refine wp_loop_rounds 5 ?_;rw[rounds_succ];go_wp2;rw[rounds_succ];go_wp2;rw[rounds_succ];go_wp2;rw[rounds_succ];go_wp2;rw[rounds_succ];go_wp2
 go_ret2
 exact⟨by rw[HN.out];rfl,(qt (by repeat(first|exact qj _ _|assumption|refine qw ?_ _|refine qk ?_|refine qA ?_ _|refine qs ?_ _)))⟩
def kH(n:Nat):Nat:=if n%2=1 then(n/2)^^^3988292384 else n/2
def sQ:Nat->Nat->Nat
 |0,n=>n
 |k+1,n=>sQ k (kH n)
def q0Z(c:Nat)(b:UInt8):Nat:=sQ 8 ((c%256)^^^b.toNat)^^^(c/256)
def pM(c:Nat)(l:qK):Nat:=l.foldl q0Z c
def bL(l:qK):Nat:=4294967295-pM 4294967295 l
theorem wP{n:Nat}(h:n<4294967296):kH n<4294967296:=by
 unfold kH;split
 ·exact Nat.xor_lt_two_pow (n:=32) (by omega) (by omega)
 ·omega
theorem wQ:∀(k:Nat) {n:Nat},n<4294967296->sQ k n<4294967296
 |0,_,h=>h
 |k+1,_,h=>wQ k (wP h)
theorem q51{c:Nat}{b:UInt8}(h:c<4294967296):q0Z c b<4294967296:=by
 have hx:(c%256)^^^b.toNat<256:=Nat.xor_lt_two_pow (n:=8) (by omega) (UInt8.toNat_lt b)
 exact Nat.xor_lt_two_pow (n:=32) (wQ 8 (by omega)) (by omega)
theorem I3:∀(l:qK) {c:Nat},c<4294967296->pM c l<4294967296
 |[],_,h=>h
 |_::l,_,h=>I3 l (q51 h)
theorem oS(l:qK):bL l<4294967296:=by unfold bL;omega
theorem zQ(c:Nat)(l:qK)(b:UInt8):pM c (l++[b])=q0Z (pM c l) b:=by unfold pM;rw[List.foldl_append];rfl
theorem q5X(a b:Nat)(ha:a<4294967296)(hb:b<4294967296):bits .xor .u32 (a:Int) (b:Int)=((a^^^b:Nat):Int):=u32_xor_nat a b ha hb
theorem wR{l:qK}{i:Nat}(h:i<l.length):l.take (i+1)=l.take i++[l.getD i 0]:=by
 rw[List.take_succ_eq_append_getElem h];simp[List.getD,h]
theorem q7M{c:Nat}(h:c<4294967296):4294967295^^^c=4294967295-c:=by
 have h1:(BitVec.allOnes 32^^^BitVec.ofNat 32 c).toNat=(~~~ (BitVec.ofNat 32 c)).toNat:=by rw[BitVec.allOnes_xor]
 rw[BitVec.toNat_xor,BitVec.toNat_not,BitVec.toNat_allOnes,BitVec.toNat_ofNat,Nat.mod_eq_of_lt (by omega)]at h1
 simpa using h1
theorem wS{c:Nat}(h:c<4294967296):bits .xor .u32 IntKind.u32.max (c:Int)=((4294967295-c:Nat):Int):=by
 have:=q5X 4294967295 c (by decide) h
 rw[q7M h]at this
 exact this
end Go.Cm
