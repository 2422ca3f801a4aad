/- Walks of functions and plain facts, joined and squeezed by a program. Conditions: as each says. -/
import Derived.Deep.LoopGhost
import Derived.StringKeys
import Derived.Test.YtiladjhipahiiaaGreatDLXA
set_option maxHeartbeats 8000000
set_option maxRecDepth 100000
set_option linter.unusedSimpArgs false
open Go.Proofs.Tryz
namespace Go.Cm
open Go.RowKit Go.Proofs
theorem ZmB0{P:Prop}(h:P:=by
 have HY:Hid ((0<=row.getD j 0/\row.getD j 0<d.next.length)->∀q,q<j+1->0<=row.getD q 0/\row.getD q 0<d.next.length):=qa (fun h q hq=>by
  rcases Nat.lt_succ_iff_lt_or_eq.1 hq with h1|rfl
  ·exact HJ.o q h1
  exact h)
 generalize row.getD j 0=y at*;by_cases hy:0<=y/\y<d.next.length
 ·obtain⟨y1,y2⟩:=hy
  go_wp2
  go_round
  case rel=>exact⟨j+1,by omega,by go_num,HY.o ⟨y1,y2⟩⟩
  case measure=>simp[intOf];omega
 by_cases y1:y<0
 ·go_wp2
  all_goals go_ret
  all_goals exact⟨cT (bI fun hv=>hy (HX.o hv)).symm,(aJ aO)⟩
 have y2:(d.next.length:Int)<=y:=by omega
 go_wp2
 all_goals go_ret
 all_goals exact⟨cT (bI fun hv=>hy (HX.o hv)).symm,(aJ aO)⟩):P:=h
theorem ZmB1{P:Prop}(h:P:=by
 go_wp2_with(first|(refine dI rfl _ rfl w.heap.size rfl A HS.o HG.o ?_)|(go_at_call 66;refine(HL.o _ (aD _ _)).mono ?_;rintro e w' ⟨rfl,x,rfl⟩))
 all_goals go_ret
 all_goals exact⟨cT (bI HF.o).symm,(aJ aO)⟩):P:=h
theorem ZmB2{P:Prop}(h:P:=by
 go_wp2
 all_goals go_ret
 all_goals exact⟨cT (bI HF.o).symm,(aJ aO)⟩):P:=h
theorem ZmB3{P:Prop}(h:P:=by
 clear hok;go_enter func45,ntmps45;go_wp2
 all_goals go_ret
 all_goals exact⟨cT (bI HF.o).symm,(aJ aO)⟩):P:=h
theorem ZmB4{P:Prop}(h:P:=by
 go_wp2;go_ret;have hkk:k=d.next.length:=by omega
 exact⟨cT (lE ⟨h1,h2,H3.o,n,HN.o,by rw[<-hkk];rw[<-hkk]at HA;exact HA.o⟩).symm,(aJ aO)⟩):P:=h
theorem ZmB5{P:Prop}(h:P:=by rw[HB.o.cell (p:=⟨w.heap.size,256,none⟩) (qV _),World.cell?_alloc_new];exact hn):P:=h
theorem q61(v:Value)(d:Dfa)(w:World)(h:mX w v d):Calls prog 45 #[v] w fun e w'=>e=.returned (.bool (L8 d))/\∃x,w'=ext w x:=by
 obtain⟨A,rfl,hs,hl,hc,⟨vn,hn,hrow⟩,⟨vr,hr,hru⟩⟩:=h;obtain⟨oa,cap,b,off,rfl,hd,hro⟩:=hrow.open;obtain⟨oa',cap',b',off',rfl,hd',hrc⟩:=hru.open;have hix:=aT (P:=prog) 26 27 underlying26 (by kernel_rfl) hd;have qgF:=aT (P:=prog) 27 3 underlying27 (by kernel_rfl) hd';have hm:=hd.len;have hm':=hd'.len;have HS:=qa hs;clear hs;have HLc:=qa hl;clear hl;have HCL:=qa hc;clear hc;have HR:=qa hro;clear hro;have HRC:=qa hrc;clear hrc;by_cases hok:(1<=d.next.length/\d.next.length<=1000)/\d.rules.length=d.next.length
 ·obtain⟨⟨h1,h2⟩,h3⟩:=hok
  have h5:((d.rules.length:Int) != (d.next.length:Int))=false:=by simp[h3]
  have H3:=qa h3;clear h3;go_enter func45,ntmps45;go_wp2
  go_loop [4,5] (fun n i=>∃k m:Nat,k<=256/\m<=k/\i=.int .i64 k/\n=.int .i64 m/\bB 0 d.cls=bB m (d.cls.drop k)) (fun _ i=>256-(intOf i).toNat)
  case atStart=>exact⟨0,0,qd _,qb _,rfl,rfl,rfl⟩
  case round=>
   obtain⟨k,n,hk,hmk,rfl,rfl,heq⟩:=hrel;have HE:=qa heq;clear heq;by_cases hlt:k<256
   ·have HD:=qa (pS n d.cls k (by rw[HLc.o];exact hlt))
    have hAk:=HCL.o k hlt;generalize d.cls.getD k 0=y at*;by_cases h1:y<0
    ·have HF:Hid (¬bD d):=qa (fun hv=>by
      obtain⟨_,_,_,q,hq,-⟩:=hv;rw[HE.o,HD.o,qw (Or.inl h1)]at hq;cases hq)
     exact ZmB2
    by_cases h2:(n:Int)<y
    ·have HF:Hid (¬bD d):=qa (fun hv=>by
      obtain⟨_,_,_,q,hq,-⟩:=hv;rw[HE.o,HD.o,qw (Or.inr h2)]at hq;cases hq)
     exact ZmB2
    by_cases h3:y=n
    ·have h4:(y==(n:Int))=true:=by simpa using h3
     have H3:=qa h3;clear h3;go_wp2
     go_round
     case rel=>
      refine⟨k+1,n+1,by omega,by omega,by go_num,by go_num,?_⟩;have h5:=HD.o;rw[qv (by omega),qw H3.o]at h5;rw[HE.o,h5]
     case measure=>simp[intOf];omega
    have h4:(y==(n:Int))=false:=by simpa using h3
    go_wp2
    go_round
    case rel=>
     refine⟨k+1,n,by omega,by omega,by go_num,rfl,?_⟩;have h5:=HD.o;rw[qv (by omega),qv h3]at h5;rw[HE.o,h5]
    case measure=>simp[intOf];omega
   have HN:Hid (bB 0 d.cls=some n):=qa (by
    have h5:=HE.o;rw[jp (by have:=HLc.o;omega)]at h5;rw[h5];rfl)
   clear HE;go_wp2
   go_loop [6] (fun i=>∃k:Nat,k<=d.next.length/\i=.int .i64 k/\∀j,j<k->T9 d.next.length n (d.rules.getD j 0) (d.next.getD j [])) (fun i=>d.next.length-(intOf i).toNat)
   case atStart=>exact⟨0,qd _,rfl,fun j hj=>absurd hj (qC j)⟩
   case round=>
    clear hk hmk hlt;obtain⟨k,hk,rfl,hall⟩:=hrel;have HA:=qa hall;clear hall;by_cases hlt:k<d.next.length
    ·obtain⟨oi,ci,bi,fi,hck,hdk,hcj,-⟩:=HR.o k hlt
     have hrk:=HRC.o k (by rw[H3.o];exact hlt);have qdv:k<d.rules.length:=by rw[H3.o];exact hlt
     have hb:=hd.hblk (by omega);have hb':=hd'.hblk (by omega);have hlk:=hdk.hsml;have qd5:=aT (P:=prog) 27 3 underlying27 (by kernel_rfl) hdk;have hblk:=hdk.hblk;have HD:=qa hdk;clear hdk;have HCJ:=qa hcj;clear hcj
     have HW:Hid (T9 d.next.length n (d.rules.getD k 0) (d.next.getD k [])->∀q,q<k+1->T9 d.next.length n (d.rules.getD q 0) (d.next.getD q [])):=qa (fun h q hq=>by
      rcases Nat.lt_succ_iff_lt_or_eq.1 hq with h1|rfl
      ·exact HA.o q h1
      exact h)
     have HV:Hid (bD d->T9 d.next.length n (d.rules.getD k 0) (d.next.getD k [])):=qa (fun hv=>by
      obtain⟨_,_,_,q,hq,hall⟩:=hv;have:q=n:=by have:=HN.o;rw[this]at hq;exact(qr hq).symm
      subst this;exact hall k hlt)
     generalize d.rules.getD k 0=r at*;generalize d.next.getD k []=row at*;by_cases qeX: -1<=r/\r<32/\row.length=n
     ·obtain⟨g1,g2,g3⟩:=qeX
      have g4:((row.length:Int) != (n:Int))=false:=by simp[g3]
      have g5:r<=31:=by omega
      have g6:n<=140737488351232:=by omega
      have G3:=qa g3;clear g3;go_wp2
      go_loop [7] (fun i=>∃j:Nat,j<=n/\i=.int .i64 j/\∀q,q<j->0<=row.getD q 0/\row.getD q 0<d.next.length) (fun i=>n-(intOf i).toNat)
      case atStart=>exact⟨0,qd _,rfl,fun j hj=>absurd hj (qC j)⟩
      case round=>
       obtain⟨j,hj,rfl,qd3⟩:=hrel;have HJ:=qa qd3;clear qd3;by_cases qcC:j<n
       ·have qdu:j<row.length:=by rw[G3.o];exact qcC
        have hcell:=HCJ.o j qdu;have hbb:=hblk (by omega);have HX:Hid (bD d->0<=row.getD j 0/\row.getD j 0<d.next.length):=qa (fun hv=>(HV.o hv).2.2.2 j qdu)
        exact ZmB0
       go_wp2
       go_round
       case rel=>
        refine⟨k+1,by omega,by go_num,HW.o ⟨g1,g2,G3.o,?_⟩⟩;have hjj:j=row.length:=by have:=G3.o;omega
        rw[<-hjj];exact HJ.o
       case measure=>simp[intOf];omega
     have HF:Hid (¬bD d):=qa (fun hv=>qeX ⟨(HV.o hv).1,(HV.o hv).2.1,(HV.o hv).2.2.1⟩);by_cases g1: -1<=r
     ·by_cases g2:r<32
      ·have g4:((row.length:Int) != (n:Int))=true:=by simp;omega
       have g5:r<=31:=by omega
       exact ZmB2
      have g4:(31:Int)<r:=by omega
      exact ZmB2
     have g4:r< -1:=by omega
     exact ZmB2
    exact ZmB4
 have HF:Hid (¬bD d):=qa (fun hv=>hok ⟨⟨hv.1,hv.2.1⟩,hv.2.2.1⟩);by_cases h1:1<=d.next.length
 ·by_cases h2:d.next.length<=1000
  ·have h5:((d.rules.length:Int) != (d.next.length:Int))=true:=by simp;omega
   exact ZmB3
  have h5:(1000:Int)<d.next.length:=by omega
  exact ZmB3
 have h5:(d.next.length:Int)<1:=by omega
 exact ZmB3
theorem E9{d:Dfa}(h:bD d){i:Nat}(hi:i<d.next.length):(∀j,j<(d.next.getD i []).length->0<=(d.next.getD i []).getD j 0/\(d.next.getD i []).getD j 0<d.next.length)/\(d.next.getD i []).length<=256\/d.cls.length≠256:=by
 obtain⟨h1,h2,h3,k,hk,hr⟩:=h;obtain⟨-,-,hl,hj⟩:=hr i hi;by_cases hc:d.cls.length=256
 ·refine .inl ⟨hj,?_⟩
  have:=iT d.cls 0 k hk;omega
 exact .inr hc
theorem q0r(d:Dfa)(i j:Nat)(hj:j<(d.next.getD i []).length):(rowN_MiniM d i).getD j 0=((d.next.getD i []).getD j 0).toNat:=by
 simp only[rowN_MiniM,qu,qU]at hj⊢;rw[qy hj];rfl
theorem lI(d:Dfa)(i:Nat):(rowN_MiniM d i).length=(d.next.getD i []).length:=by simp[rowN_MiniM]
def q9A(l:List Int)(w:World)(e:Ending)(w':World):Prop:=∃r,e=.returned r/\eB w' r l/\Below w.heap.size w w'
open Classical in
noncomputable def q0s(d:Dfa):List Int:=if bD d then nl (reach d)else []
theorem N8{d:Dfa}(h:bD d):q0s d=nl (reach d):=by unfold q0s;rw[qw h]
theorem q62{d:Dfa}(h:¬bD d):q0s d=[]:=by unfold q0s;rw[qv h]
theorem q0t(l:List Nat)(k:Nat)(h:k<l.length):(ints (nl l)).getD k undef=.int .i64 ((l.getD k 0:Nat):Int):=by
 rw[fF _ _ (by simpa using h),tK]
theorem lJ(a b:List Int):ints (a++b)=ints a++ints b:=by simp[ints]
theorem iC(l:List Int):∀u∈ints l,u.oneCell'=true:=by
 intro u hu;simp only[ints,jB]at hu;obtain⟨b,-,rfl⟩:=hu;rfl
theorem F1(v:Value)(d:Dfa)(w:World)(h:mX w v d):Calls prog 31 #[v] w fun e w'=>e=.returned (.bool (L8 d))/\∃x,w'=ext w x:=by
 have hL:=fun w' (hb:Below w.heap.size w w')=>q9z v d w' (h.up hb);obtain⟨A,rfl,hs,hl,hc,⟨vn,hn,hrow⟩,⟨vr,hr,hru⟩⟩:=h;obtain⟨oa,cap,b,off,rfl,hd,hro⟩:=hrow.open;obtain⟨oa',cap',b',off',rfl,hd',hrc⟩:=hru.open;have hix:=aT (P:=prog) 26 27 underlying26 (by kernel_rfl) hd;have qgF:=aT (P:=prog) 27 3 underlying27 (by kernel_rfl) hd';have hm:=hd.len;have hm':=hd'.len;have HL:=qa hL;clear hL;have HS:=qa hs;clear hs hc hl;have HG:=qa (heap_alloc_new w (.cells A 29));have HR:=qa hro;clear hro;have HRC:=qa hrc;clear hrc;have hlo: -1<=iS d.cls:=by unfold iS;split<;>omega
 by_cases hok:(1<=d.next.length/\d.next.length<=1000)/\d.rules.length=d.next.length/\0<=iS d.cls
 ·obtain⟨⟨h1,h2⟩,h3,h4⟩:=hok
  obtain⟨n,hn'⟩:∃n,bB 0 d.cls=some n:=by
   cases hq:bB 0 d.cls with
   |some n=>exact⟨n,rfl⟩
   |none=>simp[iS,hq]at h4
  have hci:iS d.cls=(n:Int):=by simp[iS,hn']
  have HN:=qa hn';clear hn';have h5:((d.rules.length:Int) != (d.next.length:Int))=false:=by simp[h3]
  have H3:=qa h3;clear h3;rw[hci]at HL h4 hlo;have HC:=qa hci;clear hci;go_enter func31,ntmps31
  go_wp2_with(first|(refine dI rfl _ rfl w.heap.size rfl A HS.o HG.o ?_)|(go_at_call 66;refine(HL.o _ (aD _ _)).mono ?_;rintro e w' ⟨rfl,x,rfl⟩))
  go_loop [31] (fun i=>∃k:Nat,k<=d.next.length/\i=.int .i64 k/\∀j,j<k->T9 d.next.length n (d.rules.getD j 0) (d.next.getD j [])) (fun i=>d.next.length-(intOf i).toNat)
  case atStart=>exact⟨0,qd _,rfl,fun j hj=>absurd hj (qC j)⟩
  case round=>
   obtain⟨k,hk,rfl,hall⟩:=hrel;have HA:=qa hall;clear hall;by_cases hlt:k<d.next.length
   ·obtain⟨oi,ci,bi,fi,hck,hdk,hcj,-⟩:=HR.o k hlt
    have hrk:=HRC.o k (by rw[H3.o];exact hlt);have qdv:k<d.rules.length:=by rw[H3.o];exact hlt
    have hb:=hd.hblk (by omega);have hb':=hd'.hblk (by omega);have hlk:=hdk.hsml;have qd5:=aT (P:=prog) 27 3 underlying27 (by kernel_rfl) hdk;have hblk:=hdk.hblk;have HD:=qa hdk;clear hdk;have HCJ:=qa hcj;clear hcj
    have HW:Hid (T9 d.next.length n (d.rules.getD k 0) (d.next.getD k [])->∀q,q<k+1->T9 d.next.length n (d.rules.getD q 0) (d.next.getD q [])):=qa (fun h q hq=>by
     rcases Nat.lt_succ_iff_lt_or_eq.1 hq with h1|rfl
     ·exact HA.o q h1
     exact h)
    have HV:Hid (bD d->T9 d.next.length n (d.rules.getD k 0) (d.next.getD k [])):=qa (fun hv=>by
     obtain⟨_,_,_,q,hq,hall⟩:=hv;have:q=n:=by have:=HN.o;rw[this]at hq;exact(qr hq).symm
     subst this;exact hall k hlt)
    generalize d.rules.getD k 0=r at*;generalize d.next.getD k []=row at*;by_cases qeX: -1<=r/\r<32/\row.length=n
    ·obtain⟨g1,g2,g3⟩:=qeX
     have g4:((row.length:Int) != (n:Int))=false:=by simp[g3]
     have G3:=qa g3;clear g3;go_wp2
     go_loop [64] (fun i=>∃j:Nat,j<=row.length/\i=.int .i64 j/\∀q,q<j->0<=row.getD q 0/\row.getD q 0<d.next.length) (fun i=>row.length-(intOf i).toNat)
     case atStart=>exact⟨0,qd _,rfl,fun j hj=>absurd hj (qC j)⟩
     case round=>
      obtain⟨j,hj,rfl,qd3⟩:=hrel;have HJ:=qa qd3;clear qd3;by_cases qcC:j<row.length
      ·have hcell:=HCJ.o j qcC
       have hbb:=hblk (by omega);have HX:Hid (bD d->0<=row.getD j 0/\row.getD j 0<d.next.length):=qa (fun hv=>(HV.o hv).2.2.2 j qcC)
       exact ZmB0
      go_wp2
      go_round
      case rel=>
       refine⟨k+1,by omega,by go_num,HW.o ⟨g1,g2,G3.o,?_⟩⟩;have hjj:j=row.length:=by omega
       rw[<-hjj];exact HJ.o
      case measure=>simp[intOf];omega
    have HF:Hid (¬bD d):=qa (fun hv=>qeX ⟨(HV.o hv).1,(HV.o hv).2.1,(HV.o hv).2.2.1⟩);by_cases g1: -1<=r
    ·by_cases g2:r<32
     ·have g4:((row.length:Int) != (n:Int))=true:=by simp;omega
      exact ZmB2
     have g4:(32:Int)<=r:=by omega
     exact ZmB2
    have g4:r< -1:=by omega
    exact ZmB2
   exact ZmB4
 have HF:Hid (¬bD d):=qa (fun hv=>hok ⟨⟨hv.1,hv.2.1⟩,hv.2.2.1,by obtain⟨q,hq,-⟩:=hv.2.2.2;simp[iS,hq]⟩);generalize iS d.cls=c at*;by_cases h1:1<=d.next.length
 ·by_cases h2:d.next.length<=1000
  ·by_cases h3:d.rules.length=d.next.length
   ·have h5:((d.rules.length:Int) != (d.next.length:Int))=false:=by simp[h3]
    have h4:c<0:=by omega
    clear h3 hok;go_enter func31,ntmps31
    exact ZmB1
   have h5:((d.rules.length:Int) != (d.next.length:Int))=true:=by simp;omega
   clear hok;go_enter func31,ntmps31
   exact ZmB1
  have h5:(1000:Int)<d.next.length:=by omega
  clear hok;go_enter func31,ntmps31
  exact ZmB1
 have h5:(d.next.length:Int)<1:=by omega
 clear hok;go_enter func31,ntmps31
 exact ZmB1
theorem fK(l:List Int)(i:Nat)(x:Int):(ints l).set i (.int .i64 x)=ints (l.set i x):=by simp[ints,aC]
theorem sZ(n:Nat)(x:Int):List.replicate n (Value.int .i64 x)=ints (List.replicate n x):=by simp[ints]
theorem pK(l:List Int)(i j:Nat)(x:Int):(l.set i x).getD j 0=if i=j/\i<l.length then x else l.getD j 0:=by
 simp only[qu,jQ];by_cases h:i=j
 ·subst h
  by_cases h2:i<l.length
  ·simp[h2]
  simp[h2]
 simp[h]
def q0u(n:Nat)(met:List Int)(out:List Nat)(bound:Nat):Prop:=met.length=n/\∀x,x<n->0<=met.getD x 0/\met.getD x 0<=bound/\(0<met.getD x 0↔x∈out)
theorem q0u.start(n:Nat)(h:1<=n):q0u n ((List.replicate n (0:Int)).set 0 1) [0] 1:=by
 refine⟨by simp,fun x hx=>?_⟩;rw[pK];have hr:(List.replicate n (0:Int)).getD x 0=0:=by simp[List.getD,hx]
 by_cases h0:0=x
 ·subst h0;simp;omega
 rw[qv (fun q=>h0 q.1),hr];simp;omega
theorem q0u.step{n:Nat}{met:List Int}{out:List Nat}{b q:Nat}(h:q0u n met out b)(hq:q<n):q0u n (met.set q (met.getD q 0+1)) (gG out q) (b+1):=by
 refine⟨by simp[h.1],fun x hx=>?_⟩;rw[pK];have h1:=h.2 x hx;have h2:=h.2 q hq;by_cases hx':q=x
 ·subst hx'
  rw[qw ⟨rfl,by rw[h.1];exact hq⟩];refine⟨by omega,by omega,fun _=>tL.2 (.inr rfl),fun _=>by omega⟩
 rw[qv (fun e=>hx' e.1)];refine⟨h1.1,by omega,?_⟩;rw[tL,h1.2.2];exact⟨.inl,fun q=>q.elim id (fun e=>absurd e.symm hx')⟩
theorem q7O(v:Value)(d:Dfa)(w:World)(h:mX w v d):Calls prog 33 #[v] w (q9A (q0s d) w):=by
 have hL:=fun w' (hb:Below w.heap.size w w')=>F1 v d w' (h.up hb);obtain⟨A,rfl,hs,hl,hc,⟨vn,hn,hrow⟩,⟨vr,hr,hru⟩⟩:=h;obtain⟨oa,cap,b,off,rfl,hd,hro⟩:=hrow.open;have hix:=aT (P:=prog) 26 27 underlying26 (by kernel_rfl) hd;have hm:=hd.len;have HL:=qa hL;clear hL;have HS:=qa hs;clear hs hc;have HG:=qa (heap_alloc_new w (.cells A 29));have HR:=qa hro;clear hro;have HLC:=qa hl;clear hl;by_cases hv:bD d
 ·have hrb:=lE hv
  have HRI:=qa (N8 hv);have hn1:=hv.1;have hn2:=hv.2.1;have HV:=qa hv;clear hv;have hb:=hd.hblk (by omega);have hmk:=J8 (P:=prog) 27 3 (.int .i64 0) 8 d.next.length underlying27 (by kernel_rfl) rfl (by decide) (by omega);obtain⟨M,hM⟩:∃M,M=madeCells #[Value.int .i64 0] d.next.length:=⟨_,rfl⟩;rw[<-hM]at hmk;have hM0:M[0]? =some (.int .i64 0):=by rw[hM,<-j9,toList_madeCells_one,jT,qw (by omega)]
  have HM:Hid (M.toList=List.replicate d.next.length (.int .i64 0)):=qa (by rw[hM,toList_madeCells_one]);have HMS:Hid (M.size=d.next.length):=qa (by rw[hM,size_madeCells]);clear hM;go_enter func33,ntmps33
  go_wp2_with(first|(refine dI rfl _ rfl w.heap.size rfl A HS.o HG.o ?_)|(go_at_call 31;refine(HL.o _ (aD _ _)).mono ?_;rintro e w' ⟨rfl,x,rfl⟩;rw[hrb]))
  have qed:Below (w.heap.size+1) (w.alloc (.cells A 29)) (ext (w.alloc (.cells A 29)) x):=(aE _ _).mono (by simp);generalize ext (w.alloc (.cells A 29)) x=w1 at*;have hs1:w.heap.size+1<=w1.heap.size:=by have:=qed.size;rw[World.size_alloc]at this;exact this
  have hOM:Own ((w1.alloc (.cells (M.setIfInBounds 0 (.int .i64 1)) 3)).alloc (.cells #[.int .i64 0] 3)) (w.heap.size+1) 3 (.slice (some ⟨w1.heap.size,0,none⟩) d.next.length d.next.length) (ints ((List.replicate d.next.length (0:Int)).set 0 1)):=by
   have h1:=(cN w1 (w.heap.size+1) (M.setIfInBounds 0 (.int .i64 1)) 3 (by rw[Array.size_setIfInBounds,HMS.o];omega) hs1).up (aD _ (.cells #[.int .i64 0] 3));simp only[Array.size_setIfInBounds,HMS.o,Array.toList_setIfInBounds,HM.o,sZ,fK]at h1;exact h1
  have hO:Own ((w1.alloc (.cells (M.setIfInBounds 0 (.int .i64 1)) 3)).alloc (.cells #[.int .i64 0] 3)) (w1.heap.size+1) 3 (.slice (some ⟨w1.heap.size+1,0,none⟩) 1 1) (ints (nl [0])):=by
   have h1:=cN (w1.alloc (.cells (M.setIfInBounds 0 (.int .i64 1)) 3)) (w1.heap.size+1) #[.int .i64 0] 3 (by simp) (by simp);simpa[nl,ints]using h1
  have HB0:=qa (((qed.alloc hs1 (.cells (M.setIfInBounds 0 (.int .i64 1)) 3))).alloc (by rw[World.size_alloc];omega) (.cells #[.int .i64 0] 3));clear qed;have HO:=qa hO;clear hO;have HOM:=qa hOM;clear hOM hM0
  go_loopw [4,5] (fun vo i wr=>∃(k:Nat) (out:List Nat) (met:List Int),k<=out.length/\i=.int .i64 k/\Own wr (w1.heap.size+1) 3 vo (ints (nl out))/\Own wr (w.heap.size+1) 3 (.slice (some ⟨w1.heap.size,0,none⟩) d.next.length d.next.length) (ints met)/\Hid (q0u d.next.length met out (1+256*k))/\Hid (out.Nodup)/\Hid (∀x∈out,x<d.next.length)/\out.length<=d.next.length/\Hid (reach d=gW d (d.next.length+1-k) k out)/\Below (w.heap.size+1) (w.alloc (.cells A 29)) wr/\w1.heap.size+1<=wr.heap.size) (fun _ i _=>d.next.length+1-(intOf i).toNat)
  case atStart=>exact⟨0,[0],_,qd _,rfl,HO.o,HOM.o,qa (q0u.start _ hn1),qa (by simp),qa (by simp;omega),by simpa using hn1,qa rfl,HB0.o,by simp⟩
  case round=>
   clear HO HB0 HOM;obtain⟨k,out,met,hk,rfl,hown,hom,qdF,HND,HLT,hol,HRE,qcw,qd9⟩:=hrel;have hsz:w.heap.size+1<=wr.heap.size:=by omega
   have HB:=qa qcw;clear qcw;have HOM:=qa hom;clear hom;obtain⟨oo,oc,g,rfl,hdo,hgo,hco,hfo,hst⟩:=hown.cases;simp only[aS,lS]at hdo hco hown⊢;have HO:=qa hown;clear hown hst hfo;have qlY:=aT (P:=prog) 27 3 underlying27 (by kernel_rfl) hdo;by_cases hlt:k<out.length
   ·have qkl:=hco k hlt
    have hgw:g<wr.heap.size:=hdo.hblk (by omega);rw[q0t out k hlt]at qkl;have hsn:=HLT.o _ (cE out k 0 hlt)
    have HG0:Hid (reach d=gW d (d.next.length-k) (k+1) (iH out (rowN_MiniM d (out.getD k 0)))):=qa (by
     rw[HRE.o,show d.next.length+1-k=(d.next.length-k)+1 by omega,gW,qw hlt])
    clear HRE;generalize out.getD k 0=s at*;obtain⟨oi,ci,bi,fi,hck,hdk,hcj,qjM⟩:=HR.o s hsn;have HVR:=qa ((E9 HV.o hsn).resolve_right (fun h=>h HLC.o));have HRN:=qa (q0r d s);have HRL:=qa (lI d s);have HSP:=qa (xW (rowN_MiniM d s) out);have qd5:=aT (P:=prog) 27 3 underlying27 (by kernel_rfl) hdk;have hbi:=hdk.hblk;have hlk:=hdk.hsml;generalize rowN_MiniM d s=rn at*;generalize d.next.getD s []=row at*;have qk1:=HVR.o.2;have HCJ:=qa hcj;clear hcj;have HDK:=qa hdk;clear hdk
    have hcw:wr.cell? ⟨b,off+s,none⟩=some (.slice oi row.length ci):=by
     rw[HB.o.cell (p:=⟨b,off+s,none⟩) (jf hb),World.cell?_alloc_past _ _ _ hb];exact hck
    have hbn:wr.cell? ⟨w.heap.size,256,none⟩=some (.slice oa d.next.length cap):=by
     exact ZmB5
    clear hco hck;go_wp2
    go_quiet (fail)
    go_wp2;obtain⟨wo,rfl⟩:∃wo:World,wo=wr:=⟨_,rfl⟩;have qcw:=HB.o;have hown:=HO.o;have hom:=HOM.o
    go_loopw [4,33] (fun vo i wr=>∃(j:Nat) (o2:List Nat) (met:List Int),j<=row.length/\i=.int .i64 j/\Own wr (w1.heap.size+1) 3 vo (ints (nl o2))/\Own wr (w.heap.size+1) 3 (.slice (some ⟨w1.heap.size,0,none⟩) d.next.length d.next.length) (ints met)/\Hid (q0u d.next.length met o2 (1+256*k+j))/\Hid (o2=iH out (rn.take j))/\o2.length<=d.next.length/\Hid (o2.Nodup)/\Hid (∀x∈o2,x<d.next.length)/\Below (w.heap.size+1) (w.alloc (.cells A 29)) wr/\w1.heap.size+1<=wr.heap.size) (fun _ i _=>row.length-(intOf i).toNat)
    case atStart=>exact⟨0,out,met,qd _,rfl,hown.up (aX _ _),hom.up (aX _ _),qdF,qa (by simp[iH]),hol,HND,HLT,lY qcw _,qd9⟩
    case round=>
     clear qcw hown hom qdF HOM met;obtain⟨j,o2,met,hj,rfl,hown,hom,qdF,HO2,ho2,qh8,qhb,qcw,qd9⟩:=hrel;have hsz:w.heap.size+1<=wr.heap.size:=by omega
     have HBB:=qa qcw;clear qcw;have HOO:=qa hown;clear hown;have HOM:=qa hom;clear hom;by_cases qcC:j<row.length
     ·have qg5:=hbi (by omega)
      have qdK:bi<wr.heap.size:=by omega
      have hcell:wr.cell? ⟨bi,fi+j,none⟩=some (.int .i64 (row.getD j 0)):=by
       rw[HBB.o.cell (p:=⟨bi,fi+j,none⟩) (jf qg5),World.cell?_alloc_past _ _ _ qg5];exact HCJ.o j qcC
      obtain⟨hy1,hy2⟩:=HVR.o.1 j qcC;have HRJ:=qa (HRN.o j qcC);have HTS:=qa (wZ out rn j (by rw[HRL.o];exact qcC));generalize row.getD j 0=y at*;obtain⟨q,rfl⟩:=jH hy1;have hq:q<d.next.length:=by omega
      have HQ:Hid (rn.getD j 0=q):=qa (by rw[HRJ.o];rfl);clear HRJ hy1 hy2;have HM2:=qa (qdF.o.step hq);obtain⟨m1,m2,m3⟩:=qdF.o.2 q hq;have hml:=qdF.o.1
      have hmc:wr.cell? ⟨w1.heap.size,q,none⟩=some (.int .i64 (met.getD q 0)):=by
       rw[HOM.o.cell (by rw[aS,hml];exact hq),fF met q (by omega)]
      have hmf:wr.frozen? ⟨w1.heap.size,q,none⟩=false:=HOM.o.free q;have HST:=qa (HOM.o.store q (.int .i64 (met.getD q 0+1)));have hne:bi≠w1.heap.size:=by omega
      have HML:=qa hml;clear hml;rw[fK]at HST;generalize met.getD q 0=y at*
      have hOK:u4.ownBlock=none\/u4.ownBlock≠some w1.heap.size:=by
       cases hu:u4.ownBlock with
       |none=>exact .inl rfl
       |some z=>exact .inr (fun e=>by have:=HOO.o.lt z hu;injection e with e;omega)
      have HOK:=qa hOK;clear hOK;by_cases qcx:q∈o2
      ·have hyp:0<y:=m3.2 qcx
       have hyb:(y+1==1)=false:=by simp;omega
       have HM:=qa qcx;clear qcx m3;go_wp2
       go_roundw
       case rel=>
        have hp:gG o2 q=o2:=by unfold gG;rw[qw HM.o]
        refine⟨j+1,o2,met.set q (y+1),by omega,by go_num,HOO.o.keep HST.o.2 HOK.o,HST.o.1,qa ?_,qa ?_,ho2,qh8,qhb,HBB.o.setCell (by show w.heap.size+1<=w1.heap.size;omega) _,by simp;omega⟩
        ·have:=HM2.o;rw[hp]at this;exact this
        rw[HTS.o,HQ.o,<-HO2.o,hp]
       case measure=>simp[intOf];omega
      have hyp:y=0:=by
       rcases Int.lt_or_le 0 y with h|h
       ·exact absurd (m3.1 h) qcx
       omega
      subst hyp;have HM:=qa qcx;clear qcx m3;have HPN:Hid (gG o2 q=o2++[q]):=qa (by unfold gG;rw[qv HM.o]);have HN3:=qa (uW (tgt:=q) qh8.o)
      have HL3:Hid (∀x∈o2++[q],x<d.next.length):=qa (fun x hx=>by
       rcases List.mem_append.1 hx with h|h
       ·exact qhb.o x h
       simp at h;omega)
      have qfb:(o2++[q]).length<=d.next.length:=tM (by rw[<-HPN.o];exact HN3.o) HL3.o;have qla:=qa qfb;clear qfb;have qg9:=qa (HOO.o.keep HST.o.2 HOK.o)
      go_wp2_with(at_builtin;refine bF rfl (.tmp 48) (.tmp 50) 27 rfl (w1.heap.size+1) 3 (.int .i64 0) 8 underlying27 (by kernel_rfl) rfl (by decide) u4 (ints (nl o2)) rfl (qg9.o.up aO) (.slice (some ⟨wr.heap.size,0,none⟩) 1 1) (ints (nl [q])) rfl (by simpa[ints,nl]using eK (wr.setCell ⟨w1.heap.size,q,none⟩ (.int .i64 (0+1))) #[.int .i64 (q:Int)] 3 (by simp)) (iC _) (by simp;omega) (by simp;omega) ?_;intro v' w2 hown1 hg1 hk1;have HO1:=qa hown1;have HG1:=qa hg1;clear hown1 hg1 hk1)
      go_roundw
      case rel=>
       have qe7:(Value.slice (some ⟨w1.heap.size,0,none⟩) d.next.length d.next.length).ownBlock≠u4.ownBlock:=fun e=>by
        have:=HOK.o;rcases this with h|h
        ·rw[h]at e;cases e
        exact h e.symm
       have HG2:=qa (aL (aK (aD (wr.setCell ⟨w1.heap.size,q,none⟩ (.int .i64 1)) (.cells #[.int .i64 (q:Int)] 3)) u4.ownBlock) HG1.o);refine⟨j+1,o2++[q],met.set q (0+1),by omega,by go_num,?_,HST.o.1.keep HG2.o (.inr qe7),qa ?_,qa ?_,qla.o,qa ?_,HL3,?_,?_⟩
       ·rw[uV,lJ];exact HO1.o
       ·rw[<-HPN.o];exact HM2.o
       ·rw[HTS.o,HQ.o,<-HO2.o,HPN.o]
       ·rw[<-HPN.o];exact HN3.o
       ·exact eO (B:=w.heap.size+1) (HBB.o.setCell (by show w.heap.size+1<=w1.heap.size;omega) _) (by simp;omega) (show Own _ (w.heap.size+1) 3 u4 _ from⟨⟨qg9.o.1.1,qg9.o.1.2.imp id fun⟨g,cap,cur,h1,h2,h3⟩=>⟨g,cap,cur,h1,by omega,h3⟩⟩,qg9.o.2⟩) HG2.o
       have:=HG2.o.size;simp at this;omega
      case measure=>simp[intOf];omega
     go_wp2
     go_roundw
     case rel=>
      have hj':rn.take j=rn:=qG (by rw[HRL.o];omega);have h2:=HO2.o;rw[hj']at h2;refine⟨k+1,o2,met,?_,by go_num,HOO.o,HOM.o,qa ?_,qh8,qhb,ho2,qa ?_,HBB.o,qd9⟩
      ·have:=HSP.o.2.2.1;rw[<-h2]at this;omega
      ·exact⟨qdF.o.1,fun x hx=>⟨(qdF.o.2 x hx).1,by have:=(qdF.o.2 x hx).2.1;omega,(qdF.o.2 x hx).2.2⟩⟩
      rw[HG0.o,h2];congr 1;omega
     case measure=>simp[intOf];omega
   go_wp2;go_ret;have h1:=HRE.o;rw[I9 d k out (by omega)]at h1;refine⟨_,rfl,?_,?_⟩
   ·rw[HRI.o,h1];exact HO.o.sl
   exact(aD w _).trans (HB.o.mono (by omega))
 have hrb:=bI hv;have HRI:=qa (q62 hv);go_enter func33,ntmps33
 go_wp2_with(first|(refine dI rfl _ rfl w.heap.size rfl A HS.o HG.o ?_)|(go_at_call 31;refine(HL.o _ (aD _ _)).mono ?_;rintro e w' ⟨rfl,x,rfl⟩;rw[hrb]))
 go_ret;refine⟨_,rfl,?_,aO⟩;rw[HRI.o];exact Sl.nil _
theorem q2U{d:Dfa}(h:bD d)(hl:d.cls.length=256){i:Nat}(hi:i<d.next.length){c:Nat}(hc:c<256):∃k:Nat,d.cls.getD c 0=k/\k<(d.next.getD i []).length:=by
 obtain⟨_,_,_,k,hk,hr⟩:=h;have h1:=sW d.cls 0 k hk _ (cE d.cls c 0 (by omega));obtain⟨-,-,h2,-⟩:=hr i hi;exact⟨(d.cls.getD c 0).toNat,by omega,by omega⟩
theorem q0C(d:Dfa)(s:List UInt8):∀(k:Nat) (a:Int),k<s.length->e9 d a (s.take (k+1))=(d.next.getD (e9 d a (s.take k)).toNat []).getD (d.cls.getD (s.getD k 0).toNat 0).toNat 0:=by
 induction s with
 |nil=>intro k a h;simp at h
 |cons c s ih=>
  intro k a h;cases k with
  |zero=>simp[e9]
  |succ k=>simp only[List.take_succ_cons,e9];rw[ih k _ (by simpa using h)];simp
theorem run(v:Value)(d:Dfa)(s:ByteArray)(w:World)(h:mX w v d)(qhO:s.size<=140737488351232):
  Calls prog 46 #[v,.string s] w fun e w'=>e=.returned (.int .i64 (q8o d s.data.toList))/\∃x,w'=ext w x:=by
 have hL:=fun w' (hb:Below w.heap.size w w')=>q61 v d w' (h.up hb);obtain⟨A,rfl,hs,hl,hc,⟨vn,hn,hrow⟩,⟨vr,hr,hru⟩⟩:=h;obtain⟨oa,cap,b,off,rfl,hd,hro⟩:=hrow.open;have hix:=aT (P:=prog) 26 27 underlying26 (by kernel_rfl) hd;have hm:=hd.len;have HL:=qa hL;clear hL;have HS:=qa hs;clear hs;have HC:=qa hc;clear hc;have HG:=qa (heap_alloc_new w (.cells A 29));have HR:=qa hro;clear hro;have HLC:=qa hl;clear hl;by_cases hv:bD d
 ·have hrb:=lE hv
  have HRI:Hid (q8o d s.data.toList=e9 d 0 s.data.toList):=qa (by unfold q8o;rw[qw hv]);have hn1:=hv.1;have hn2:=hv.2.1;have HV:=qa hv;clear hv;have hb:=hd.hblk (by omega);go_enter func46,ntmps46
  go_wp2_with(first|(refine dI rfl _ rfl w.heap.size rfl A HS.o HG.o ?_)|(go_at_call 45;refine(HL.o _ (aD _ _)).mono ?_;rintro e w' ⟨rfl,x,rfl⟩;rw[hrb]))
  generalize hw1:ext (w.alloc (.cells A 29)) x=w1;have HB:=qa (show Below (w.heap.size+1) (w.alloc (.cells A 29)) w1 from hw1▸(aE _ _).mono (by simp));clear hw1
  go_loopw [5,6] (fun a i wr=>∃(k t:Nat),k<=s.size/\t<d.next.length/\i=.int .i64 k/\a=.int .i64 t/\Hid (e9 d 0 (s.data.toList.take k)=t)/\∃n,wr=w1.drewN n) (fun _ i _=>s.size-(intOf i).toNat)
  case atStart=>exact⟨0,0,qd _,by omega,rfl,rfl,qa rfl,0,rfl⟩
  case round=>
   obtain⟨k,t,hk,ht,rfl,rfl,HRF,n,rfl⟩:=hrel;by_cases hlt:k<s.size
   ·obtain⟨oi,ci,bi,fi,hck,hdk,hcj,-⟩:=HR.o t ht
    have qdv:k<s.data.toList.length:=by simpa using hlt
    have HT:=qa (q0C d s.data.toList k 0 qdv);have hch:(s.data.toList.getD k 0)=s[k]:=by simp[List.getD,hlt];rfl
    rw[hch]at HT;obtain⟨c,hcc,hcl⟩:=q2U HV.o HLC.o ht (c:=s[k].toNat) (UInt8.toNat_lt s[k]);rw[HRF.o,hcc]at HT;have hAc:=HC.o s[k].toNat (UInt8.toNat_lt s[k]);rw[hcc]at hAc;obtain⟨hy1,hy2⟩:=((E9 HV.o ht).resolve_right (fun h=>h HLC.o)).1 c hcl;have hbi:=hdk.hblk (by omega);have qd5:=aT (P:=prog) 27 3 underlying27 (by kernel_rfl) hdk;have qil:=hcj c hcl;simp only[qD]at HT;generalize (d.next.getD t []).getD c 0=y at*;generalize (d.next.getD t []).length=rl at*;obtain⟨q,rfl⟩:=jH hy1;have hc8:s[k].toNat<256:=UInt8.toNat_lt s[k]
    have hw1:w1.cell? ⟨b,off+t,none⟩=some (.slice oi rl ci):=by
     rw[HB.o.cell (p:=⟨b,off+t,none⟩) (jf hb),World.cell?_alloc_past _ _ _ hb];exact hck
    have hw2:w1.cell? ⟨bi,fi+c,none⟩=some (.int .i64 (q:Int)):=by
     rw[HB.o.cell (p:=⟨bi,fi+c,none⟩) (jf hbi),World.cell?_alloc_past _ _ _ hbi];exact qil
    have hw3:w1.cell? ⟨w.heap.size,256,none⟩=some (.slice oa d.next.length cap):=by
     exact ZmB5
    have hw4:w1.cell? ⟨w.heap.size,s[k].toNat,none⟩=some (.int .i64 (c:Int)):=by
     rw[HB.o.cell (p:=⟨w.heap.size,s[k].toNat,none⟩) (qV _),World.cell?_alloc_new];exact hAc
    clear hcc hch hAc hck hcj qil hdk hy1;go_wp2
    go_quiet (fail)
    go_wp2
    go_roundw
    case rel=>exact⟨k+1,q,by omega,by omega,by go_num,rfl,qa HT.o,_,rfl⟩
    case measure=>simp[intOf];omega
   go_wp2;go_ret;have h1:=HRF.o;rw[qG (by simp;omega)]at h1;exact⟨tQ (by rw[HRI.o,h1]),aJ (lY ((aD w _).trans (HB.o.mono (by omega))) _)⟩
 have hrb:=bI hv;have HRI:Hid (q8o d s.data.toList= -1):=qa (by unfold q8o;rw[qv hv]);clear hv;go_enter func46,ntmps46
 go_wp2_with(first|(refine dI rfl _ rfl w.heap.size rfl A HS.o HG.o ?_)|(go_at_call 45;refine(HL.o _ (aD _ _)).mono ?_;rintro e w' ⟨rfl,x,rfl⟩;rw[hrb]))
 go_ret;exact⟨tQ (by rw[HRI.o]),(aJ aO)⟩
theorem J3{o:Oper}{a:Act}{w:World}{K:Act->Prop}(x:Operand)(ho:o.op=.load 29 x)(g:Nat)(hx:a.eval x=.pointer (some ⟨g,0,none⟩))(A:Array Value)(hs:A.size=258)
  (hg:w.heap[g]? =some (.cells A 29 (0,0))) (h:K (a.put o.dst (.agg A))):o.quiet prog a (fun w'=>∃x,w'=ext w x) K:=by
 refine⟨.agg A,fun w' hw'=>?_,h⟩;obtain⟨y,rfl⟩:=hw';have hlt:g<w.heap.size:=lt_of_block hg;have hg':(ext w y).heap[g]? =some (.cells A 29 (0,0)):=by rw[yQ w y g hlt];exact hg
 have hl:=dA (P:=prog) (ext w y) g 0 258 29 29 A (0,0) _ hg' underlying29 rfl (by kernel_rfl) (by rw[hs];decide);unfold Oper.quietAt execOp;simp only[ho,hx,Instr.loadAt,Instr.sureAddr,Sem.run_bind,Sem.run_pure,Result.andThen_ok,hl,Oper.quietUpon];exact⟨trivial,by rw[<-hs];simp⟩
theorem after(v:Value)(d:Dfa)(s:ByteArray)(w:World)(h:mX w v d)(qhO:s.size<=140737488351232):
  Calls prog 16 #[v,.string s] w fun e w'=>e=.returned (.int .i64 (eR d s.data.toList))/\∃x,w'=ext w x:=by
 have hL:=fun w' (hb:Below w.heap.size w w')=>q61 v d w' (h.up hb);have hR:=fun w' (hb:Below w.heap.size w w')=>run v d s w' (h.up hb) qhO;obtain⟨A,rfl,hs,hl,hc,⟨vn,hn,hrow⟩,⟨vr,hr,hru⟩⟩:=h;obtain⟨oa,cap,b,off,rfl,hd,hro⟩:=hru.open;have hix:=aT (P:=prog) 27 3 underlying27 (by kernel_rfl) hd;have hm:=hd.len;have HL:=qa hL;clear hL;have HRn:=qa hR;clear hR;have HS:=qa hs;clear hs hc;have HG:=qa (heap_alloc_new w (.cells A 29));have HR:=qa hro;clear hro;have HLC:=qa hl;clear hl;by_cases hv:bD d
 ·have hrb:=lE hv
  obtain⟨t,hrun,ht⟩:∃t:Nat,q8o d s.data.toList=t/\t<d.next.length:=by
   have:∀(s:List UInt8) (a:Nat),a<d.next.length->∃t:Nat,e9 d a s=t/\t<d.next.length:=by
    intro s
    induction s with
    |nil=>intro a ha;exact⟨a,rfl,ha⟩
    |cons c s ih=>
     intro a ha;obtain⟨k,hk,hkl⟩:=q2U hv HLC.o ha (c:=c.toNat) (UInt8.toNat_lt c);obtain⟨h1,h2⟩:=((E9 hv ha).resolve_right (fun h=>h HLC.o)).1 k hkl;obtain⟨q,hq⟩:=jH h1;simp only[e9,hk,qD,hq];exact ih q (by omega)
   unfold q8o;rw[qw hv];exact this _ 0 (by have:=hv.1;omega)
  rw[hrun]at HRn
  have HAI:Hid (eR d s.data.toList=d.rules.getD t 0):=qa (by
   unfold q8o at hrun;rw[qw hv]at hrun;unfold eR;rw[qw hv,hrun];rfl)
  have ht2:t<d.rules.length:=by rw[hv.2.2.1];exact ht
  have hb:=hd.hblk (by omega);have hcell:=HR.o t ht2;generalize d.rules.getD t 0=y at*;generalize d.rules.length=rl at*;clear hrun hv;go_enter func16,ntmps16
  go_wp2_with(first|(refine dI rfl _ rfl w.heap.size rfl A HS.o HG.o ?_)|(go_at_call 45;refine(HL.o _ (aD _ _)).mono ?_;rintro e w' ⟨rfl,x,rfl⟩;rw[hrb]))
  have hb2:Below w.heap.size w (ext (w.alloc (.cells A 29)) x):=aO;have hg2:(ext (w.alloc (.cells A 29)) x).heap[w.heap.size]? =some (.cells A 29 (0,0)):=by rw[yQ _ _ _ (by simp)];exact HG.o
  have hrl:(ext (w.alloc (.cells A 29)) x).cell? ⟨w.heap.size,257,none⟩=some (.slice oa rl cap):=by rw[cell?_ext_alloc_new];exact hr
  have hsz:w.heap.size+1<=(ext (w.alloc (.cells A 29)) x).heap.size:=by have:=iP (w.alloc (.cells A 29)) x;simpa using this
  have hc2:(ext (w.alloc (.cells A 29)) x).cell? ⟨b,off+t,none⟩=some (.int .i64 y):=by rw[cell?_ext_alloc_old _ _ _ _ _ hb];exact hcell
  generalize ext (w.alloc (.cells A 29)) x=w1 at*;have HG2:=qa hg2;clear hg2;have HB2:=qa hb2;clear hb2;have hb3:w.heap.size<w1.heap.size:=hsz;have hb4:b<w1.heap.size:=by omega
  refine cO (by kernel_rfl) (by kernel_rfl) ?_
  repeat(first|(go_big_quiet_want;refine J3 _ rfl w.heap.size rfl A HS.o HG2.o ?_;go_simp;go_big_quiet_on)|go_big_quiet_step ((go_at_call 46;exact dH (HRn.o _ (fD HB2.o (aE _ _))))))
  refine wpQuiet_nil ?_;rintro w' ⟨x2,rfl⟩;go_wp2;go_ret;exact⟨tQ (by rw[HAI.o]),aJ (HB2.o.trans ((aE _ _).mono (by omega)))⟩
 have hrb:=bI hv;have HRI:Hid (eR d s.data.toList= -1):=qa (by unfold eR;rw[qv hv]);clear hv;go_enter func16,ntmps16
 go_wp2_with(first|(refine dI rfl _ rfl w.heap.size rfl A HS.o HG.o ?_)|(go_at_call 45;refine(HL.o _ (aD _ _)).mono ?_;rintro e w' ⟨rfl,x,rfl⟩;rw[hrb]))
 go_ret;exact⟨tQ (by rw[HRI.o]),(aJ aO)⟩
def bG(l:List UInt8):List Value:=l.map fun b=>.int .u8 (b.toNat:Int)
theorem G1(n:Int):((O3 n).toNat:Int)=n%256:=by
 have h2:(n%256).toNat<256:=by omega
 simp[O3];omega
theorem mA(n:Int):bG (o6 n)=[.int .u8 (n%256),.int .u8 (n/256%256)]:=by simp[bG,o6,G1]
theorem nL(a b:List UInt8):bG (a++b)=bG a++bG b:=by simp[bG]
theorem dZ(a:List UInt8):(bG a).length=a.length:=by simp[bG]
theorem rU(l:List UInt8):∀u∈bG l,u.oneCell'=true:=by
 intro u hu;simp only[bG,jB]at hu;obtain⟨b,-,rfl⟩:=hu;rfl
theorem lV{P:Program}(w:World)(src dst e:TypeId)(hs:P.underlying src=some (.slice e))(he:P.underlying e=some (.int .u8))(hd:P.underlying dst=some .string)
  (v:Value) (l:List UInt8) (h:Sl w v (bG l)):(convert src dst v).run P w=.ok (.string ⟨l.toArray⟩) w:=by
 obtain⟨oa,cap,b,off,rfl,hdr,hc⟩:=h;rw[dZ]at hdr hc⊢;rw[run_convert_bytes_string w src dst e oa l.length cap hs he hd]
 have qea:∀(l:List UInt8) (s:ByteArray),(l.map fun b=>(b.toNat:Int)).foldl (fun r n=>r.push (UInt8.ofNat n.toNat)) s=⟨s.data++l.toArray⟩:=by
  intro l
  induction l with
  |nil=>intro s;simp
  |cons b l ih=>intro s;simp only[qJ,qL,ih];simp[ByteArray.push]
 have hb:bG l=(l.map fun b=>(b.toNat:Int)).map (Value.int .u8):=by simp[bG]
 cases oa with
 |none=>
  have h0:l.length=0:=by
   rcases jG l.length with h|h
   ·exact h
   have:=hdr.hat h;cases this
  obtain rfl:l=[]:=List.length_eq_zero_iff.1 h0;unfold Conv.bytesToString;simp
  rfl
 |some ad=>
  have hl:(loadCells ad l.length).run P w=.ok ((l.map fun b=>(b.toNat:Int)).map (Value.int .u8)).toArray w:=by
   rcases jG l.length with h|h
   ·obtain rfl:l=[]:=List.length_eq_zero_iff.1 h
    simp[loadCells,loadCellsFrom]
   have:=hdr.hat h;obtain rfl:ad=⟨b,off,none⟩:=qr this;rw[<-hb]
   have h2:=run_loadCells_list (P:=P) w ⟨b,off,none⟩ (bG l) (fun j v hv=>by
    have hj:j<(bG l).length:=(List.getElem?_eq_some_iff.1 hv).1;rw[dZ]at hj;rw[kJ,hc j hj];simp[List.getD,hv])
   rwa [dZ]at h2
  rw[run_bytesToString w ad l.length cap _ hl,qea];simp
theorem qcu(v pv:Value)(d:Dfa)(part:List Int)(s:Nat)(w:World)(h:mX w v d)(hp:eB w pv part)(hs1:s<d.next.length)(hs2:s<part.length)(hrow:∀tgt∈d.next.getD s [],0<=tgt/\tgt<part.length)(hlen:(d.next.getD s []).length<=1000):
  Calls prog 67 #[v,pv,.int .i64 s] w fun e w'=>e=.returned (.string ⟨(m9 d part s).toArray⟩)/\∃x,w'=ext w x:=by
 obtain⟨A,rfl,hs,hl,hc,⟨vn,hn,hrw⟩,-⟩:=h;obtain⟨oa,cap,b,off,rfl,hd,hro⟩:=hrw.open;obtain⟨oa',cap',b',off',rfl,hd',hrc⟩:=hp.open;have hix:=aT (P:=prog) 26 27 underlying26 (by kernel_rfl) hd;have qgF:=aT (P:=prog) 27 3 underlying27 (by kernel_rfl) hd';have hm:=hd.len;have hm':=hd'.len;obtain⟨oi,ci,bi,fi,hck,hdk,hcj,-⟩:=hro s hs1;have qd5:=aT (P:=prog) 27 3 underlying27 (by kernel_rfl) hdk;have hb:=hd.hblk (by omega);have hb':=hd'.hblk (by omega);have hlk:=hdk.hsml;have hps:=hrc s hs2;have HL:Hid (m9 d part s=o6 (part.getD s 0)++(d.next.getD s []).flatMap fun tgt=>o6 (part.getD tgt.toNat 0)):=qa rfl;generalize part.getD s 0=p0 at*;generalize d.next.getD s []=row at*;clear hs hc hro;have HCJ:=qa hcj;clear hcj;have qkV:=qa hrow;clear hrow;have HRC:=qa hrc;clear hrc;have HD:=qa hd;clear hd;have HD':=qa hd';clear hd';have HDK:=qa hdk;clear hdk;go_enter func67,ntmps67;go_wp2;refine I6 [0,1,2,3,4,5,6,7,8,9,10] [11,12] (by kernel_rfl) (by kernel_rfl) ?_;simp only[pk]
 repeat(go_big_quiet_step (fail))
 refine wpQuiet_nil ?_
 (unfold aF;go_wp2;refine⟨(aJ aO),?_⟩)
 (unfold aF;go_wp2;refine⟨(aJ aO),?_⟩)
 unfold aF;intro _
 have hO:Own (((w.alloc (.cells A 29)).alloc (.cells #[.int .u8 (p0%256),.int .u8 (p0/256%256)] 5)).drew) (w.heap.size+1) 5 (.slice (some ⟨w.heap.size+1,0,none⟩) 2 2) (bG (o6 p0)):=by
  have h1:=cN (w.alloc (.cells A 29)) (w.heap.size+1) #[.int .u8 (p0%256),.int .u8 (p0/256%256)] 5 (by simp) (by simp);rw[mA];have h2:=h1.up (aX _ 1);rw[<-World.drew_is_drewN]at h2;simpa using h2
 have HO:=qa hO;clear hO;go_wp2
 go_loopw [7,28] (fun vb i wr=>∃(k:Nat) (bs:List UInt8),k<=row.length/\i=.int .i64 k/\bs.length<=2+2*k/\Hid (bs=o6 p0++(row.take k).flatMap fun tgt=>o6 (part.getD tgt.toNat 0))/\Own wr (w.heap.size+1) 5 vb (bG bs)/\Below (w.heap.size+1) (w.alloc (.cells A 29)) wr) (fun _ i _=>row.length-(intOf i).toNat)
 case atStart=>exact⟨0,o6 p0,qd _,rfl,by simp[o6],qa (by simp),HO.o,gQ (Below.alloc (qn _ _) (by simp) _)⟩
 case round=>
  obtain⟨k,bs,hk,rfl,hbs,HBS,hown,qcw⟩:=hrel;have hsz:w.heap.size+1<=wr.heap.size:=by have:=qcw.size;simpa using this
  have hcw:∀q o,q<w.heap.size->wr.cell? ⟨q,o,none⟩=w.cell? ⟨q,o,none⟩:=fun q o hq=>by
   rw[qcw.cell (p:=⟨q,o,none⟩) (jf hq),World.cell?_alloc_past _ _ _ hq]
  have HB:=qa qcw;clear qcw;have HO:=qa hown;clear hown;by_cases hlt:k<row.length
  ·have hcell:=HCJ.o k hlt
   have hbi:bi<w.heap.size:=HDK.o.hblk (by omega);have qdK:bi<wr.heap.size:=by omega
   have hb2:b'<wr.heap.size:=by omega
   have hn1:some b'≠u7.ownBlock:=fun e=>by have:=HO.o.lt b' e.symm;omega
   have hto:=qkV.o _ (cE row k 0 hlt);have HT:=qa (aV row k 0 hlt);generalize row.getD k 0=tgt at*;obtain⟨q,rfl⟩:=jH hto.1;have hq:q<part.length:=by omega
   have hcq:=HRC.o q hq;have HP:Hid (part.getD (q:Int).toNat 0=part.getD q 0):=qa rfl;generalize part.getD q 0=y at*;have HN:=qa hn1;clear hn1;clear hto hcw
   have qmh:wr.cell? ⟨bi,fi+k,none⟩=some (.int .i64 (q:Int)):=by
    rw[HB.o.cell (p:=⟨bi,fi+k,none⟩) (jf hbi),World.cell?_alloc_past _ _ _ hbi];exact hcell
   have qmg:wr.cell? ⟨b',off'+q,none⟩=some (.int .i64 y):=by
    rw[HB.o.cell (p:=⟨b',off'+q,none⟩) (jf hb'),World.cell?_alloc_past _ _ _ hb'];exact hcq
   have hn1:=HN.o;go_wp2;refine oT u7.ownBlock [0,1,2,3,4,5,6,7,8,9,10,11] [12,13,14] (by kernel_rfl) (by kernel_rfl) ?_;simp only[pk]
   repeat(go_big_quiet_step (fail))
   refine wpQuiet_nil ?_
   (unfold aF;go_wp2;refine⟨dD (aK aO _),?_⟩)
   unfold aF
   have hx:Sl (wr.alloc (.cells #[.int .u8 (y%256),.int .u8 (y/256%256)] 5)).drew (.slice (some ⟨wr.heap.size,0,none⟩) 2 2) (bG (o6 y)):=by
    have h1:=(eK wr #[.int .u8 (y%256),.int .u8 (y/256%256)] 5 (by simp)).up (aX _ 1);rw[<-World.drew_is_drewN]at h1;rw[mA];simpa using h1
   have HX:=qa hx;clear hx
   go_wp2_with(at_builtin;refine bF rfl (.tmp 32) (.tmp 44) 58 rfl (w.heap.size+1) 5 (.int .u8 0) 1 underlying58 (by kernel_rfl) rfl (by decide) u7 (bG bs) rfl (HO.o.up aO) (.slice (some ⟨wr.heap.size,0,none⟩) 2 2) (bG (o6 y)) rfl HX.o (rU _) (by simp[dZ,o6];omega) (by simp;omega) ?_;intro v' w1 hown1 hg1 hk1;have HO1:=qa hown1;have HG1:=qa hg1;clear hown1 hg1 hk1)
   refine⟨dD (aL (aK aO _) HG1.o),?_⟩;unfold aF;go_wp2;refine⟨dD (aL (aK aO _) HG1.o),?_⟩;unfold aF;intro _ hz;clear hz;go_wp2
   go_roundw
   case rel=>
    refine⟨k+1,bs++o6 y,by omega,by go_num,by simp[o6];omega,qa ?_,?_,?_⟩
    ·rw[HT.o,aB,<-qk,<-HBS.o]
     symm
     show bs++(o6 (part.getD (q:Int).toNat 0)++[])=_;rw[HP.o,j7]
    ·rw[nL];exact HO1.o
    exact eO (B:=w.heap.size+1) (gQ (HB.o.alloc hsz _)) (by simp;omega) (HO.o.up aO) HG1.o
   case measure=>simp[intOf];omega
  have hcv:=fun W h=>lV (P:=prog) W 58 9 5 underlying58 underlying5 underlying9 u7 bs h;have qmj:=hcv wr HO.o.sl;clear hcv;go_wp2;go_ret;have h1:=HBS.o;rw[qG (by omega),<-HL.o]at h1;subst h1;exact⟨rfl,aJ ((aD w _).trans (HB.o.mono (by omega)))⟩
end Go.Cm
namespace Go.Cm
open Go.RowKit Go.Proofs Go.Maps
theorem d9:Keyed prog 9:=string_keyed underlying9
theorem dW(w:World):(zeroValue 3).run prog w=.ok (.int .i64 0) w:=by kernel_rfl
def q9W(d:Dfa)(w:World)(e:Ending)(w':World):Prop:=∃r part,e=.returned r/\eB w' r part/\O4 d part/\Below w.heap.size w w'
theorem q0G{d:Dfa}(h:bD d){i:Nat}(hi:i<d.next.length):∀tgt∈d.next.getD i [],0<=tgt/\tgt<d.next.length:=by
 obtain⟨_,_,_,k,hk,hr⟩:=h;obtain⟨-,-,-,hj⟩:=hr i hi;intro tgt ht;obtain⟨j,hjl,rfl⟩:=List.mem_iff_getElem.1 ht;have:=hj j hjl;rwa [qu (l:=d.next.getD i []),qy hjl,qN]at this
theorem q2Y{l m:List Int}(hl:l.length=m.length)(h:∀i,i<l.length->l.getD i 0=m.getD i 0):l=m:=by
 apply jV hl;intro i h1 h2;have:=h i h1;rwa [qu,qu,qy h1,qy h2,qN,qN]at this
theorem G2{d:Dfa}(h:bD d)(hc:d.cls.length=256){i:Nat}(hi:i<d.next.length):(d.next.getD i []).length<=1000:=by
 obtain⟨_,_,_,k,hk,hr⟩:=h;obtain⟨-,-,hl,-⟩:=hr i hi;have h1:=(iT d.cls 0 k hk).2;omega
theorem q6y{d:Dfa}(h:bD d)(hc:d.cls.length=256)(p:List Int){i:Nat}(hi:i<d.next.length):(m9 d p i).length<=2002:=by
 have h1:=G2 h hc hi
 have e:∀l:List Int,(l.flatMap fun tgt=>o6 (p.getD tgt.toNat 0)).length=2*l.length:=by
  intro l;induction l with
  |nil=>rfl
  |cons a l ih=>rw[List.flatMap_cons,qj,ih];simp[o6];omega
 rw[m9,qj,e];have h2:(o6 (p.getD i 0)).length=2:=rfl;omega
theorem J5(d:Dfa)(p:List Int){k:Nat}(hk:k<d.next.length):(pM d p).take (k+1)=(pM d p).take k++[m9 d p k]:=by
 rw[List.take_add_one,rS d p hk];rfl
theorem parts(v:Value)(d:Dfa)(w:World)(h:mX w v d)(hv:bD d):Calls prog 32 #[v] w (q9W d w):=by
 have hLk:=fun(w':World) (hb:Below w.heap.size w w') (pv:Value) (part:List Int) (s:Nat) (hp:eB w' pv part) hs1 hs2 hrow hlen=>qcu v pv d part s w' (h.up hb) hp hs1 hs2 hrow hlen;obtain⟨A,rfl,hs,hl,hc,⟨vn,hn,hrw⟩,⟨vr,hr,hru⟩⟩:=h;obtain⟨oa,cap,b,off,rfl,hd,-⟩:=hrw.open;obtain⟨oq,capq,bq,offq,rfl,hdq,hrq⟩:=hru.open;have qgE:=aT (P:=prog) 27 3 underlying27 (by kernel_rfl) hdq;have HLK:=qa hLk;clear hLk;have HS:=qa hs;clear hs hc;have HG:=qa (heap_alloc_new w (.cells A 29));have HQ:=qa hrq;clear hrq;have hn1:=hv.1;have hn2:=hv.2.1;have hrl:=hv.2.2.1;have HRL:=qa hrl;have hbq:=hdq.hblk (by omega);have qhT:d.rules.length<=1000:=by omega
 have HRG:Hid (∀i,i<d.next.length-> -1<=d.rules.getD i 0/\d.rules.getD i 0<32):=qa (fun i hi=>by
  obtain⟨_,_,_,k,hk,hr⟩:=hv;exact⟨(hr i hi).1,(hr i hi).2.1⟩)
 have HLC:=qa hl;clear hl;have HV:=qa hv;clear hv hrl;have hmk:=J8 (P:=prog) 27 3 (.int .i64 0) 8 d.next.length underlying27 (by kernel_rfl) rfl (by decide) (by omega);obtain⟨Mb,hM⟩:∃M,M=madeCells #[Value.int .i64 0] d.next.length:=⟨_,rfl⟩;rw[<-hM]at hmk;have HM:Hid (Mb.toList=ints (List.replicate d.next.length 0)):=qa (by rw[hM,toList_madeCells_one,sZ]);have HMS:Hid (Mb.size=d.next.length):=qa (by rw[hM,size_madeCells]);clear hM;have hmm:=@run_makeMap prog
 have HO1:Hid (Own ((w.alloc (.cells A 29)).alloc (.cells Mb 3)) (w.heap.size+1) 3 (.slice (some ⟨w.heap.size+1,0,none⟩) d.next.length d.next.length) (ints (List.replicate d.next.length 0))):=qa (by
  have h1:=cN (w.alloc (.cells A 29)) (w.heap.size+1) Mb 3 (by rw[HMS.o];omega) (by simp);rw[HM.o,HMS.o]at h1;simpa using h1)
 have HB1:Hid (Below (w.heap.size+1) (w.alloc (.cells A 29)) ((w.alloc (.cells A 29)).alloc (.cells Mb 3))):=qa ((qn _ _).alloc (by simp) _);go_enter func32,ntmps32;go_wp2
 go_step3
 go_wp2
 go_loopg [20] (d.next.length+1) (fun gk i wr=>∃(k:Nat) (p:List Int),k<=d.next.length/\i=.int .i64 k/\Own wr (w.heap.size+1) 3 (.slice (some ⟨w.heap.size+1,0,none⟩) d.next.length d.next.length) (ints p)/\Hid (p.length=d.next.length)/\Hid (∀a,a<k->p.getD a 0=d.rules.getD a 0+1)/\Below (w.heap.size+1) (w.alloc (.cells A 29)) wr/\gk=d.next.length+1-k)
 case atStart=>exact⟨0,_,qd _,rfl,HO1.o,qa (by simp),qa (fun a ha=>absurd ha (qC a)),HB1.o,rfl⟩
 case round=>
  clear HO1 HB1;obtain⟨k,p,hk,rfl,hown,HPL,HPV,qcw,rfl⟩:=hrel;have hsz:w.heap.size+1<=wr.heap.size:=by have:=qcw.size;simpa using this
  have HB:=qa qcw;clear qcw;have HO:=qa hown;clear hown;by_cases hlt:k<d.next.length
  ·have qdv:k<d.rules.length:=by rw[HRL.o];exact hlt
   have hq:=HQ.o k qdv;have hcq:wr.cell? ⟨bq,offq+k,none⟩=_:=(HB.o.cell (p:=⟨bq,offq+k,none⟩) (jf hbq)).trans ((World.cell?_alloc_past _ _ _ hbq).trans hq);have qmt:bq<wr.heap.size:=by omega
   obtain⟨hr1,hr2⟩:=HRG.o k hlt
   have hc4:wr.cell? ⟨w.heap.size+1,k,none⟩=some (.int .i64 (p.getD k 0)):=by
    rw[HO.o.cell (by rw[aS,HPL.o];exact hlt),fF p k (by rw[HPL.o];exact hlt)]
   have hf4:wr.frozen? ⟨w.heap.size+1,k,none⟩=false:=HO.o.free k;have HST:=qa (HO.o.store k (.int .i64 (d.rules.getD k 0+1)));rw[fK]at HST
   have HNV:Hid (∀a,a<k+1->(p.set k (d.rules.getD k 0+1)).getD a 0=d.rules.getD a 0+1):=qa (fun a ha=>by
    rw[pK];rcases Nat.lt_succ_iff_lt_or_eq.1 ha with h1|rfl
    ·rw[qv (by omega)];exact HPV.o a h1
    rw[qw ⟨rfl,by rw[HPL.o];exact hlt⟩])
   have hlr:(k:Int)<(d.rules.length:Int):=by omega
   generalize d.rules.getD k 0=y at*;generalize p.getD k 0=y0 at*;clear hq;go_wp2
   go_roundg (d.next.length+1-(k+1))
   case measure=>omega
   case rel=>exact⟨k+1,p.set k (y+1),by omega,by go_num,HST.o.1,qa (by simp[HPL.o]),qa HNV.o,HB.o.setCell (qb _) _,rfl⟩
  have hkn:k=d.next.length:=by omega
  have HP0:Hid (X8 d p):=qa (X8.start HV.o p HPL.o (fun i hi=>HPV.o i (by omega)));have hge:¬((k:Int)<(d.rules.length:Int)):=by rw[HRL.o];omega
  clear HPV hkn qgE hlt;go_wp2
  go_step3
  go_wp2;have HO0:Hid (Own wr (w.heap.size+1) 3 (.slice (some ⟨w.heap.size+1,0,none⟩) d.next.length d.next.length) (ints p)):=qa HO.o;generalize hp0:p=p1 at HO0 HP0;clear HO hp0 HPL;have HB2:Hid (Below (w.heap.size+1) (w.alloc (.cells A 29)) wr):=qa HB.o;clear HB
  go_loopg [3,6] (d.next.length+1) (fun gk vp s6 wq=>∃(p:List Int) (cnt:Nat),s6=.int .i64 cnt/\Own wq (w.heap.size+1) 3 vp (ints p)/\Hid (X8 d p)/\cnt<=d.next.length/\Hid (cnt=0\/cnt=(eH p).length)/\Below (w.heap.size+1) (w.alloc (.cells A 29)) wq/\gk=d.next.length+1-cnt)
  case atStart=>exact⟨p1,0,rfl,HO0.o,HP0,qd _,qa (.inl rfl),HB2.o,rfl⟩
  case round=>
   clear HO0 HB2 HP0
   revert wr;intro wo hrel
   obtain⟨p,cnt,rfl,hown,HP,hcn,HCT,qcw,rfl⟩:=hrel;have hpl:(ints p).length=d.next.length:=by rw[aS,HP.o.len]
   obtain⟨oz,cz,gz,rfl,-⟩:=hown.cases;rw[hpl]at hown⊢;have hsz:w.heap.size+1<=wo.heap.size:=by have:=qcw.size;simpa using this
   have hbw:Below w.heap.size w wo:=(aD w _).trans (qcw.mono (by omega));have HW:=qa hbw;clear hbw;have HB:=qa qcw;clear qcw;have HO:=qa hown;clear hown hpl;have HSL:Hid ((pM d p).length=d.next.length):=qa (zI d p)
   have HO1:Hid (Own ((wo.alloc (.map #[] 0)).alloc (.cells Mb 3)) (wo.heap.size+1) 3 (.slice (some ⟨wo.heap.size+1,0,none⟩) d.next.length d.next.length) (ints (List.replicate d.next.length 0))):=qa (by
    have h1:=cN (wo.alloc (.map #[] 0)) (wo.heap.size+1) Mb 3 (by rw[HMS.o];omega) (by simp);rw[HM.o,HMS.o]at h1;simpa using h1)
   have HMP:Hid (eS prog 9 3 (fun s:List UInt8=>Lit.string s) ((wo.alloc (.map #[] 0)).alloc (.cells Mb 3)) wo.heap.size []):=qa ((eS.made wo _).up (aD _ _));have HB1:Hid (Below wo.heap.size wo ((wo.alloc (.map #[] 0)).alloc (.cells Mb 3))):=qa aO;clear HM HMS;go_wp2
   go_loopg [37] (d.next.length+1) (fun gk i wq=>∃(k:Nat) (nx:List Int),k<=d.next.length/\i=.int .i64 k/\eS prog 9 3 (fun s:List UInt8=>Lit.string s) wq wo.heap.size (eH ((pM d p).take k))/\Own wq (wo.heap.size+1) 3 (.slice (some ⟨wo.heap.size+1,0,none⟩) d.next.length d.next.length) (ints nx)/\Hid (nx.length=d.next.length)/\Hid (∀a,a<k->nx.getD a 0=(iD d p).getD a 0)/\Below wo.heap.size wo wq/\gk=d.next.length+1-k)
   case atStart=>exact⟨0,_,qd _,rfl,HMP.o,HO1.o,qa (by simp),qa (fun a ha=>absurd ha (qC a)),HB1.o,rfl⟩
   case round=>
    clear HO1 HMP HB1 hmm hmk;obtain⟨k,nx,hk,rfl,hmap,hown,HNL,HNV,qcw,rfl⟩:=hrel;have qcH:wo.heap.size<=wr.heap.size:=qcw.size;have HB1:=qa qcw;clear qcw;have HN:=qa hown;clear hown;have HP1:Hid (eB wr (.slice oz d.next.length cz) p):=qa ((HO.o.up HB1.o).sl);have HBB:Hid (Below w.heap.size w wr):=qa (HW.o.trans (HB1.o.mono (by omega)))
    have HG1:Hid (wr.heap[w.heap.size]? =some (.cells A 29)):=qa (by
     rw[HB1.o.block _ (by omega),HB.o.block _ (by omega)];exact HG.o)
    by_cases hlt:k<d.next.length
    ·have hlk:=HLK.o wr HBB.o (.slice oz d.next.length cz) p k HP1.o hlt (by rw[HP.o.len];exact hlt) (by rw[HP.o.len];exact q0G HV.o hlt) (G2 HV.o HLC.o hlt)
     have HT1:=qa (J5 d p hlt);have HNP:=qa (kW d p hlt);have HTL:=qa (q6y HV.o HLC.o p hlt);have HAP:=qa (fun(x:List UInt8) hx=>oH ((pM d p).take (k+1)) ((pM d p).drop (k+1)) (x:=x) hx);rw[j8]at HAP;generalize m9 d p k=t at*
     have hkey:keyOf prog 9 (.string ⟨t.toArray⟩)=some (.string t):=by
      have:=Go.WideMaps.keyOf_string_mk (P:=prog) (k:=9) underlying9 (s:=⟨t.toArray⟩) (by have:=HTL.o;show t.toArray.size<=_;simp[maxLen];omega);simpa using this
     obtain⟨D,hD,hM⟩:=hmap;have HM:=qa hM;clear hM;have HD:=qa hD;clear hD;have HKL:Hid ((eH ((pM d p).take k)).length<=k):=qa (by have:=uU ((pM d p).take k);simp at this;omega);have HLK:=qa hlk;clear hlk;have HKEY:=qa hkey;clear hkey
     have qml:∀x,(ext wr x).cell? ⟨wo.heap.size+1,k,none⟩=some (.int .i64 (nx.getD k 0)):=fun x=>by
      rw[(HN.o.up (aE wr x)).cell (by rw[aS,HNL.o];exact hlt),fF nx k (by rw[HNL.o];exact hlt)]
     have qma:∀x,(ext wr x).frozen? ⟨wo.heap.size+1,k,none⟩=false:=fun x=>(HN.o.up (aE wr x)).free k;generalize nx.getD k 0=y0 at*;by_cases qcx:t∈eH ((pM d p).take k)
     ·have qdb:Hid (Maps.has D (.string t)=true):=qa (by rw[HM.o.2.2.1 t];simpa using qcx)
      have qcG:=qa qcx;clear qcx
      go_wp2_with(first|(refine dI rfl _ rfl w.heap.size rfl A HS.o HG1.o ?_)|(go_at_call 67;refine HLK.o.mono ?_;rintro e w' ⟨rfl,x,rfl⟩)|(at_lookup;go_loud (refine wpList_lookup_own_ok_int _ rfl _ _ 65 rfl 9 3 .i64 d9 underlying65 underlying3 (dW _) wo.heap.size _ D rfl (HD.o.kept (aK (aE wr _) none) (by simp)) _ _ rfl HKEY.o ?_;intro c hat hwc;rw[qdb.o];have hce:=HM.o.at_eq qcG.o hat;subst hce;clear hat hwc)))
      go_roundg (d.next.length+1-(k+1))
      case measure=>omega
      case rel=>
       have HST:=(HN.o.up (aE wr x)).store k (.int .i64 (idx (eH ((pM d p).take k)) t:Nat));rw[fK]at HST;refine⟨k+1,nx.set k (idx (eH ((pM d p).take k)) t:Nat),by omega,by go_num,?_,HST.1,qa (by simp[HNL.o]),qa (fun a ha=>?_),(X9 HB1.o qcH x).setCell (jd _) _,rfl⟩
       ·rw[HT1.o,fI,aQ,qw qcG.o]
        exact eS.keep ⟨D,HD.o,HM.o⟩ (aL (aK (aE wr x) _) HST.2) (by simp)
       rw[pK];rcases Nat.lt_succ_iff_lt_or_eq.1 ha with h1|rfl
       ·rw[qv (by omega)];exact HNV.o a h1
       rw[qw ⟨rfl,by rw[HNL.o];exact hlt⟩,HNP.o,HAP.o t (by rw[HT1.o];simp),HT1.o,fI,aQ,qw qcG.o]
     have qdb:Hid (Maps.has D (.string t)=false):=qa (by rw[HM.o.2.2.1 t];simpa using qcx);have qcG:=qa qcx;clear qcx
     go_wp2_with(first|(refine dI rfl _ rfl w.heap.size rfl A HS.o HG1.o ?_)|(go_at_call 67;refine HLK.o.mono ?_;rintro e w' ⟨rfl,x,rfl⟩;have HX:=qa (aK (aE wr x) (some wo.heap.size));have HXN:=qa (HN.o.up (aE wr x)))|(at_lookup;go_loud (refine wpList_lookup_own_ok_int _ rfl _ _ 65 rfl 9 3 .i64 d9 underlying65 underlying3 (dW _) wo.heap.size _ D rfl (HD.o.kept (aK (aE wr _) none) (by simp)) _ _ rfl HKEY.o ?_;intro c hat hwc;rw[qdb.o];clear hat hwc))|(at_len;go_loud (refine wpList_len_own _ rfl _ 65 rfl 9 3 underlying65 _ wo.heap.size _ D rfl (HD.o.kept (aK (aE wr _) none) (by simp)) ?_;rw[HM.o.2.1]))|(at_mapUpdate;go_loud (refine wpList_mapUpdate_own _ rfl _ _ _ 65 rfl 9 3 d9 underlying65 _ wo.heap.size _ D rfl (HD.o.kept (aK (aE wr _) none) (by simp)) (by have:=HKL.o;unfold maxLen;omega) _ _ _ rfl rfl HKEY.o _ [] (plainElem_int underlying3 (qa3 _ (by have:=HKL.o;omega))) ?_;intro w1 hown1 qcS;have HX1:=qa (HXN.o.keep qcS (by simp[Value.ownBlock]));have HD1:=qa hown1;have HG2:=qa qcS;have qkm:=HX1.o.cell (i:=k) (by rw[aS,HNL.o];exact hlt);rw[fF nx k (by rw[HNL.o];exact hlt)]at qkm;have qm9:=HX1.o.free k;clear hown1 qcS)))
     go_roundg (d.next.length+1-(k+1))
     case measure=>omega
     case rel=>
      have HST:=HX1.o.store k (.int .i64 ((eH ((pM d p).take k)).length:Nat));rw[fK]at HST;refine⟨k+1,nx.set k ((eH ((pM d p).take k)).length:Nat),by omega,by go_num,?_,HST.1,qa (by simp[HNL.o]),qa (fun a ha=>?_),((X9 HB1.o qcH x).grown HG2.o (X9 HB1.o qcH x).size (fun j hj=>by cases hj;exact qb _)).setCell (jd _) _,rfl⟩
      ·rw[HT1.o,fI,aQ,qv qcG.o]
       refine eS.keep ⟨_,?_,HM.o.snoc q0q qcG.o⟩ HST.2 (by simp);rw[qj];exact HD1.o
      rw[pK];rcases Nat.lt_succ_iff_lt_or_eq.1 ha with h1|rfl
      ·rw[qv (by omega)];exact HNV.o a h1
      rw[qw ⟨rfl,by rw[HNL.o];exact hlt⟩,HNP.o,HAP.o t (by rw[HT1.o];simp),HT1.o,fI,aQ,qv qcG.o,cV qcG.o]
    have hkn:k=d.next.length:=by omega
    subst hkn;have HNX:Hid (nx=iD d p):=qa (q2Y (by rw[HNL.o,(X8.next HV.o HP.o).len]) (fun i hi=>HNV.o i (by rw[<-HNL.o];exact hi)));have hst:(pM d p).take d.next.length=pM d p:=qG (by rw[HSL.o];exact qb _);rw[hst]at hmap;clear hst HNV;obtain⟨D,hD,hM⟩:=hmap;have HM:=qa hM;clear hM;have HD:=qa hD;clear hD;have HUL:Hid ((eH (pM d p)).length<=d.next.length):=qa (by rw[<-HSL.o];exact uU _);have HU1:Hid (0<(eH (pM d p)).length):=qa (List.length_pos_of_mem ((dF _ _).2 (sN d p (i:=0) (by omega))))
    have HC1:Hid (cnt<=(eH (pM d p)).length):=qa (by
     rcases HCT.o with h|h
     ·omega
     rw[h];exact q0F HP.o)
    by_cases hcc:((eH (pM d p)).length:Int)=(cnt:Int)
    ·have HCC:=qa hcc
     go_wp2_with(at_len;go_loud (refine wpList_len_own _ rfl _ 65 rfl 9 3 underlying65 _ wo.heap.size _ D rfl HD.o ?_;rw[HM.o.2.1]))
     try rw[Exit.noGoto_ret]
     go_ret;refine⟨_,_,rfl,HN.o.sl,?_,HBB.o⟩;rw[HNX.o];refine X8.ok HV.o HP.o ?_;have h1:=HCC.o;rcases HCT.o with h|h
     ·have:=HU1.o;omega
     omega
    have HCC:=qa hcc
    go_wp2_with(at_len;go_loud (refine wpList_len_own _ rfl _ 65 rfl 9 3 underlying65 _ wo.heap.size _ D rfl HD.o ?_;rw[HM.o.2.1]))
    go_roundg (d.next.length+1-(eH (pM d p)).length)
    case measure=>have:=HUL.o;have:=HC1.o;have:=HCC.o;omega
    case rel=>exact⟨iD d p,(eH (pM d p)).length,rfl,by rw[<-HNX.o];exact HN.o.mono (by omega),qa (X8.next HV.o HP.o),HUL.o,qa (.inr (W5 p).symm),HB.o.trans (HB1.o.mono hsz),rfl⟩
end Go.Cm
namespace Go.Cm
open Go.RowKit Go.Proofs
def mD(l:List Bool):List Value:=l.map Value.bool
theorem W8(l:List Bool):(mD l).length=l.length:=by simp[mD]
theorem q1H(l:List Bool)(j:Nat)(h:j<l.length):(mD l).getD j undef=.bool (l.getD j false):=by simp[mD,List.getD,h]
theorem q3P(l:List Bool)(j:Nat)(b:Bool):(mD l).set j (.bool b)=mD (l.set j b):=by simp[mD,aC]
theorem J7(M:List (List Bool))(i:Nat):(M.map mD).getD i []=mD (M.getD i []):=by
 simp only[qu,qU];cases M[i]? <;>simp[mD]
theorem W9(M:List (List Bool))(i j:Nat):(M.map mD).set i (mD ((M.getD i []).set j true))=(q86 M i j).map mD:=by simp[q86,aC]
theorem eG.at{w:World}{B E E' n:Nat}{v:Value}{vs:List Value}{M:List (List Bool)}(h:eG w B E E' v vs (M.map mD))(ht:Tab n M){a:Nat}(ha:a<n):
  ∃oi ci gi,vs.getD a undef=.slice oi n ci/\Hd w oi n ci gi 0/\(0<n->(vs.getD a undef).ownBlock=some gi/\B<=gi)/\(∀b,b<n->w.cell? ⟨gi,b,none⟩=some (.bool (mrk M a b)))/\(∀b,b<n->w.frozen? ⟨gi,b,none⟩=false)/\
   ∀b,b<n->eG (w.setCell ⟨gi,b,none⟩ (.bool true)) B E E' v vs ((q86 M a b).map mD)/\w.grownBy (w.setCell ⟨gi,b,none⟩ (.bool true)) (some gi):=by
 have hal:a<(M.map mD).length:=by simp[ht.len,ha]
 have hr:=h.rows a hal;rw[J7]at hr;obtain⟨oi,ci,gi,he,hd,hb,hc,hf,hs⟩:=hr.cases;simp only[W8,ht.row a ha]at he hd hb hc hf hs;refine⟨oi,ci,gi,he,hd,hb,fun b hb'=>?_,hf,fun b hb'=>?_⟩
 ·rw[hc b hb',q1H _ _ (by rw[ht.row a ha];exact hb')];rfl
 obtain⟨h1,h2⟩:=hs b (.bool true) hb';rw[q3P]at h1;have h3:=h.writeRow hal h1 (by rw[(hb (by omega)).1];exact h2);rw[W9]at h3;exact⟨h3,h2⟩
structure qa7(d:Dfa)(c0:Nat)(M:List (List Bool))(ag:Bool)(done:Nat->Nat->Nat->Prop):Prop where
 marks:q3L d M
 le:qb2 M<=c0
 lt:ag=true->qb2 M<c0
 closed:ag=false->∀i j c,i<d.next.length->j<d.next.length->c<kN_MiniE d->done i j c->W3 d M i j c
theorem qa7.mono{d:Dfa}{c0:Nat}{M:List (List Bool)}{ag:Bool}{p q:Nat->Nat->Nat->Prop}(h:qa7 d c0 M ag p)(hq:∀i j c,i<d.next.length->j<d.next.length->c<kN_MiniE d->q i j c->p i j c):qa7 d c0 M ag q:=
 ⟨h.marks,h.le,h.lt,fun e i j c hi hj hc hh=>h.closed e i j c hi hj hc (hq i j c hi hj hc hh)⟩
theorem qa7.skip{d:Dfa}{c0:Nat}{M:List (List Bool)}{ag:Bool}{p:Nat->Nat->Nat->Prop}{i j c:Nat}(h:qa7 d c0 M ag p)(hcl:W3 d M i j c):qa7 d c0 M ag (fun a b e=>p a b e\/(a=i/\b=j/\e=c)):=
 ⟨h.marks,h.le,h.lt,fun e a b f ha hb hf hh=>by
  rcases hh with hh|⟨rfl,rfl,rfl⟩
  ·exact h.closed e a b f ha hb hf hh
  exact hcl⟩
theorem gO{w:World}{B E:Nat}{v:Value}{xs:List Value}(h:Own w B E v xs):v.oneCell'=true:=by
 rcases h.1.2 with⟨rfl,_⟩|⟨g,cap,cur,rfl,_⟩<;>rfl
theorem q0J{w:World}{B E:Nat}{v:Value}{xs:List Value}(h:Own w B E v xs):∃oz nz cz,v=.slice oz nz cz:=by
 obtain⟨oz,cz,_,h,-⟩:=h.cases;exact⟨oz,_,cz,h⟩
theorem eG.new{w w':World}{B E E':Nat}{v:Value}{vs:List Value}{ll:List (List Value)}(h:eG w B E E' v vs ll){v':Value}{o:Obj}(ho:Own w' B E v' (vs++[.slice none 0 0]))(hg:(w.alloc o).grownBy w' v.ownBlock)(hk:∀k,v'.ownBlock=some k->v.ownBlock=some k\/(w.alloc o).heap.size<=k):
  ∃g c,v'=.slice (some ⟨g,0,none⟩) (vs.length+1) c/\Hd w' (some ⟨g,0,none⟩) (vs.length+1) c g 0/\eG w' B E E' (.slice (some ⟨g,0,none⟩) (vs.length+1) c) (vs++[.slice none 0 0]) (ll++[[]])/\w'.cell? ⟨g,vs.length,none⟩=some (.slice none 0 0):=by
 have hp:=h.push (r:=.slice none 0 0) (xs:=[]) (Own.nil _ _ _) ⟨fun k hk e=>by simp[Value.ownBlock]at e,fun i _ k hk e=>by simp[Value.ownBlock]at e⟩ (aK (aD w o) none) ho hg hk;obtain⟨oa,c,g,he,hd,-,hc,-⟩:=ho.cases;rw[qj]at he hd hc;have h1:=hd.hat (by simp);subst h1;subst he;refine⟨g,c,rfl,hd,hp,?_⟩;rw[hc _ (by simp),cJ]
end Go.Cm
