/- Walks of functions and plain facts, joined and squeezed by a program. Conditions: as each says. -/
import Derived.Test.YtiladjhipahiiaaGreatDLXB
set_option maxHeartbeats 8000000
set_option maxRecDepth 100000
set_option linter.unusedSimpArgs false
open Go.Proofs.Tryz
namespace Go.Cm
open Go.RowKit Go.Proofs
theorem ZmF0{P:Prop}(h:P:=by
 go_wp2_with(first|(refine lN rfl _ rfl w.heap.size rfl A B HS.o HB.o HG.o ?_)|(refine lN rfl _ rfl (w.heap.size+1) rfl A' B' HS'.o HB'.o HG'.o ?_))
 all_goals go_ret
 all_goals exact⟨cT (by rw[HF.o]),(aJ aO)⟩):P:=h
theorem q1D{X Y:Array Value}{l m:List Int}(hl:l.length=256)(hm:m.length=256)(hx:∀i,i<256->X[i]? =some (.int .i64 (l.getD i 0)))(hy:∀i,i<256->Y[i]? =some (.int .i64 (m.getD i 0)))(W:World):
  (binOp .neq 25 (.agg X) (.agg Y)).run prog W=.ok (.bool (!decide (l=m))) W:=by
 have h:=yD (P:=prog) W 25 3 256 underlying25 underlying3 (by kernel_rfl) X Y l m hl hm hx hy 9998;simp only[binOp,Op.equal,Op.maxDepth];rw[Sem.run_bind,h]
 rfl
theorem q1E(W:World)(x y:Operand)(X Y:Array Value):(eqGuard .neq 25 x y (.agg X) (.agg Y)).run prog W=.ok () W:=run_eqGuard_agg W .neq 25 x y X Y (by kernel_rfl)
theorem same(v1 v2:Value)(d e:Dfa)(w:World)(h1:mX w v1 d)(h2:mX w v2 e):
  Calls prog 10 #[v1,v2] w fun en w'=>en=.returned (.bool (uT d e))/\∃x,w'=ext w x:=by
 obtain⟨A,rfl,hs,hl,hc,⟨vn,hn,hrow⟩,⟨vr,hr,hru⟩⟩:=h1;obtain⟨A',rfl,hs',hl',hc',⟨vn',hn',hrow'⟩,⟨vr',hr',qjL⟩⟩:=h2;obtain⟨oa,cap,b,off,rfl,hd,hro⟩:=hrow.open;obtain⟨oa',cap',b',off',rfl,hd',qhR⟩:=hrow'.open;obtain⟨oq,capq,bq,offq,rfl,hdq,hrq⟩:=hru.open;obtain⟨oq',capq',bq',offq',rfl,qgJ,qhQ⟩:=qjL.open;have hix:=aT (P:=prog) 26 27 underlying26 (by kernel_rfl) hd;have qgF:=aT (P:=prog) 26 27 underlying26 (by kernel_rfl) hd';have qgE:=aT (P:=prog) 27 3 underlying27 (by kernel_rfl) hdq;have qk4:=aT (P:=prog) 27 3 underlying27 (by kernel_rfl) qgJ;have hm:=hd.len;have hm':=hd'.len;have hmq:=hdq.len;have qlR:=qgJ.len;obtain⟨B,hB⟩:∃B,A.extract 0 256=B:=⟨_,rfl⟩;obtain⟨B',hB'⟩:∃B,A'.extract 0 256=B:=⟨_,rfl⟩;have qi2:=q1D (X:=B) (Y:=B') hl hl' (fun i hi=>by rw[<-hB,Array.getElem?_extract,qw (by omega)];simpa using hc i hi) (fun i hi=>by rw[<-hB',Array.getElem?_extract,qw (by omega)];simpa using hc' i hi);have hgd:=fun W x y=>q1E W x y B B';have HS:=qa hs;clear hs hc hl;have HS':=qa hs';clear hs' hc' hl';have HB:=qa hB;clear hB;have HB':=qa hB';clear hB';have HG:Hid (((w.alloc (.cells A 29)).alloc (.cells A' 29)).heap[w.heap.size]? =some (.cells A 29 (0,0))):=qa (heap_alloc2_old w _ _);have HG':Hid (((w.alloc (.cells A 29)).alloc (.cells A' 29)).heap[w.heap.size+1]? =some (.cells A' 29 (0,0))):=qa (heap_alloc2_new w _ _);have HR:=qa hro;clear hro;have HR':=qa qhR;clear qhR;have HQ:=qa hrq;clear hrq;have HQ':=qa qhQ;clear qhQ;by_cases hcls:d.cls=e.cls
 ·have hdc:decide (d.cls=e.cls)=true:=by simpa using hcls
  have HC:=qa hcls;clear hcls;rw[hdc]at qi2;by_cases hln:d.next.length=e.next.length
  ·have hb1:((d.next.length:Int) != (e.next.length:Int))=false:=by simp[hln]
   have HLN:=qa hln;clear hln;by_cases hlr:d.rules.length=e.rules.length
   ·have hb2:((d.rules.length:Int) != (e.rules.length:Int))=false:=by simp[hlr]
    have HLR:=qa hlr;clear hlr;go_enter func10,ntmps10
    go_wp2_with(first|(refine lN rfl _ rfl w.heap.size rfl A B HS.o HB.o HG.o ?_)|(refine lN rfl _ rfl (w.heap.size+1) rfl A' B' HS'.o HB'.o HG'.o ?_))
    have hw1:((w.alloc (.cells A 29)).alloc (.cells A' 29)).cell? ⟨w.heap.size,256,none⟩=some (.slice oa d.next.length cap):=by rw[World.cell?_alloc2_first];exact hn
    have hw2:((w.alloc (.cells A 29)).alloc (.cells A' 29)).cell? ⟨w.heap.size+1,256,none⟩=some (.slice oa' e.next.length cap'):=by rw[World.cell?_alloc2_new];exact hn'
    have hw3:((w.alloc (.cells A 29)).alloc (.cells A' 29)).cell? ⟨w.heap.size,257,none⟩=some (.slice oq d.rules.length capq):=by rw[World.cell?_alloc2_first];exact hr
    have hw4:((w.alloc (.cells A 29)).alloc (.cells A' 29)).cell? ⟨w.heap.size+1,257,none⟩=some (.slice oq' e.rules.length capq'):=by rw[World.cell?_alloc2_new];exact hr'
    have qcw:Below w.heap.size w ((w.alloc (.cells A 29)).alloc (.cells A' 29)):=aO;generalize (w.alloc (.cells A 29)).alloc (.cells A' 29)=w1 at*;have HBW:=qa qcw;clear qcw
    go_loopw [5] (fun i wr=>∃k:Nat,k<=d.next.length/\i=.int .i64 k/\Hid (d.next.take k=e.next.take k)/\∃n,wr=w1.drewN n) (fun i _=>d.next.length-(intOf i).toNat)
    case atStart=>exact⟨0,qd _,rfl,qa (by simp),0,rfl⟩
    case round=>
     obtain⟨k,hk,rfl,HT,n,rfl⟩:=hrel;by_cases hlt:k<d.next.length
     ·have qdv:k<e.next.length:=by have:=HLN.o;omega
      obtain⟨oi,ci,bi,fi,hck,hdk,hcj,-⟩:=HR.o k hlt;obtain⟨oi',ci',bi',fi',qik,qg0,qim,-⟩:=HR'.o k qdv;have hb:=hd.hblk (by omega);have hb':=hd'.hblk (by omega);have qg1:w1.cell? ⟨b,off+k,none⟩=_:=(HBW.o.cell (p:=⟨b,off+k,none⟩) hb).trans hck;have qkp:w1.cell? ⟨b',off'+k,none⟩=_:=(HBW.o.cell (p:=⟨b',off'+k,none⟩) hb').trans qik;have qd5:=aT (P:=prog) 27 3 underlying27 (by kernel_rfl) hdk;have qk6:=aT (P:=prog) 27 3 underlying27 (by kernel_rfl) qg0;have hbi:=hdk.hblk;have qg5:=qg0.hblk;have hlk:=hdk.hsml;have qlV:=qg0.hsml;have HTS:=qa (aV d.next k [] hlt);have qkO:=qa (aV e.next k [] qdv)
      have HNE:Hid (e.next.getD k []≠d.next.getD k []->uT d e=false):=qa (fun h2=>by
       simp only[uT,qt];rintro⟨-,h,-⟩;exact h2 (by rw[h]))
      generalize d.next.getD k []=row at*;generalize e.next.getD k []=row' at*;have HCJ:=qa hcj;clear hcj;have qlm:=qa qim;clear qim;clear hck qik hdk qg0;by_cases hrl:row.length=row'.length
      ·have hb3:((row.length:Int) != (row'.length:Int))=false:=by simp[hrl]
       have HRL:=qa hrl;clear hrl;go_wp2
       go_quiet (fail)
       go_wp2
       go_loopw [6] (fun i wr=>∃j:Nat,j<=row.length/\i=.int .i64 j/\Hid (row.take j=row'.take j)/\∃n,wr=w1.drewN n) (fun i _=>row.length-(intOf i).toNat)
       case atStart=>exact⟨0,qd _,rfl,qa (by simp),_,World.drewN_drewN _ _ _⟩
       case round=>
        obtain⟨j,hj,rfl,HTJ,n2,rfl⟩:=hrel;by_cases qcC:j<row.length
        ·have qdu:j<row'.length:=by have:=HRL.o;omega
         have hcc:=(HBW.o.cell (p:=⟨bi,fi+j,none⟩) (hbi (by omega))).trans (HCJ.o j qcC);have qkr:=(HBW.o.cell (p:=⟨bi',fi'+j,none⟩) (qg5 (by omega))).trans (qlm.o j qdu);have HTT:=qa (aV row j 0 qcC);have qgT:=qa (aV row' j 0 qdu);have qh7:Hid (row.getD j 0≠row'.getD j 0->row'≠row):=qa (fun h e=>h (by rw[e]));generalize row.getD j 0=y at*;generalize row'.getD j 0=y' at*;by_cases hy:y=y'
         ·subst hy
          have hyb:(y != y)=false:=by simp
          go_wp2
          go_quiet (fail)
          go_wp2
          go_roundw
          case rel=>exact⟨j+1,by omega,by go_num,qa (by rw[HTT.o,qgT.o,HTJ.o]),_,rfl⟩
          case measure=>simp[intOf];omega
         have hyb:(y != y')=true:=by simpa using hy
         go_wp2
         go_quiet (fail)
         go_wp2;go_ret;have h0:=HNE.o (qh7.o hy);exact⟨cT (by rw[h0]),aJ (lY (lY HBW.o _) _)⟩
        go_wp2
        go_roundw
        case rel=>
         have h0:=HTJ.o;rw[qG (by omega),qG (by have:=HRL.o;omega)]at h0;exact⟨k+1,by omega,by go_num,qa (by rw[HTS.o,qkO.o,HT.o,h0]),_,rfl⟩
        case measure=>simp[intOf];omega
      have hb3:((row.length:Int) != (row'.length:Int))=true:=by simp;omega
      have HNL:Hid (row'≠row):=qa (fun e=>hrl (by rw[e]));clear hrl;go_wp2
      go_quiet (fail)
      go_wp2;go_ret;have h0:=HNE.o HNL.o;exact⟨cT (by rw[h0]),aJ (lY (lY HBW.o _) _)⟩
     have HNX:Hid (d.next=e.next):=qa (by
      have h0:=HT.o;rwa [qG (by omega),qG (by have:=HLN.o;omega)]at h0)
     go_wp2
     go_loopw [7] (fun i wr=>∃k:Nat,k<=d.rules.length/\i=.int .i64 k/\Hid (d.rules.take k=e.rules.take k)/\∃n,wr=w1.drewN n) (fun i _=>d.rules.length-(intOf i).toNat)
     case atStart=>exact⟨0,qd _,rfl,qa (by simp),_,rfl⟩
     case round=>
      clear hk hlt HT;obtain⟨k,hk,rfl,HT,n2,rfl⟩:=hrel;by_cases hlt:k<d.rules.length
      ·have qdv:k<e.rules.length:=by have:=HLR.o;omega
       have hbq:=hdq.hblk (by omega);have qky:=qgJ.hblk (by omega);have hcc:=(HBW.o.cell (p:=⟨bq,offq+k,none⟩) hbq).trans (HQ.o k hlt);have qkr:=(HBW.o.cell (p:=⟨bq',offq'+k,none⟩) qky).trans (HQ'.o k qdv);have HTT:=qa (aV d.rules k 0 hlt);have qgT:=qa (aV e.rules k 0 qdv)
       have qh7:Hid (d.rules.getD k 0≠e.rules.getD k 0->uT d e=false):=qa (fun h=>by
        simp only[uT,qt];rintro⟨-,-,e⟩;exact h (by rw[e]))
       generalize d.rules.getD k 0=y at*;generalize e.rules.getD k 0=y' at*;by_cases hy:y=y'
       ·subst hy
        have hyb:(y != y)=false:=by simp
        go_wp2
        go_quiet (fail)
        go_wp2
        go_roundw
        case rel=>exact⟨k+1,by omega,by go_num,qa (by rw[HTT.o,qgT.o,HT.o]),_,rfl⟩
        case measure=>simp[intOf];omega
       have hyb:(y != y')=true:=by simpa using hy
       go_wp2
       go_quiet (fail)
       go_wp2;go_ret;exact⟨cT (by rw[qh7.o hy]),aJ (lY (lY HBW.o _) _)⟩
      go_wp2;go_ret;have h0:=HT.o;rw[qG (by omega),qG (by have:=HLR.o;omega)]at h0;exact⟨cT (by simp only[uT];symm;rw[jn];exact⟨HC.o,HNX.o,h0⟩),aJ (lY HBW.o _)⟩
   have hb2:((d.rules.length:Int) != (e.rules.length:Int))=true:=by simp;omega
   have HF:Hid (uT d e=false):=qa (by simp only[uT,qt];rintro⟨-,-,h⟩;exact hlr (by rw[h]));clear hlr;go_enter func10,ntmps10
   exact ZmF0
  have hb1:((d.next.length:Int) != (e.next.length:Int))=true:=by simp;omega
  have HF:Hid (uT d e=false):=qa (by simp only[uT,qt];rintro⟨-,h,-⟩;exact hln (by rw[h]));clear hln;go_enter func10,ntmps10
  exact ZmF0
 have hdc:decide (d.cls=e.cls)=false:=by simpa using hcls
 have HF:Hid (uT d e=false):=qa (by simp only[uT,qt];rintro⟨h,-,-⟩;exact hcls h);clear hcls;rw[hdc]at qi2;go_enter func10,ntmps10
 go_wp2_with(first|(refine lN rfl _ rfl w.heap.size rfl A B HS.o HB.o HG.o ?_)|(refine lN rfl _ rfl (w.heap.size+1) rfl A' B' HS'.o HB'.o HG'.o ?_))
 all_goals go_ret
 all_goals exact⟨cT (by rw[HF.o]),(aJ aO)⟩
end Go.Cm
