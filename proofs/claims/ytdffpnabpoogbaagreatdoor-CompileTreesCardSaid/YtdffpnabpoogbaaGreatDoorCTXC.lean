/- Walks of functions and plain facts, joined and squeezed by a program. Conditions: as each says. -/
import Derived.Deep.LoopGhost
import Derived.StringKeys
import Derived.Test.YtdffpnabpoogbaaGreatDoorCTXA
import Derived.Test.YtdffpnabpoogbaaGreatDoorCTXB
set_option maxHeartbeats 8000000
set_option maxRecDepth 100000
set_option linter.unusedSimpArgs false
open Go.Proofs.Tryz
namespace Go.Cm
open Go.RowKit Go.Proofs Go.Maps
theorem ZmC0{P:Prop}(h:P:=by rw[HB.o.cell (p:=⟨w.heap.size,256,none⟩) (qR _),World.cell?_alloc_new];exact hn):P:=h
def yT(P:Program)(K:TypeId)(w:World)(b:Nat)(ks:List Value):Prop:=
 ∃es clock,w.heap[b]? =some (.map es clock)/\es.toList.map (·.key)=ks/\(∀x∈es.toList,∃l,keyOf P K x.key=some l)/\(∀(i:Nat) x,es.toList[i]? =some x->x.val=.int .i64 i)/\ks.Nodup
section
variable {P : Program} {K E T : TypeId} {w w' : World} {b : Nat} {ks : List Value} {k : Value} {lk : Lit}
theorem yT.made(P:Program)(K:TypeId)(w:World):yT P K (w.alloc (.map #[] 0)) w.heap.size []:=
 ⟨#[],0,(MapKept.heap_alloc w _).1,rfl,by simp,by simp,by simp⟩
theorem yT.lt(h:yT P K w b ks):b<w.heap.size:=by
 obtain⟨es,clock,hb,-⟩:=h;exact(Array.getElem?_eq_some_iff.1 hb).1
theorem yT.keep(h:yT P K w b ks){row:Option Nat}(hg:w.grownBy w' row)(hne:some b≠row):yT P K w' b ks:=by
 have hlt:=h.lt;obtain⟨es,clock,hb,r⟩:=h;exact⟨es,clock,(hg.block b hlt hne).trans hb,r⟩
theorem yT.up(h:yT P K w b ks)(hb:Below w.heap.size w w'):yT P K w' b ks:=h.keep (row:=none) (aE hb none) (by simp)
theorem yT.len(h:yT P K w b ks)(hT:P.underlying T=some (.map K E))(ty:TypeId):(Builtin.len_ #[T] ty #[.map (some b)]).run P w=.ok (.int .i64 ks.length) w:=by
 obtain⟨es,clock,hb,hks,-⟩:=h;simp[Builtin.len_,run_underlying hT,MapKept.run_getObj_map hb,goInt,Result.andThen,<-hks]
theorem yT.lookNew(h:yT P K w b ks)(Kd:Keyed P K)(hT:P.underlying T=some (.map K E))(hz:(zeroValue E).run P w=.ok (.int .i64 0) w)(hk:keyOf P K k=some lk)(hn:k∉ks):
  (Instr.lookup T (.map (some b)) k true).run P w=.ok (.tuple #[.int .i64 0,.bool false]) w:=by
 obtain⟨es,clock,hb,hks,hkl,-⟩:=h;rcases Kd.find w hk es.toList hkl with⟨f1,-⟩|⟨j,e0,f2,hj,he⟩
 ·simp[Instr.lookup,run_underlying hT,MapKept.run_getObj_map hb,Kd.check w _ hk,f1,hz,Result.andThen]
 exact absurd (by rw[<-hks,<-he];exact jb (jx hj)) hn
theorem yT.lookOld(h:yT P K w b ks)(Kd:Keyed P K)(hT:P.underlying T=some (.map K E))(hk:keyOf P K k=some lk){i:Nat}(hi:ks[i]? =some k):
  (Instr.lookup T (.map (some b)) k true).run P w=.ok (.tuple #[.int .i64 i,.bool true]) w/\(Instr.lookup T (.map (some b)) k false).run P w=.ok (.int .i64 i) w:=by
 obtain⟨es,clock,hb,hks,hkl,hv,hnd⟩:=h;have hi2:(es.toList.map (·.key))[i]? =some k:=by rw[hks];exact hi
 rw[qQ]at hi2;obtain⟨e0,h0,he⟩:=Option.map_eq_some_iff.1 hi2;have f:=V1 Kd hk hkl (by rw[hks];exact hnd) h0 he w;rw[hv i e0 h0]at f
 constructor<;>simp[Instr.lookup,run_underlying hT,MapKept.run_getObj_map hb,Kd.check w _ hk,f,Result.andThen]
theorem yT.put(h:yT P K w b ks)(Kd:Keyed P K)(hT:P.underlying T=some (.map K E))(hk:keyOf P K k=some lk)(hn:k∉ks):
  ∃w',(Instr.mapUpdate T (.map (some b)) k (.int .i64 ks.length)).run P w=.ok () w'/\yT P K w' b (ks++[k])/\w.grownBy w' (some b):=by
 obtain⟨es,clock,hb,hks,hkl,hv,hnd⟩:=h;rcases Kd.find w hk es.toList hkl with⟨f1,-⟩|⟨j,e0,f2,hj,he⟩
 ·refine⟨_,?_,?_,nW w b (.map (es.push ⟨k,.int .i64 ks.length,clock⟩) (clock+1))⟩
  ·simp[Instr.mapUpdate,run_underlying hT,MapKept.run_getObj_map hb,Kd.check w _ hk,f1,Result.andThen,MapKept.run_setObj_map _ hb]
  have e1:(es.push (⟨k,.int .i64 ks.length,clock⟩:MapEntry)).toList=es.toList++[⟨k,.int .i64 ks.length,clock⟩]:=by simp
  refine⟨_,_,wY hb _,by rw[e1,qD,hks];rfl,?_,?_,?_⟩
  ·rw[e1]
   intro x hx;rcases List.mem_append.1 hx with hx|hx
   ·exact hkl x hx
   rw[List.mem_singleton.1 hx];exact⟨lk,hk⟩
  ·rw[e1]
   intro i x hx;by_cases hil:i<es.toList.length
   ·rw[qS hil]at hx
    exact hv i x hx
   rw[jf (by omega)]at hx;have h1:=(List.getElem?_eq_some_iff.1 hx).1;simp only[qB]at h1;have hie:i=es.toList.length:=by omega
   subst hie;rw[Nat.sub_self]at hx;simp only[List.getElem?_cons_zero,jz]at hx;rw[<-hx,<-hks,qy]
  rw[List.nodup_append];exact⟨hnd,by simp,fun x hx y hy e=>hn (by simp at hy;rw[<-hy,<-e];exact hx)⟩
 exact absurd (by rw[<-hks,<-he];exact jb (jx hj)) hn
end
end Go.Cm
namespace Go.Cm
open Go.RowKit Go.Proofs
theorem eU(l:List Int)(i:Nat)(x:Int):(ints l).set i (.int .i64 x)=ints (l.set i x):=by simp[ints,a9]
theorem r7(n:Nat)(x:Int):List.replicate n (Value.int .i64 x)=ints (List.replicate n x):=by simp[ints]
theorem n7(l:List Int)(i j:Nat)(x:Int):(l.set i x).getD j 0=if i=j/\i<l.length then x else l.getD j 0:=by
 simp only[qq,jN];by_cases h:i=j
 ·subst h
  by_cases h2:i<l.length
  ·simp[h2]
  simp[h2]
 simp[h]
def P4(n:Nat)(met:List Int)(out:List Nat)(bound:Nat):Prop:=met.length=n/\∀x,x<n->0<=met.getD x 0/\met.getD x 0<=bound/\(0<met.getD x 0↔x∈out)
theorem P4.start(n:Nat)(h:1<=n):P4 n ((List.replicate n (0:Int)).set 0 1) [0] 1:=by
 refine⟨by simp,fun x hx=>?_⟩;rw[n7];have hr:(List.replicate n (0:Int)).getD x 0=0:=by simp[List.getD,hx]
 by_cases h0:0=x
 ·subst h0;simp;omega
 rw[qr (fun q=>h0 q.1),hr];simp;omega
theorem P4.step{n:Nat}{met:List Int}{out:List Nat}{b q:Nat}(h:P4 n met out b)(hq:q<n):P4 n (met.set q (met.getD q 0+1)) (fO out q) (b+1):=by
 refine⟨by simp[h.1],fun x hx=>?_⟩;rw[n7];have h1:=h.2 x hx;have h2:=h.2 q hq;by_cases hx':q=x
 ·subst hx'
  rw[qt ⟨rfl,by rw[h.1];exact hq⟩];refine⟨by omega,by omega,fun _=>rC.2 (.inr rfl),fun _=>by omega⟩
 rw[qr (fun e=>hx' e.1)];refine⟨h1.1,by omega,?_⟩;rw[rC,h1.2.2];exact⟨.inl,fun q=>q.elim id (fun e=>absurd e.symm hx')⟩
theorem q58(v:Value)(d:Dfa)(w:World)(h:pS w v d):Calls prog 214 #[v] w (q72 (P2 d) w):=by
 have hL:=fun w' (hb:Below w.heap.size w w')=>y7 v d w' (h.up hb);obtain⟨A,rfl,hs,hl,hc,⟨vn,hn,hrow⟩,⟨vr,hr,hru⟩⟩:=h;obtain⟨oa,cap,b,off,rfl,hd,hro⟩:=hrow.open;have hix:=aU (P:=prog) 38 39 underlying38 (by kernel_rfl) hd;have hm:=hd.len;have HL:=qa hL;clear hL;have HS:=qa hs;clear hs hc;have HG:=qa (heap_alloc_new w (.cells A 41));have HR:=qa hro;clear hro;have HLC:=qa hl;clear hl;by_cases hv:bZ d
 ·have hrb:=iK hv
  have HRI:=qa (A7 hv);have hn1:=hv.1;have hn2:=hv.2.1;have HV:=qa hv;clear hv;have hb:=hd.hblk (by omega);have hmk:=wX (P:=prog) 39 3 (.int .i64 0) 8 d.next.length underlying39 (by kernel_rfl) rfl (by decide) (by omega);obtain⟨M,hM⟩:∃M,M=madeCells #[Value.int .i64 0] d.next.length:=⟨_,rfl⟩;rw[<-hM]at hmk;have hM0:M[0]? =some (.int .i64 0):=by rw[hM,<-j6,toList_madeCells_one,jQ,qt (by omega)]
  have HM:Hid (M.toList=List.replicate d.next.length (.int .i64 0)):=qa (by rw[hM,toList_madeCells_one]);have HMS:Hid (M.size=d.next.length):=qa (by rw[hM,size_madeCells]);clear hM;go_enter func214,ntmps214
  go_wp2_with(first|(refine dQ rfl _ rfl w.heap.size rfl A HS.o HG.o ?_)|(go_at_call 212;refine(HL.o _ (aA _ _)).mono ?_;rintro e w' ⟨rfl,x,rfl⟩;rw[hrb]))
  have qd4:Below (w.heap.size+1) (w.alloc (.cells A 41)) (ext (w.alloc (.cells A 41)) x):=(aD _ _).mono (by simp);generalize ext (w.alloc (.cells A 41)) x=w1 at*;have hs1:w.heap.size+1<=w1.heap.size:=by have:=qd4.size;rw[World.size_alloc]at this;exact this
  have hOM:Own ((w1.alloc (.cells (M.setIfInBounds 0 (.int .i64 1)) 3)).alloc (.cells #[.int .i64 0] 3)) (w.heap.size+1) 3 (.slice (some ⟨w1.heap.size,0,none⟩) d.next.length d.next.length) (ints ((List.replicate d.next.length (0:Int)).set 0 1)):=by
   have h1:=(bU w1 (w.heap.size+1) (M.setIfInBounds 0 (.int .i64 1)) 3 (by rw[Array.size_setIfInBounds,HMS.o];omega) hs1).up (aA _ (.cells #[.int .i64 0] 3));simp only[Array.size_setIfInBounds,HMS.o,Array.toList_setIfInBounds,HM.o,r7,eU]at h1;exact h1
  have hO:Own ((w1.alloc (.cells (M.setIfInBounds 0 (.int .i64 1)) 3)).alloc (.cells #[.int .i64 0] 3)) (w1.heap.size+1) 3 (.slice (some ⟨w1.heap.size+1,0,none⟩) 1 1) (ints (nl [0])):=by
   have h1:=bU (w1.alloc (.cells (M.setIfInBounds 0 (.int .i64 1)) 3)) (w1.heap.size+1) #[.int .i64 0] 3 (by simp) (by simp);simpa[nl,ints]using h1
  have HB0:=qa (((qd4.alloc hs1 (.cells (M.setIfInBounds 0 (.int .i64 1)) 3))).alloc (by rw[World.size_alloc];omega) (.cells #[.int .i64 0] 3));clear qd4;have HO:=qa hO;clear hO;have HOM:=qa hOM;clear hOM hM0
  go_loopw [4,5] (fun vo i wr=>∃(k:Nat) (out:List Nat) (met:List Int),k<=out.length/\i=.int .i64 k/\Own wr (w1.heap.size+1) 3 vo (ints (nl out))/\Own wr (w.heap.size+1) 3 (.slice (some ⟨w1.heap.size,0,none⟩) d.next.length d.next.length) (ints met)/\Hid (P4 d.next.length met out (1+256*k))/\Hid (out.Nodup)/\Hid (∀x∈out,x<d.next.length)/\out.length<=d.next.length/\Hid (dW d=fR d (d.next.length+1-k) k out)/\Below (w.heap.size+1) (w.alloc (.cells A 41)) wr/\w1.heap.size+1<=wr.heap.size) (fun _ i _=>d.next.length+1-(intOf i).toNat)
  case atStart=>exact⟨0,[0],_,qd _,rfl,HO.o,HOM.o,qa (P4.start _ hn1),qa (by simp),qa (by simp;omega),by simpa using hn1,qa rfl,HB0.o,by simp⟩
  case round=>
   clear HO HB0 HOM;obtain⟨k,out,met,hk,rfl,hown,hom,qcj,HND,HLT,hol,HRE,qbe,qc3⟩:=hrel;have hsz:w.heap.size+1<=wr.heap.size:=by omega
   have HB:=qa qbe;clear qbe;have HOM:=qa hom;clear hom;obtain⟨oo,oc,g,rfl,hdo,hgo,hco,hfo,hst⟩:=hown.cases;simp only[aV,lC]at hdo hco hown⊢;have HO:=qa hown;clear hown hst hfo;have qkL:=aU (P:=prog) 39 3 underlying39 (by kernel_rfl) hdo;by_cases hlt:k<out.length
   ·have qj4:=hco k hlt
    have hgw:g<wr.heap.size:=hdo.hblk (by omega);rw[P3 out k hlt]at qj4;have hsn:=HLT.o _ (dH out k 0 hlt)
    have HG0:Hid (dW d=fR d (d.next.length-k) (k+1) (gG out (aS d (out.getD k 0)))):=qa (by
     rw[HRE.o,show d.next.length+1-k=(d.next.length-k)+1 by omega,fR,qt hlt])
    clear HRE;generalize out.getD k 0=s at*;obtain⟨oi,ci,bi,fi,hck,hdk,hcj,qix⟩:=HR.o s hsn;have HVR:=qa ((xZ HV.o hsn).resolve_right (fun h=>h HLC.o));have HRN:=qa (y6 d s);have HRL:=qa (n4 d s);have HSP:=qa (uX (aS d s) out);have qbJ:=aU (P:=prog) 39 3 underlying39 (by kernel_rfl) hdk;have hbi:=hdk.hblk;have hlk:=hdk.hsml;generalize aS d s=rn at*;generalize d.next.getD s []=row at*;have qiJ:=HVR.o.2;have HCJ:=qa hcj;clear hcj;have HDK:=qa hdk;clear hdk
    have hcw:wr.cell? ⟨b,off+s,none⟩=some (.slice oi row.length ci):=by
     rw[HB.o.cell (p:=⟨b,off+s,none⟩) (jc hb),World.cell?_alloc_past _ _ _ hb];exact hck
    have hbn:wr.cell? ⟨w.heap.size,256,none⟩=some (.slice oa d.next.length cap):=by
     exact ZmC0
    clear hco hck;go_wp2
    go_quiet (fail)
    go_wp2;obtain⟨wo,rfl⟩:∃wo:World,wo=wr:=⟨_,rfl⟩;have qbe:=HB.o;have hown:=HO.o;have hom:=HOM.o
    go_loopw [4,33] (fun vo i wr=>∃(j:Nat) (o2:List Nat) (met:List Int),j<=row.length/\i=.int .i64 j/\Own wr (w1.heap.size+1) 3 vo (ints (nl o2))/\Own wr (w.heap.size+1) 3 (.slice (some ⟨w1.heap.size,0,none⟩) d.next.length d.next.length) (ints met)/\Hid (P4 d.next.length met o2 (1+256*k+j))/\Hid (o2=gG out (rn.take j))/\o2.length<=d.next.length/\Hid (o2.Nodup)/\Hid (∀x∈o2,x<d.next.length)/\Below (w.heap.size+1) (w.alloc (.cells A 41)) wr/\w1.heap.size+1<=wr.heap.size) (fun _ i _=>row.length-(intOf i).toNat)
    case atStart=>exact⟨0,out,met,qd _,rfl,hown.up (aN _ _),hom.up (aN _ _),qcj,qa (by simp[gG]),hol,HND,HLT,tS qbe _,qc3⟩
    case round=>
     clear qbe hown hom qcj HOM met;obtain⟨j,o2,met,hj,rfl,hown,hom,qcj,HO2,ho2,qg1,qg8,qbe,qc3⟩:=hrel;have hsz:w.heap.size+1<=wr.heap.size:=by omega
     have HBB:=qa qbe;clear qbe;have HOO:=qa hown;clear hown;have HOM:=qa hom;clear hom;by_cases qbj:j<row.length
     ·have qe6:=hbi (by omega)
      have qcu:bi<wr.heap.size:=by omega
      have hcell:wr.cell? ⟨bi,fi+j,none⟩=some (.int .i64 (row.getD j 0)):=by
       rw[HBB.o.cell (p:=⟨bi,fi+j,none⟩) (jc qe6),World.cell?_alloc_past _ _ _ qe6];exact HCJ.o j qbj
      obtain⟨hy1,hy2⟩:=HVR.o.1 j qbj;have HRJ:=qa (HRN.o j qbj);have HTS:=qa (tM out rn j (by rw[HRL.o];exact qbj));generalize row.getD j 0=y at*;obtain⟨q,rfl⟩:=jE hy1;have hq:q<d.next.length:=by omega
      have HQ:Hid (rn.getD j 0=q):=qa (by rw[HRJ.o];rfl);clear HRJ hy1 hy2;have HM2:=qa (qcj.o.step hq);obtain⟨m1,m2,m3⟩:=qcj.o.2 q hq;have hml:=qcj.o.1
      have hmc:wr.cell? ⟨w1.heap.size,q,none⟩=some (.int .i64 (met.getD q 0)):=by
       rw[HOM.o.cell (by rw[aV,hml];exact hq),eS met q (by omega)]
      have hmf:wr.frozen? ⟨w1.heap.size,q,none⟩=false:=HOM.o.free q;have HST:=qa (HOM.o.store q (.int .i64 (met.getD q 0+1)));have hne:bi≠w1.heap.size:=by omega
      have HML:=qa hml;clear hml;rw[eU]at HST;generalize met.getD q 0=y at*
      have hOK:u4.ownBlock=none\/u4.ownBlock≠some w1.heap.size:=by
       cases hu:u4.ownBlock with
       |none=>exact .inl rfl
       |some z=>exact .inr (fun e=>by have:=HOO.o.lt z hu;injection e with e;omega)
      have HOK:=qa hOK;clear hOK;by_cases qbf:q∈o2
      ·have hyp:0<y:=m3.2 qbf
       have hyb:(y+1==1)=false:=by simp;omega
       have HM:=qa qbf;clear qbf m3;go_wp2
       go_roundw
       case rel=>
        have hp:fO o2 q=o2:=by unfold fO;rw[qt HM.o]
        refine⟨j+1,o2,met.set q (y+1),by omega,by go_num,HOO.o.keep HST.o.2 HOK.o,HST.o.1,qa ?_,qa ?_,ho2,qg1,qg8,HBB.o.setCell (by show w.heap.size+1<=w1.heap.size;omega) _,by simp;omega⟩
        ·have:=HM2.o;rw[hp]at this;exact this
        rw[HTS.o,HQ.o,<-HO2.o,hp]
       case measure=>simp[intOf];omega
      have hyp:y=0:=by
       rcases Int.lt_or_le 0 y with h|h
       ·exact absurd (m3.1 h) qbf
       omega
      subst hyp;have HM:=qa qbf;clear qbf m3;have HPN:Hid (fO o2 q=o2++[q]):=qa (by unfold fO;rw[qr HM.o]);have HN3:=qa (rW (tz:=q) qg1.o)
      have HL3:Hid (∀x∈o2++[q],x<d.next.length):=qa (fun x hx=>by
       rcases List.mem_append.1 hx with h|h
       ·exact qg8.o x h
       simp at h;omega)
      have qdU:(o2++[q]).length<=d.next.length:=rD (by rw[<-HPN.o];exact HN3.o) HL3.o;have qg5:=qa qdU;clear qdU;have qeV:=qa (HOO.o.keep HST.o.2 HOK.o)
      go_wp2_with(at_builtin;refine bM rfl (.tmp 48) (.tmp 50) 39 rfl (w1.heap.size+1) 3 (.int .i64 0) 8 underlying39 (by kernel_rfl) rfl (by decide) u4 (ints (nl o2)) rfl (qeV.o.up aJ) (.slice (some ⟨wr.heap.size,0,none⟩) 1 1) (ints (nl [q])) rfl (by simpa[ints,nl]using dY (wr.setCell ⟨w1.heap.size,q,none⟩ (.int .i64 (0+1))) #[.int .i64 (q:Int)] 3 (by simp)) (iD _) (by simp;omega) (by simp;omega) ?_;intro v' w2 hown1 hg1 hk1;have HO1:=qa hown1;have HG1:=qa hg1;clear hown1 hg1 hk1)
      go_roundw
      case rel=>
       have qco:(Value.slice (some ⟨w1.heap.size,0,none⟩) d.next.length d.next.length).ownBlock≠u4.ownBlock:=fun e=>by
        have:=HOK.o;rcases this with h|h
        ·rw[h]at e;cases e
        exact h e.symm
       have HG2:=qa (aC (aE (aA (wr.setCell ⟨w1.heap.size,q,none⟩ (.int .i64 1)) (.cells #[.int .i64 (q:Int)] 3)) u4.ownBlock) HG1.o);refine⟨j+1,o2++[q],met.set q (0+1),by omega,by go_num,?_,HST.o.1.keep HG2.o (.inr qco),qa ?_,qa ?_,qg5.o,qa ?_,HL3,?_,?_⟩
       ·rw[rV,iN];exact HO1.o
       ·rw[<-HPN.o];exact HM2.o
       ·rw[HTS.o,HQ.o,<-HO2.o,HPN.o]
       ·rw[<-HPN.o];exact HN3.o
       ·exact dR (B:=w.heap.size+1) (HBB.o.setCell (by show w.heap.size+1<=w1.heap.size;omega) _) (by simp;omega) (show Own _ (w.heap.size+1) 3 u4 _ from⟨⟨qeV.o.1.1,qeV.o.1.2.imp id fun⟨g,cap,cur,h1,h2,h3⟩=>⟨g,cap,cur,h1,by omega,h3⟩⟩,qeV.o.2⟩) HG2.o
       have:=HG2.o.size;simp at this;omega
      case measure=>simp[intOf];omega
     go_wp2
     go_roundw
     case rel=>
      have hj':rn.take j=rn:=qC (by rw[HRL.o];omega);have h2:=HO2.o;rw[hj']at h2;refine⟨k+1,o2,met,?_,by go_num,HOO.o,HOM.o,qa ?_,qg1,qg8,ho2,qa ?_,HBB.o,qc3⟩
      ·have:=HSP.o.2.2.1;rw[<-h2]at this;omega
      ·exact⟨qcj.o.1,fun x hx=>⟨(qcj.o.2 x hx).1,by have:=(qcj.o.2 x hx).2.1;omega,(qcj.o.2 x hx).2.2⟩⟩
      rw[HG0.o,h2];congr 1;omega
     case measure=>simp[intOf];omega
   go_wp2;go_ret;have h1:=HRE.o;rw[yW d k out (by omega)]at h1;refine⟨_,rfl,?_,?_⟩
   ·rw[HRI.o,h1];exact HO.o.sl
   exact(aA w _).trans (HB.o.mono (by omega))
 have hrb:=bN hv;have HRI:=qa (q35 hv);go_enter func214,ntmps214
 go_wp2_with(first|(refine dQ rfl _ rfl w.heap.size rfl A HS.o HG.o ?_)|(go_at_call 212;refine(HL.o _ (aA _ _)).mono ?_;rintro e w' ⟨rfl,x,rfl⟩;rw[hrb]))
 go_ret;refine⟨_,rfl,?_,aJ⟩;rw[HRI.o];exact Sl.nil _
end Go.Cm
namespace Go.Cm
def q9K(L:List Nat)(V i:Nat):Prop:=L.getD i 0≠0/\q8S L i=q7m V (L.getD i 0)
end Go.Cm
namespace Go.Cm
structure Ent where
 s:Nat
 b:Nat
 t:Nat
def Ent.zero:Ent:=⟨0,0,0⟩
structure Sub where
 g:Nat
 m:Nat
 F:Nat->Ent
def q7n(L:List Nat)(j x:Nat):Prop:=9<L.getD j 0/\q8S L j/2^(L.getD j 0-9)=q7m x 9
section
variable {L : List Nat}
structure q8T(L:List Nat)(i:Nat)(E:Nat->Ent)(fs:List Sub):Prop where
 low:∀x,x<512->(E x).t=0->(∀j,j<i->q9K L x j->L.getD j 0<=9->E x=⟨j,L.getD j 0,0⟩)/\((E x).b≠0->∃j,j<i/\q9K L x j/\L.getD j 0<=9)
 far:∀x k,x<512->(E x).t=k+1->∃f,fs[k]? =some f/\f.m<=6/\(∀j,j<L.length->q7n L j x->L.getD j 0<=9+f.m)/\(∃j,j<i/\q7n L j x)/\
  ∀y,y<2^f.m->(∀j,j<i->9<L.getD j 0->q9K L (x+512*y) j->f.F y=⟨j,L.getD j 0,0⟩)/\((f.F y).b≠0->∃j,j<i/\9<L.getD j 0/\q9K L (x+512*y) j)
 one:∀x y,x<512->y<512->(E x).t=(E y).t->(E x).t≠0->x=y
 all:∀j,j<i->∀x,x<512->q7n L j x->(E x).t≠0
theorem q8T.start(L:List Nat):q8T L 0 (fun _=>Ent.zero) []:=
 ⟨fun x _ _=>⟨fun j hj=>absurd hj (qz j),fun h=>absurd rfl h⟩,fun x k _ h=>(by cases h),fun x y _ _ _ h=>absurd rfl h,fun j hj=>absurd hj (qz j)⟩
variable {i : Nat} {E : Nat → Ent} {fs : List Sub}
end
end Go.Cm
namespace Go.Cm
open Go.RowKit Go.Proofs
def bK(l:List UInt8):List Value:=l.map fun b=>.int .u8 (b.toNat:Int)
theorem yL(n:Int):((zF n).toNat:Int)=n%256:=by
 have h2:(n%256).toNat<256:=by omega
 simp[zF];omega
theorem kJ(n:Int):bK (m4 n)=[.int .u8 (n%256),.int .u8 (n/256%256)]:=by simp[bK,m4,yL]
theorem lT(a b:List UInt8):bK (a++b)=bK a++bK b:=by simp[bK]
theorem e7(a:List UInt8):(bK a).length=a.length:=by simp[bK]
theorem oO(l:List UInt8):∀u∈bK l,u.oneCell'=true:=by
 intro u hu;simp only[bK,jy]at hu;obtain⟨b,-,rfl⟩:=hu;rfl
theorem k9{P:Program}(w:World)(src dst e:TypeId)(hs:P.underlying src=some (.slice e))(he:P.underlying e=some (.int .u8))(hd:P.underlying dst=some .string)
  (v:Value) (l:List UInt8) (h:Sl w v (bK l)):(convert src dst v).run P w=.ok (.string ⟨l.toArray⟩) w:=by
 obtain⟨oa,cap,b,off,rfl,hdr,hc⟩:=h;rw[e7]at hdr hc⊢;rw[run_convert_bytes_string w src dst e oa l.length cap hs he hd]
 have qd2:∀(l:List UInt8) (s:ByteArray),(l.map fun b=>(b.toNat:Int)).foldl (fun r n=>r.push (UInt8.ofNat n.toNat)) s=⟨s.data++l.toArray⟩:=by
  intro l
  induction l with
  |nil=>intro s;simp
  |cons b l ih=>intro s;simp only[qF,qH,ih];simp[ByteArray.push]
 have hb:bK l=(l.map fun b=>(b.toNat:Int)).map (Value.int .u8):=by simp[bK]
 cases oa with
 |none=>
  have h0:l.length=0:=by
   rcases jD l.length with h|h
   ·exact h
   have:=hdr.hat h;cases this
  obtain rfl:l=[]:=List.length_eq_zero_iff.1 h0;unfold Conv.bytesToString;simp
  rfl
 |some ad=>
  have hl:(loadCells ad l.length).run P w=.ok ((l.map fun b=>(b.toNat:Int)).map (Value.int .u8)).toArray w:=by
   rcases jD l.length with h|h
   ·obtain rfl:l=[]:=List.length_eq_zero_iff.1 h
    simp[loadCells,loadCellsFrom]
   have:=hdr.hat h;obtain rfl:ad=⟨b,off,none⟩:=qo this;rw[<-hb]
   have h2:=run_loadCells_list (P:=P) w ⟨b,off,none⟩ (bK l) (fun j v hv=>by
    have hj:j<(bK l).length:=(List.getElem?_eq_some_iff.1 hv).1;rw[e7]at hj;rw[kF,hc j hj];simp[List.getD,hv])
   rwa [e7]at h2
  rw[run_bytesToString w ad l.length cap _ hl,qd2];simp
theorem qb1(v pv:Value)(d:Dfa)(part:List Int)(s:Nat)(w:World)(h:pS w v d)(hp:eE w pv part)(hs1:s<d.next.length)(hs2:s<part.length)(hrow:∀tz∈d.next.getD s [],0<=tz/\tz<part.length)(hlen:(d.next.getD s []).length<=1000):
  Calls prog 217 #[v,pv,.int .i64 s] w fun e w'=>e=.returned (.string ⟨(kD d part s).toArray⟩)/\∃x,w'=ext w x:=by
 obtain⟨A,rfl,hs,hl,hc,⟨vn,hn,hrw⟩,-⟩:=h;obtain⟨oa,cap,b,off,rfl,hd,hro⟩:=hrw.open;obtain⟨oa',cap',b',off',rfl,hd',hrc⟩:=hp.open;have hix:=aU (P:=prog) 38 39 underlying38 (by kernel_rfl) hd;have qgX:=aU (P:=prog) 39 3 underlying39 (by kernel_rfl) hd';have hm:=hd.len;have hm':=hd'.len;obtain⟨oi,ci,bi,fi,hck,hdk,hcj,-⟩:=hro s hs1;have qbJ:=aU (P:=prog) 39 3 underlying39 (by kernel_rfl) hdk;have hb:=hd.hblk (by omega);have hb':=hd'.hblk (by omega);have hlk:=hdk.hsml;have hps:=hrc s hs2;have HL:Hid (kD d part s=m4 (part.getD s 0)++(d.next.getD s []).flatMap fun tz=>m4 (part.getD tz.toNat 0)):=qa rfl;generalize part.getD s 0=p0 at*;generalize d.next.getD s []=row at*;clear hs hc hro;have HCJ:=qa hcj;clear hcj;have qjJ:=qa hrow;clear hrow;have HRC:=qa hrc;clear hrc;have HD:=qa hd;clear hd;have HD':=qa hd';clear hd';have HDK:=qa hdk;clear hdk;go_enter func217,ntmps217;go_wp2;refine yZ [0,1,2,3,4,5,6,7,8,9,10] [11,12] (by kernel_rfl) (by kernel_rfl) ?_;simp only[pk]
 repeat(go_big_quiet_step (fail))
 refine wpQuiet_nil ?_
 (unfold aG;go_wp2;refine⟨(aI aJ),?_⟩)
 (unfold aG;go_wp2;refine⟨(aI aJ),?_⟩)
 unfold aG;intro _
 have hO:Own (((w.alloc (.cells A 41)).alloc (.cells #[.int .u8 (p0%256),.int .u8 (p0/256%256)] 5)).drew) (w.heap.size+1) 5 (.slice (some ⟨w.heap.size+1,0,none⟩) 2 2) (bK (m4 p0)):=by
  have h1:=bU (w.alloc (.cells A 41)) (w.heap.size+1) #[.int .u8 (p0%256),.int .u8 (p0/256%256)] 5 (by simp) (by simp);rw[kJ];have h2:=h1.up (aN _ 1);rw[<-World.drew_is_drewN]at h2;simpa using h2
 have HO:=qa hO;clear hO;go_wp2
 go_loopw [7,28] (fun vb i wr=>∃(k:Nat) (bs:List UInt8),k<=row.length/\i=.int .i64 k/\bs.length<=2+2*k/\Hid (bs=m4 p0++(row.take k).flatMap fun tz=>m4 (part.getD tz.toNat 0))/\Own wr (w.heap.size+1) 5 vb (bK bs)/\Below (w.heap.size+1) (w.alloc (.cells A 41)) wr) (fun _ i _=>row.length-(intOf i).toNat)
 case atStart=>exact⟨0,m4 p0,qd _,rfl,by simp[m4],qa (by simp),HO.o,gH (Below.alloc (qk _ _) (by simp) _)⟩
 case round=>
  obtain⟨k,bs,hk,rfl,hbs,HBS,hown,qbe⟩:=hrel;have hsz:w.heap.size+1<=wr.heap.size:=by have:=qbe.size;simpa using this
  have hcw:∀q o,q<w.heap.size->wr.cell? ⟨q,o,none⟩=w.cell? ⟨q,o,none⟩:=fun q o hq=>by
   rw[qbe.cell (p:=⟨q,o,none⟩) (jc hq),World.cell?_alloc_past _ _ _ hq]
  have HB:=qa qbe;clear qbe;have HO:=qa hown;clear hown;by_cases hlt:k<row.length
  ·have hcell:=HCJ.o k hlt
   have hbi:bi<w.heap.size:=HDK.o.hblk (by omega);have qcu:bi<wr.heap.size:=by omega
   have hb2:b'<wr.heap.size:=by omega
   have hn1:some b'≠u7.ownBlock:=fun e=>by have:=HO.o.lt b' e.symm;omega
   have hto:=qjJ.o _ (dH row k 0 hlt);have HT:=qa (aY row k 0 hlt);generalize row.getD k 0=tz at*;obtain⟨q,rfl⟩:=jE hto.1;have hq:q<part.length:=by omega
   have hcq:=HRC.o q hq;have HP:Hid (part.getD (q:Int).toNat 0=part.getD q 0):=qa rfl;generalize part.getD q 0=y at*;have HN:=qa hn1;clear hn1;clear hto hcw
   have qeL:wr.cell? ⟨bi,fi+k,none⟩=some (.int .i64 (q:Int)):=by
    rw[HB.o.cell (p:=⟨bi,fi+k,none⟩) (jc hbi),World.cell?_alloc_past _ _ _ hbi];exact hcell
   have qiZ:wr.cell? ⟨b',off'+q,none⟩=some (.int .i64 y):=by
    rw[HB.o.cell (p:=⟨b',off'+q,none⟩) (jc hb'),World.cell?_alloc_past _ _ _ hb'];exact hcq
   have hn1:=HN.o;go_wp2;refine kP u7.ownBlock [0,1,2,3,4,5,6,7,8,9,10,11] [12,13,14] (by kernel_rfl) (by kernel_rfl) ?_;simp only[pk]
   repeat(go_big_quiet_step (fail))
   refine wpQuiet_nil ?_
   (unfold aG;go_wp2;refine⟨bX (aE aJ _),?_⟩)
   unfold aG
   have hx:Sl (wr.alloc (.cells #[.int .u8 (y%256),.int .u8 (y/256%256)] 5)).drew (.slice (some ⟨wr.heap.size,0,none⟩) 2 2) (bK (m4 y)):=by
    have h1:=(dY wr #[.int .u8 (y%256),.int .u8 (y/256%256)] 5 (by simp)).up (aN _ 1);rw[<-World.drew_is_drewN]at h1;rw[kJ];simpa using h1
   have HX:=qa hx;clear hx
   go_wp2_with(at_builtin;refine bM rfl (.tmp 32) (.tmp 44) 143 rfl (w.heap.size+1) 5 (.int .u8 0) 1 underlying143 (by kernel_rfl) rfl (by decide) u7 (bK bs) rfl (HO.o.up aJ) (.slice (some ⟨wr.heap.size,0,none⟩) 2 2) (bK (m4 y)) rfl HX.o (oO _) (by simp[e7,m4];omega) (by simp;omega) ?_;intro v' w1 hown1 hg1 hk1;have HO1:=qa hown1;have HG1:=qa hg1;clear hown1 hg1 hk1)
   refine⟨bX (aC (aE aJ _) HG1.o),?_⟩;unfold aG;go_wp2;refine⟨bX (aC (aE aJ _) HG1.o),?_⟩;unfold aG;intro _ hz;clear hz;go_wp2
   go_roundw
   case rel=>
    refine⟨k+1,bs++m4 y,by omega,by go_num,by simp[m4];omega,qa ?_,?_,?_⟩
    ·rw[HT.o,a8,<-qj,<-HBS.o]
     symm
     show bs++(m4 (part.getD (q:Int).toNat 0)++[])=_;rw[HP.o,j4]
    ·rw[lT];exact HO1.o
    exact dR (B:=w.heap.size+1) (gH (HB.o.alloc hsz _)) (by simp;omega) (HO.o.up aJ) HG1.o
   case measure=>simp[intOf];omega
  have hcv:=fun W h=>k9 (P:=prog) W 143 9 5 underlying143 underlying5 underlying9 u7 bs h;have qlc:=hcv wr HO.o.sl;clear hcv;go_wp2;go_ret;have h1:=HBS.o;rw[qC (by omega),<-HL.o]at h1;subst h1;exact⟨rfl,aI ((aA w _).trans (HB.o.mono (by omega)))⟩
end Go.Cm
namespace Go.Cm
open Go.RowKit Go.Proofs Go.Maps
theorem d7:Keyed prog 9:=string_keyed underlying9
theorem dU(w:World):(zeroValue 3).run prog w=.ok (.int .i64 0) w:=by kernel_rfl
def q7B(d:Dfa)(w:World)(e:Ending)(w':World):Prop:=∃r part,e=.returned r/\eE w' r part/\zG d part/\Below w.heap.size w w'
theorem R6{d:Dfa}(h:bZ d){i:Nat}(hi:i<d.next.length):∀tz∈d.next.getD i [],0<=tz/\tz<d.next.length:=by
 obtain⟨_,_,_,k,hk,hr⟩:=h;obtain⟨-,-,-,hj⟩:=hr i hi;intro tz ht;obtain⟨j,hjl,rfl⟩:=List.mem_iff_getElem.1 ht;have:=hj j hjl;rwa [qq (l:=d.next.getD i []),qv hjl,qJ]at this
theorem q0Y{l m:List Int}(hl:l.length=m.length)(h:∀i,i<l.length->l.getD i 0=m.getD i 0):l=m:=by
 apply jS hl;intro i h1 h2;have:=h i h1;rwa [qq,qq,qv h1,qv h2,qJ,qJ]at this
theorem yM{d:Dfa}(h:bZ d)(hc:d.cls.length=256){i:Nat}(hi:i<d.next.length):(d.next.getD i []).length<=1000:=by
 obtain⟨_,_,_,k,hk,hr⟩:=h;obtain⟨-,-,hl,-⟩:=hr i hi;have h1:=(gP d.cls 0 k hk).2;omega
theorem q3V{d:Dfa}(h:bZ d)(hc:d.cls.length=256)(p:List Int){i:Nat}(hi:i<d.next.length):(kD d p i).length<=2002:=by
 have h1:=yM h hc hi
 have e:∀l:List Int,(l.flatMap fun tz=>m4 (p.getD tz.toNat 0)).length=2*l.length:=by
  intro l;induction l with
  |nil=>rfl
  |cons a l ih=>rw[List.flatMap_cons,qi,ih];simp[m4];omega
 rw[kD,qi,e];have h2:(m4 (p.getD i 0)).length=2:=rfl;omega
theorem zB(d:Dfa)(p:List Int){k:Nat}(hk:k<d.next.length):(mS d p).take (k+1)=(mS d p).take k++[kD d p k]:=by
 rw[List.take_add_one,nT d p hk];rfl
theorem parts(v:Value)(d:Dfa)(w:World)(h:pS w v d)(hv:bZ d):Calls prog 213 #[v] w (q7B d w):=by
 have hLk:=fun(w':World) (hb:Below w.heap.size w w') (pv:Value) (part:List Int) (s:Nat) (hp:eE w' pv part) hs1 hs2 hrow hlen=>qb1 v pv d part s w' (h.up hb) hp hs1 hs2 hrow hlen;obtain⟨A,rfl,hs,hl,hc,⟨vn,hn,hrw⟩,⟨vr,hr,hru⟩⟩:=h;obtain⟨oa,cap,b,off,rfl,hd,-⟩:=hrw.open;obtain⟨oq,capq,bq,offq,rfl,hdq,hrq⟩:=hru.open;have qft:=aU (P:=prog) 39 3 underlying39 (by kernel_rfl) hdq;have HLK:=qa hLk;clear hLk;have HS:=qa hs;clear hs hc;have HG:=qa (heap_alloc_new w (.cells A 41));have HQ:=qa hrq;clear hrq;have hn1:=hv.1;have hn2:=hv.2.1;have hrl:=hv.2.2.1;have HRL:=qa hrl;have hbq:=hdq.hblk (by omega);have qgH:d.rules.length<=1000:=by omega
 have HRG:Hid (∀i,i<d.next.length-> -1<=d.rules.getD i 0/\d.rules.getD i 0<32):=qa (fun i hi=>by
  obtain⟨_,_,_,k,hk,hr⟩:=hv;exact⟨(hr i hi).1,(hr i hi).2.1⟩)
 have HLC:=qa hl;clear hl;have HV:=qa hv;clear hv hrl;have hmk:=wX (P:=prog) 39 3 (.int .i64 0) 8 d.next.length underlying39 (by kernel_rfl) rfl (by decide) (by omega);obtain⟨Mb,hM⟩:∃M,M=madeCells #[Value.int .i64 0] d.next.length:=⟨_,rfl⟩;rw[<-hM]at hmk;have HM:Hid (Mb.toList=ints (List.replicate d.next.length 0)):=qa (by rw[hM,toList_madeCells_one,r7]);have HMS:Hid (Mb.size=d.next.length):=qa (by rw[hM,size_madeCells]);clear hM;have hmm:=@run_makeMap prog
 have HO1:Hid (Own ((w.alloc (.cells A 41)).alloc (.cells Mb 3)) (w.heap.size+1) 3 (.slice (some ⟨w.heap.size+1,0,none⟩) d.next.length d.next.length) (ints (List.replicate d.next.length 0))):=qa (by
  have h1:=bU (w.alloc (.cells A 41)) (w.heap.size+1) Mb 3 (by rw[HMS.o];omega) (by simp);rw[HM.o,HMS.o]at h1;simpa using h1)
 have HB1:Hid (Below (w.heap.size+1) (w.alloc (.cells A 41)) ((w.alloc (.cells A 41)).alloc (.cells Mb 3))):=qa ((qk _ _).alloc (by simp) _);go_enter func213,ntmps213;go_wp2
 go_step3
 go_wp2
 go_loopg [20] (d.next.length+1) (fun gk i wr=>∃(k:Nat) (p:List Int),k<=d.next.length/\i=.int .i64 k/\Own wr (w.heap.size+1) 3 (.slice (some ⟨w.heap.size+1,0,none⟩) d.next.length d.next.length) (ints p)/\Hid (p.length=d.next.length)/\Hid (∀a,a<k->p.getD a 0=d.rules.getD a 0+1)/\Below (w.heap.size+1) (w.alloc (.cells A 41)) wr/\gk=d.next.length+1-k)
 case atStart=>exact⟨0,_,qd _,rfl,HO1.o,qa (by simp),qa (fun a ha=>absurd ha (qz a)),HB1.o,rfl⟩
 case round=>
  clear HO1 HB1;obtain⟨k,p,hk,rfl,hown,HPL,HPV,qbe,rfl⟩:=hrel;have hsz:w.heap.size+1<=wr.heap.size:=by have:=qbe.size;simpa using this
  have HB:=qa qbe;clear qbe;have HO:=qa hown;clear hown;by_cases hlt:k<d.next.length
  ·have qdT:k<d.rules.length:=by rw[HRL.o];exact hlt
   have hq:=HQ.o k qdT;have hcq:wr.cell? ⟨bq,offq+k,none⟩=_:=(HB.o.cell (p:=⟨bq,offq+k,none⟩) (jc hbq)).trans ((World.cell?_alloc_past _ _ _ hbq).trans hq);have qjh:bq<wr.heap.size:=by omega
   obtain⟨hr1,hr2⟩:=HRG.o k hlt
   have hc4:wr.cell? ⟨w.heap.size+1,k,none⟩=some (.int .i64 (p.getD k 0)):=by
    rw[HO.o.cell (by rw[aV,HPL.o];exact hlt),eS p k (by rw[HPL.o];exact hlt)]
   have hf4:wr.frozen? ⟨w.heap.size+1,k,none⟩=false:=HO.o.free k;have HST:=qa (HO.o.store k (.int .i64 (d.rules.getD k 0+1)));rw[eU]at HST
   have HNV:Hid (∀a,a<k+1->(p.set k (d.rules.getD k 0+1)).getD a 0=d.rules.getD a 0+1):=qa (fun a ha=>by
    rw[n7];rcases Nat.lt_succ_iff_lt_or_eq.1 ha with h1|rfl
    ·rw[qr (by omega)];exact HPV.o a h1
    rw[qt ⟨rfl,by rw[HPL.o];exact hlt⟩])
   have hlr:(k:Int)<(d.rules.length:Int):=by omega
   generalize d.rules.getD k 0=y at*;generalize p.getD k 0=y0 at*;clear hq;go_wp2
   go_roundg (d.next.length+1-(k+1))
   case measure=>omega
   case rel=>exact⟨k+1,p.set k (y+1),by omega,by go_num,HST.o.1,qa (by simp[HPL.o]),qa HNV.o,HB.o.setCell (qb _) _,rfl⟩
  have hkn:k=d.next.length:=by omega
  have HP0:Hid (K8 d p):=qa (K8.start HV.o p HPL.o (fun i hi=>HPV.o i (by omega)));have hge:¬((k:Int)<(d.rules.length:Int)):=by rw[HRL.o];omega
  clear HPV hkn qft hlt;go_wp2
  go_step3
  go_wp2;have HO0:Hid (Own wr (w.heap.size+1) 3 (.slice (some ⟨w.heap.size+1,0,none⟩) d.next.length d.next.length) (ints p)):=qa HO.o;generalize hp0:p=p1 at HO0 HP0;clear HO hp0 HPL;have HB2:Hid (Below (w.heap.size+1) (w.alloc (.cells A 41)) wr):=qa HB.o;clear HB
  go_loopg [3,6] (d.next.length+1) (fun gk vp s6 wq=>∃(p:List Int) (cnt:Nat),s6=.int .i64 cnt/\Own wq (w.heap.size+1) 3 vp (ints p)/\Hid (K8 d p)/\cnt<=d.next.length/\Hid (cnt=0\/cnt=(eW p).length)/\Below (w.heap.size+1) (w.alloc (.cells A 41)) wq/\gk=d.next.length+1-cnt)
  case atStart=>exact⟨p1,0,rfl,HO0.o,HP0,qd _,qa (.inl rfl),HB2.o,rfl⟩
  case round=>
   clear HO0 HB2 HP0
   revert wr;intro wo hrel
   obtain⟨p,cnt,rfl,hown,HP,hcn,HCT,qbe,rfl⟩:=hrel;have hpl:(ints p).length=d.next.length:=by rw[aV,HP.o.len]
   obtain⟨oz,cz,gz,rfl,-⟩:=hown.cases;rw[hpl]at hown⊢;have hsz:w.heap.size+1<=wo.heap.size:=by have:=qbe.size;simpa using this
   have hbw:Below w.heap.size w wo:=(aA w _).trans (qbe.mono (by omega));have HW:=qa hbw;clear hbw;have HB:=qa qbe;clear qbe;have HO:=qa hown;clear hown hpl;have HSL:Hid ((mS d p).length=d.next.length):=qa (vU d p)
   have HO1:Hid (Own ((wo.alloc (.map #[] 0)).alloc (.cells Mb 3)) (wo.heap.size+1) 3 (.slice (some ⟨wo.heap.size+1,0,none⟩) d.next.length d.next.length) (ints (List.replicate d.next.length 0))):=qa (by
    have h1:=bU (wo.alloc (.map #[] 0)) (wo.heap.size+1) Mb 3 (by rw[HMS.o];omega) (by simp);rw[HM.o,HMS.o]at h1;simpa using h1)
   have HMP:Hid (eG prog 9 3 (fun s:List UInt8=>Lit.string s) ((wo.alloc (.map #[] 0)).alloc (.cells Mb 3)) wo.heap.size []):=qa ((eG.made wo _).up (aA _ _));have HB1:Hid (Below wo.heap.size wo ((wo.alloc (.map #[] 0)).alloc (.cells Mb 3))):=qa aJ;clear HM HMS;go_wp2
   go_loopg [37] (d.next.length+1) (fun gk i wq=>∃(k:Nat) (nx:List Int),k<=d.next.length/\i=.int .i64 k/\eG prog 9 3 (fun s:List UInt8=>Lit.string s) wq wo.heap.size (eW ((mS d p).take k))/\Own wq (wo.heap.size+1) 3 (.slice (some ⟨wo.heap.size+1,0,none⟩) d.next.length d.next.length) (ints nx)/\Hid (nx.length=d.next.length)/\Hid (∀a,a<k->nx.getD a 0=(fY d p).getD a 0)/\Below wo.heap.size wo wq/\gk=d.next.length+1-k)
   case atStart=>exact⟨0,_,qd _,rfl,HMP.o,HO1.o,qa (by simp),qa (fun a ha=>absurd ha (qz a)),HB1.o,rfl⟩
   case round=>
    clear HO1 HMP HB1 hmm hmk;obtain⟨k,nx,hk,rfl,hmap,hown,HNL,HNV,qbe,rfl⟩:=hrel;have qbw:wo.heap.size<=wr.heap.size:=qbe.size;have HB1:=qa qbe;clear qbe;have HN:=qa hown;clear hown;have HP1:Hid (eE wr (.slice oz d.next.length cz) p):=qa ((HO.o.up HB1.o).sl);have HBB:Hid (Below w.heap.size w wr):=qa (HW.o.trans (HB1.o.mono (by omega)))
    have HG1:Hid (wr.heap[w.heap.size]? =some (.cells A 41)):=qa (by
     rw[HB1.o.block _ (by omega),HB.o.block _ (by omega)];exact HG.o)
    by_cases hlt:k<d.next.length
    ·have hlk:=HLK.o wr HBB.o (.slice oz d.next.length cz) p k HP1.o hlt (by rw[HP.o.len];exact hlt) (by rw[HP.o.len];exact R6 HV.o hlt) (yM HV.o HLC.o hlt)
     have HT1:=qa (zB d p hlt);have HNP:=qa (i7 d p hlt);have HTL:=qa (q3V HV.o HLC.o p hlt);have HAP:=qa (fun(x:List UInt8) hx=>m8 ((mS d p).take (k+1)) ((mS d p).drop (k+1)) (x:=x) hx);rw[j5]at HAP;generalize kD d p k=t at*
     have hkey:keyOf prog 9 (.string ⟨t.toArray⟩)=some (.string t):=by
      have:=Go.WideMaps.keyOf_string_mk (P:=prog) (k:=9) underlying9 (s:=⟨t.toArray⟩) (by have:=HTL.o;show t.toArray.size<=_;simp[maxLen];omega);simpa using this
     obtain⟨D,hD,hM⟩:=hmap;have HM:=qa hM;clear hM;have HD:=qa hD;clear hD;have HKL:Hid ((eW ((mS d p).take k)).length<=k):=qa (by have:=rX ((mS d p).take k);simp at this;omega);have HLK:=qa hlk;clear hlk;have HKEY:=qa hkey;clear hkey
     have qle:∀x,(ext wr x).cell? ⟨wo.heap.size+1,k,none⟩=some (.int .i64 (nx.getD k 0)):=fun x=>by
      rw[(HN.o.up (aD wr x)).cell (by rw[aV,HNL.o];exact hlt),eS nx k (by rw[HNL.o];exact hlt)]
     have qkZ:∀x,(ext wr x).frozen? ⟨wo.heap.size+1,k,none⟩=false:=fun x=>(HN.o.up (aD wr x)).free k;generalize nx.getD k 0=y0 at*;by_cases qbf:t∈eW ((mS d p).take k)
     ·have qbq:Hid (Maps.has D (.string t)=true):=qa (by rw[HM.o.2.2.1 t];simpa using qbf)
      have qbl:=qa qbf;clear qbf
      go_wp2_with(first|(refine dQ rfl _ rfl w.heap.size rfl A HS.o HG1.o ?_)|(go_at_call 217;refine HLK.o.mono ?_;rintro e w' ⟨rfl,x,rfl⟩)|(at_lookup;go_loud (refine wpList_lookup_own_ok_int _ rfl _ _ 246 rfl 9 3 .i64 d7 underlying246 underlying3 (dU _) wo.heap.size _ D rfl (HD.o.kept (aE (aD wr _) none) (by simp)) _ _ rfl HKEY.o ?_;intro c hat hwc;rw[qbq.o];have hce:=HM.o.at_eq qbl.o hat;subst hce;clear hat hwc)))
      go_roundg (d.next.length+1-(k+1))
      case measure=>omega
      case rel=>
       have HST:=(HN.o.up (aD wr x)).store k (.int .i64 (idx (eW ((mS d p).take k)) t:Nat));rw[eU]at HST;refine⟨k+1,nx.set k (idx (eW ((mS d p).take k)) t:Nat),by omega,by go_num,?_,HST.1,qa (by simp[HNL.o]),qa (fun a ha=>?_),(q2c HB1.o qbw x).setCell (ja _) _,rfl⟩
       ·rw[HT1.o,i6,aW,qt qbl.o]
        exact eG.keep ⟨D,HD.o,HM.o⟩ (aC (aE (aD wr x) _) HST.2) (by simp)
       rw[n7];rcases Nat.lt_succ_iff_lt_or_eq.1 ha with h1|rfl
       ·rw[qr (by omega)];exact HNV.o a h1
       rw[qt ⟨rfl,by rw[HNL.o];exact hlt⟩,HNP.o,HAP.o t (by rw[HT1.o];simp),HT1.o,i6,aW,qt qbl.o]
     have qbq:Hid (Maps.has D (.string t)=false):=qa (by rw[HM.o.2.2.1 t];simpa using qbf);have qbl:=qa qbf;clear qbf
     go_wp2_with(first|(refine dQ rfl _ rfl w.heap.size rfl A HS.o HG1.o ?_)|(go_at_call 217;refine HLK.o.mono ?_;rintro e w' ⟨rfl,x,rfl⟩;have HX:=qa (aE (aD wr x) (some wo.heap.size));have HXN:=qa (HN.o.up (aD wr x)))|(at_lookup;go_loud (refine wpList_lookup_own_ok_int _ rfl _ _ 246 rfl 9 3 .i64 d7 underlying246 underlying3 (dU _) wo.heap.size _ D rfl (HD.o.kept (aE (aD wr _) none) (by simp)) _ _ rfl HKEY.o ?_;intro c hat hwc;rw[qbq.o];clear hat hwc))|(at_len;go_loud (refine wpList_len_own _ rfl _ 246 rfl 9 3 underlying246 _ wo.heap.size _ D rfl (HD.o.kept (aE (aD wr _) none) (by simp)) ?_;rw[HM.o.2.1]))|(at_mapUpdate;go_loud (refine wpList_mapUpdate_own _ rfl _ _ _ 246 rfl 9 3 d7 underlying246 _ wo.heap.size _ D rfl (HD.o.kept (aE (aD wr _) none) (by simp)) (by have:=HKL.o;unfold maxLen;omega) _ _ _ rfl rfl HKEY.o _ [] (plainElem_int underlying3 (q8b _ (by have:=HKL.o;omega))) ?_;intro w1 hown1 qbx;have HX1:=qa (HXN.o.keep qbx (by simp[Value.ownBlock]));have HD1:=qa hown1;have HG2:=qa qbx;have qj5:=HX1.o.cell (i:=k) (by rw[aV,HNL.o];exact hlt);rw[eS nx k (by rw[HNL.o];exact hlt)]at qj5;have qkY:=HX1.o.free k;clear hown1 qbx)))
     go_roundg (d.next.length+1-(k+1))
     case measure=>omega
     case rel=>
      have HST:=HX1.o.store k (.int .i64 ((eW ((mS d p).take k)).length:Nat));rw[eU]at HST;refine⟨k+1,nx.set k ((eW ((mS d p).take k)).length:Nat),by omega,by go_num,?_,HST.1,qa (by simp[HNL.o]),qa (fun a ha=>?_),((q2c HB1.o qbw x).grown HG2.o (q2c HB1.o qbw x).size (fun j hj=>by cases hj;exact qb _)).setCell (ja _) _,rfl⟩
      ·rw[HT1.o,i6,aW,qr qbl.o]
       refine eG.keep ⟨_,?_,HM.o.snoc P0 qbl.o⟩ HST.2 (by simp);rw[qi];exact HD1.o
      rw[n7];rcases Nat.lt_succ_iff_lt_or_eq.1 ha with h1|rfl
      ·rw[qr (by omega)];exact HNV.o a h1
      rw[qt ⟨rfl,by rw[HNL.o];exact hlt⟩,HNP.o,HAP.o t (by rw[HT1.o];simp),HT1.o,i6,aW,qr qbl.o,dN qbl.o]
    have hkn:k=d.next.length:=by omega
    subst hkn;have HNX:Hid (nx=fY d p):=qa (q0Y (by rw[HNL.o,(K8.next HV.o HP.o).len]) (fun i hi=>HNV.o i (by rw[<-HNL.o];exact hi)));have hst:(mS d p).take d.next.length=mS d p:=qC (by rw[HSL.o];exact qb _);rw[hst]at hmap;clear hst HNV;obtain⟨D,hD,hM⟩:=hmap;have HM:=qa hM;clear hM;have HD:=qa hD;clear hD;have HUL:Hid ((eW (mS d p)).length<=d.next.length):=qa (by rw[<-HSL.o];exact rX _);have HU1:Hid (0<(eW (mS d p)).length):=qa (List.length_pos_of_mem ((dP _ _).2 (oS d p (i:=0) (by omega))))
    have HC1:Hid (cnt<=(eW (mS d p)).length):=qa (by
     rcases HCT.o with h|h
     ·omega
     rw[h];exact L8 HP.o)
    by_cases hcc:((eW (mS d p)).length:Int)=(cnt:Int)
    ·have HCC:=qa hcc
     go_wp2_with(at_len;go_loud (refine wpList_len_own _ rfl _ 246 rfl 9 3 underlying246 _ wo.heap.size _ D rfl HD.o ?_;rw[HM.o.2.1]))
     try rw[Exit.noGoto_ret]
     go_ret;refine⟨_,_,rfl,HN.o.sl,?_,HBB.o⟩;rw[HNX.o];refine K8.ok HV.o HP.o ?_;have h1:=HCC.o;rcases HCT.o with h|h
     ·have:=HU1.o;omega
     omega
    have HCC:=qa hcc
    go_wp2_with(at_len;go_loud (refine wpList_len_own _ rfl _ 246 rfl 9 3 underlying246 _ wo.heap.size _ D rfl HD.o ?_;rw[HM.o.2.1]))
    go_roundg (d.next.length+1-(eW (mS d p)).length)
    case measure=>have:=HUL.o;have:=HC1.o;have:=HCC.o;omega
    case rel=>exact⟨fY d p,(eW (mS d p)).length,rfl,by rw[<-HNX.o];exact HN.o.mono (by omega),qa (K8.next HV.o HP.o),HUL.o,qa (.inr (D8 p).symm),HB.o.trans (HB1.o.mono hsz),rfl⟩
end Go.Cm
namespace Go.Cm
open Go.RowKit Go.Proofs
def eV(l:List Bool):List Value:=l.map Value.bool
theorem tC(l:List Bool):(eV l).length=l.length:=by simp[eV]
theorem yN(l:List Bool)(j:Nat)(h:j<l.length):(eV l).getD j undef=.bool (l.getD j false):=by simp[eV,List.getD,h]
theorem C8(l:List Bool)(j:Nat)(b:Bool):(eV l).set j (.bool b)=eV (l.set j b):=by simp[eV,a9]
theorem zD(M:List (List Bool))(i:Nat):(M.map eV).getD i []=eV (M.getD i []):=by
 simp only[qq,qQ];cases M[i]? <;>simp[eV]
theorem K0(M:List (List Bool))(i j:Nat):(M.map eV).set i (eV ((M.getD i []).set j true))=(Z3 M i j).map eV:=by simp[Z3,a9]
theorem dV.at{w:World}{B E E' n:Nat}{v:Value}{vs:List Value}{M:List (List Bool)}(h:dV w B E E' v vs (M.map eV))(ht:Tab n M){a:Nat}(ha:a<n):
  ∃oi ci gi,vs.getD a undef=.slice oi n ci/\Hd w oi n ci gi 0/\(0<n->(vs.getD a undef).ownBlock=some gi/\B<=gi)/\(∀b,b<n->w.cell? ⟨gi,b,none⟩=some (.bool (mrk M a b)))/\(∀b,b<n->w.frozen? ⟨gi,b,none⟩=false)/\
   ∀b,b<n->dV (w.setCell ⟨gi,b,none⟩ (.bool true)) B E E' v vs ((Z3 M a b).map eV)/\w.grownBy (w.setCell ⟨gi,b,none⟩ (.bool true)) (some gi):=by
 have hal:a<(M.map eV).length:=by simp[ht.len,ha]
 have hr:=h.rows a hal;rw[zD]at hr;obtain⟨oi,ci,gi,he,hd,hb,hc,hf,hs⟩:=hr.cases;simp only[tC,ht.row a ha]at he hd hb hc hf hs;refine⟨oi,ci,gi,he,hd,hb,fun b hb'=>?_,hf,fun b hb'=>?_⟩
 ·rw[hc b hb',yN _ _ (by rw[ht.row a ha];exact hb')];rfl
 obtain⟨h1,h2⟩:=hs b (.bool true) hb';rw[C8]at h1;have h3:=h.writeRow hal h1 (by rw[(hb (by omega)).1];exact h2);rw[K0]at h3;exact⟨h3,h2⟩
theorem Own.some_{w:World}{B E:Nat}{v:Value}{xs:List Value}(h:Own w B E v xs)(hx:0<xs.length):∃g cap,v=.slice (some ⟨g,0,none⟩) xs.length cap:=by
 rcases h.1.2 with⟨_,h0⟩|⟨g,cap,cur,rfl,_⟩
 ·omega
 exact⟨g,cap,rfl⟩
theorem q10{d:Dfa}(h:bZ d){i:Nat}(hi:i<d.next.length){c:Nat}(hc:c<bQ d):(d.next.getD i []).getD c 0=((aM d i c:Nat):Int):=by
 have hl:=f8 h hi;obtain⟨h1,h2,h3,k,hk,hr⟩:=h;have h0:=(hr i hi).2.2.2 c (by omega)
 have e:aM d i c=((d.next.getD i []).getD c 0).toNat:=by
  unfold aM;exact y6 d i c (by omega)
 rw[e];omega
structure R8(d:Dfa)(c0:Nat)(M:List (List Bool))(ag:Bool)(done:Nat->Nat->Nat->Prop):Prop where
 marks:L6 d M
 le:wN M<=c0
 lt:ag=true->wN M<c0
 closed:ag=false->∀i j c,i<d.next.length->j<d.next.length->c<bQ d->done i j c->oR d M i j c
theorem R8.mono{d:Dfa}{c0:Nat}{M:List (List Bool)}{ag:Bool}{p q:Nat->Nat->Nat->Prop}(h:R8 d c0 M ag p)(hq:∀i j c,i<d.next.length->j<d.next.length->c<bQ d->q i j c->p i j c):R8 d c0 M ag q:=
 ⟨h.marks,h.le,h.lt,fun e i j c hi hj hc hh=>h.closed e i j c hi hj hc (hq i j c hi hj hc hh)⟩
theorem R8.skip{d:Dfa}{c0:Nat}{M:List (List Bool)}{ag:Bool}{p:Nat->Nat->Nat->Prop}{i j c:Nat}(h:R8 d c0 M ag p)(hcl:oR d M i j c):R8 d c0 M ag (fun a b e=>p a b e\/(a=i/\b=j/\e=c)):=
 ⟨h.marks,h.le,h.lt,fun e a b f ha hb hf hh=>by
  rcases hh with hh|⟨rfl,rfl,rfl⟩
  ·exact h.closed e a b f ha hb hf hh
  exact hcl⟩
theorem R8.mark{d:Dfa}{c0:Nat}{M:List (List Bool)}{ag:Bool}{p q:Nat->Nat->Nat->Prop}{i j c:Nat}(h:R8 d c0 M ag p)(hv:bZ d)(hi:i<d.next.length)(hj:j<d.next.length)(hc:c<bQ d)(h1:mrk M i j=false)(h2:mrk M (aM d i c) (aM d j c)=true):R8 d c0 (Z3 M i j) true q:=by
 have h3:=q24 h.marks.tab hi hj h1;have h4:=h.le;exact⟨h.marks.set hi hj hc hv h2,by omega,fun _=>by omega,fun e=>by cases e⟩
def R9(d:Dfa)(w:World)(e:Ending)(w':World):Prop:=∃r M,e=.returned r/\vL w' r (M.map eV)/\q25 d M/\Below w.heap.size w w'
theorem apart(v:Value)(d:Dfa)(w:World)(h:pS w v d)(hv:bZ d):Calls prog 35 #[v] w (R9 d w):=by
 obtain⟨A,rfl,hs,hl,hc,⟨vn,hn,hrow⟩,⟨vr,hr,hru⟩⟩:=h;obtain⟨oa,cap,b,off,rfl,hd,hro⟩:=hrow.open;obtain⟨oq,capq,bq,offq,rfl,hdq,hrq⟩:=hru.open;have hix:=aU (P:=prog) 38 39 underlying38 (by kernel_rfl) hd;have qft:=aU (P:=prog) 39 3 underlying39 (by kernel_rfl) hdq;have hm:=hd.len;clear hs hc;have HR:=qa hro;clear hro;have HQ:=qa hrq;clear hrq;have HLC:=qa hl;clear hl;have hn1:=hv.1;have hn2:=hv.2.1;have hrl:=hv.2.2.1;have HV:=qa hv;clear hv;have hb:=hd.hblk (by omega);have hbq:=hdq.hblk (by omega);have HRL:=qa hrl;have qgF:∀i,i<d.next.length->i<d.rules.length:=fun i hi=>by omega
 have qeT:=qa qgF;clear qgF hrl;have hmk:=wX (P:=prog) 84 4 (.bool false) 1 d.next.length underlying84 (by kernel_rfl) rfl (by decide) (by omega);obtain⟨Mb,hM⟩:∃M,M=madeCells #[Value.bool false] d.next.length:=⟨_,rfl⟩;rw[<-hM]at hmk;have HM:Hid (Mb.toList=List.replicate d.next.length (.bool false)):=qa (by rw[hM,toList_madeCells_one]);have HMS:Hid (Mb.size=d.next.length):=qa (by rw[hM,size_madeCells]);clear hM;go_enter func35,ntmps35;go_wp2
 go_loopg [4,5] (d.next.length+1) (fun gk vo i wr=>∃(k:Nat) (vs:List Value) (M:List (List Bool)),k<=d.next.length/\i=.int .i64 k/\dV wr (w.heap.size+1) 84 4 vo vs (M.map eV)/\Hid (M.length=k)/\Hid (∀a,a<k->(M.getD a []).length=d.next.length/\∀b,b<d.next.length->mrk M a b=(d.rules.getD a 0 != d.rules.getD b 0))/\Below (w.heap.size+1) (w.alloc (.cells A 41)) wr/\gk=d.next.length+1-k)
 case atStart=>exact⟨0,[],[],qd _,rfl,dV.nil _ _ _ _,qa rfl,qa (fun a ha=>absurd ha (qz a)),qk _ _,rfl⟩
 case round=>
  obtain⟨k,vs,M,hk,rfl,hom,HML,HMR,qbe,rfl⟩:=hrel;have hsz:w.heap.size+1<=wr.heap.size:=by have:=qbe.size;simpa using this
  have HB:=qa qbe;clear qbe;have HO:=qa hom;clear hom;by_cases hlt:k<d.next.length
  ·have HO1:Hid (Own (wr.alloc (.cells Mb 4)) (w.heap.size+1) 4 (.slice (some ⟨wr.heap.size,0,none⟩) d.next.length d.next.length) (eV (List.replicate d.next.length false))):=qa (by
    have h1:=bU wr (w.heap.size+1) Mb 4 (by rw[HMS.o];omega) hsz;rw[HM.o,HMS.o]at h1;simpa[eV]using h1)
   have HB1:Hid (Below (w.heap.size+1) (w.alloc (.cells A 41)) (wr.alloc (.cells Mb 4))):=qa (HB.o.alloc hsz _);go_wp2;obtain⟨wo,rfl⟩:∃wo:World,wo=wr:=⟨_,rfl⟩
   go_loopg [7] (d.next.length+1) (fun gk i wr=>∃(j:Nat) (r:List Bool),j<=d.next.length/\i=.int .i64 j/\Own wr (w.heap.size+1) 4 (.slice (some ⟨wo.heap.size,0,none⟩) d.next.length d.next.length) (eV r)/\Hid (r.length=d.next.length)/\Hid (∀b,b<j->r.getD b false=(d.rules.getD k 0 != d.rules.getD b 0))/\wo.grownBy wr (some wo.heap.size)/\Below (w.heap.size+1) (w.alloc (.cells A 41)) wr/\gk=d.next.length+1-j)
   case atStart=>exact⟨0,_,qd _,rfl,HO1.o,qa (by simp),qa (fun b hb=>absurd hb (qz b)),aE (aA _ _) _,HB1.o,rfl⟩
   case round=>
    clear HO1 HB1;obtain⟨j,r,hj,rfl,how,HRl,HRv,hgr,qbe,rfl⟩:=hrel;have qbw:wo.heap.size+1<=wr.heap.size:=by have:=how.blk;omega
    have HBB:=qa qbe;clear qbe;have HOO:=qa how;clear how;have HGR:=qa hgr;clear hgr;by_cases qbj:j<d.next.length
    ·have hq1:=HQ.o k (qeT.o k hlt)
     have hq2:=HQ.o j (qeT.o j qbj);have qkF:=qeT.o k hlt;have qkE:=qeT.o j qbj;have qjh:bq<wr.heap.size:=by omega
     have hc1:wr.cell? ⟨bq,offq+k,none⟩=_:=(HBB.o.cell (p:=⟨bq,offq+k,none⟩) (jc hbq)).trans ((World.cell?_alloc_past _ _ _ hbq).trans hq1);have hc2:wr.cell? ⟨bq,offq+j,none⟩=_:=(HBB.o.cell (p:=⟨bq,offq+j,none⟩) (jc hbq)).trans ((World.cell?_alloc_past _ _ _ hbq).trans hq2)
     have hc3:wr.cell? ⟨w.heap.size,257,none⟩=some (.slice oq d.rules.length capq):=by
      rw[HBB.o.cell (p:=⟨w.heap.size,257,none⟩) (qR _),World.cell?_alloc_new];exact hr
     have hc4:wr.cell? ⟨wo.heap.size,j,none⟩=some (.bool (r.getD j false)):=by
      rw[HOO.o.cell (by rw[tC,HRl.o];exact qbj),yN r j (by rw[HRl.o];exact qbj)]
     have hf4:wr.frozen? ⟨wo.heap.size,j,none⟩=false:=HOO.o.free j;have qcK:some bq≠some wo.heap.size:=fun e=>by injection e with e;omega
     have qco:some w.heap.size≠some wo.heap.size:=fun e=>by injection e with e;omega
     have hs0:w.heap.size<wr.heap.size:=by omega
     have HST:=qa (HOO.o.store j (.bool (d.rules.getD k 0 != d.rules.getD j 0)));rw[C8]at HST
     have HNV:Hid (∀b,b<j+1->(r.set j (d.rules.getD k 0 != d.rules.getD j 0)).getD b false=(d.rules.getD k 0 != d.rules.getD b 0)):=qa (fun b hb=>by
      rw[lN];rcases Nat.lt_succ_iff_lt_or_eq.1 hb with h1|rfl
      ·rw[qr (by omega)];exact HRv.o b h1
      rw[qt ⟨rfl,by rw[HRl.o];exact qbj⟩])
     generalize r.getD j false=r0 at*;generalize d.rules.getD k 0=y1 at*;generalize d.rules.getD j 0=y2 at*;clear hq1 hq2;go_wp2;refine kP (some wo.heap.size) [0,1,2,3,4,5,6,7,8,9,10,11,12,13] [14] (by kernel_rfl) (by kernel_rfl) ?_;simp only[pk]
     repeat(go_big_quiet_step (fail))
     refine wpQuiet_nil ?_;unfold aG;go_wp2;refine⟨bX (aC HST.o.2 (cJ _ _)),?_⟩;unfold aG;intro hz;clear hz;go_wp2
     go_roundg (d.next.length+1-(j+1))
     case measure=>omega
     case rel=>exact⟨j+1,_,by omega,by go_num,HST.o.1.up (aN _ 1),qa (by simp[HRl.o]),qa HNV.o,aC HGR.o (aC HST.o.2 (cJ _ _)),gH (HBB.o.setCell (by show w.heap.size+1<=wo.heap.size;omega) _),rfl⟩
    have HSP:Hid (dV (wr.alloc (.cells #[.slice (some ⟨wo.heap.size,0,none⟩) d.next.length d.next.length] 84)) (w.heap.size+1) 84 4 u4 vs (M.map eV)):=qa ((HO.o.keep' HGR.o (HO.o.free_new (qb _))).up (aA _ _))
    go_wp2_with(at_builtin;refine bM rfl (.tmp 41) (.tmp 43) 81 rfl (w.heap.size+1) 84 (.slice none 0 0) 24 underlying81 (by kernel_rfl) rfl (by decide) u4 vs rfl HSP.o.outer (.slice (some ⟨wr.heap.size,0,none⟩) 1 1) [.slice (some ⟨wo.heap.size,0,none⟩) d.next.length d.next.length] rfl (dY wr #[_] 84 (by simp)) (by simp[Value.oneCell']) (by have:=HSP.o.len;simp only[qy,HML.o]at this;simp;omega) (by simp;omega) ?_;intro v' w2 hown1 hg1 hk1;have HO1:=qa hown1;have HG1:=qa hg1;have HK1:=qa hk1;clear hown1 hg1 hk1)
    go_roundg (d.next.length+1-(k+1))
    case measure=>omega
    case rel=>
     have hrr:Own (wr.alloc (.cells #[.slice (some ⟨wo.heap.size,0,none⟩) d.next.length d.next.length] 84)) (w.heap.size+1) 4 (.slice (some ⟨wo.heap.size,0,none⟩) d.next.length d.next.length) (eV r):=HOO.o.up (aA _ _);have hfr:dV.free u4 vs (Value.slice (some ⟨wo.heap.size,0,none⟩) d.next.length d.next.length).ownBlock:=HO.o.free_new (qb _);have hp:=HSP.o.push hrr hfr (cW _ none) HO1.o HG1.o HK1.o;refine⟨k+1,_,M++[r],by omega,by go_num,by simpa using hp,qa (by simp[HML.o]),qa (fun a ha=>?_),dR (B:=w.heap.size+1) (HBB.o.alloc (by omega) _) (by simp;omega) HSP.o.outer HG1.o,rfl⟩;rcases Nat.lt_succ_iff_lt_or_eq.1 ha with h1|rfl
     ·unfold mrk;rw[bS (by rw[HML.o];exact h1)];exact HMR.o a h1
     have hx:(M++[r]).getD a []=r:=by conv=>{lhs;rw[<-HML.o]};exact cT
     unfold mrk;rw[hx];exact⟨HRl.o,fun b hb=>HRv.o b (by omega)⟩
  have hMk:L6 d M:=by
   have hkn:k=d.next.length:=by omega
   refine⟨⟨by rw[HML.o,hkn],fun i hi=>(HMR.o i (by omega)).1⟩,fun i j hi hj h=>?_,fun i j hi hj h=>?_⟩
   ·rw[(HMR.o i (by omega)).2 j hj]at h
    intro e;have:=e.rules;simp[fW]at this;simp[this]at h
   rw[(HMR.o i (by omega)).2 j hj];simpa[fW]using h
  have HMK:=qa hMk;clear hMk;obtain⟨g,capv,rfl⟩:=HO.o.outer.some_ (by have:=HO.o.len;simp only[qy,HML.o]at this;omega);have hvl:vs.length=d.next.length:=by have:=HO.o.len;simp only[qy,HML.o]at this;omega
  rw[hvl]at HO⊢
  have qkK:=aU (P:=prog) 81 84 underlying81 (by kernel_rfl) (show Hd wr (some ⟨g,0,none⟩) d.next.length capv g 0 from by
   obtain⟨oo,oc,go,he,hdo,hgo,-⟩:=HO.o.outer.cases;simp only[Value.slice.injEq]at he;obtain⟨h1,h2,h3⟩:=he;have h4:=hgo (by omega);simp[Value.ownBlock]at h4;rw[<-h1,<-h2,<-h3,<-h4.1]at hdo;exact hdo)
  go_wp2
  go_loopg [8] (wN M+1) (fun gk b8 wr=>∃(M:List (List Bool)) (ag:Bool),b8=.bool ag/\dV wr (w.heap.size+1) 84 4 (.slice (some ⟨g,0,none⟩) d.next.length capv) vs (M.map eV)/\Hid (L6 d M)/\Hid (ag=false->∀i j c,i<d.next.length->j<d.next.length->c<bQ d->oR d M i j c)/\Below (w.heap.size+1) (w.alloc (.cells A 41)) wr/\Hid (gk=if ag then wN M+1 else 0))
  case atStart=>exact⟨M,true,rfl,HO.o,HMK,qa (fun h=>by cases h),HB.o,qa rfl⟩
  case round=>
   clear HO HB HMK HMR HML M hk hlt hsz;obtain⟨M,ag,rfl,hom,HMK,HCL,qbe,HGK⟩:=hrel;have HO:=qa hom;clear hom;have HB:=qa qbe;clear qbe;cases ag with
   |false=>
    go_wp2;go_ret;exact⟨_,M,rfl,HO.o.rowsG,HMK.o.done HV.o (HCL.o (by simp)),(aA w _).trans (HB.o.mono (by omega))⟩
   |true=>
    have HG1:Hid (gk=wN M+1):=qa HGK.o;clear HGK HCL;have HP0:Hid (R8 d (wN M) M false (fun i _ _=>i<0)):=qa ⟨HMK.o,qb _,fun h=>(by cases h),fun _ i j c _ _ _ h=>absurd h (qz i)⟩;generalize wN M=c0 at*;go_wp2
    go_loopg [8,9] (d.next.length+1) (fun gk b8 i wr=>∃(k:Nat) (M:List (List Bool)) (ag:Bool),k<=d.next.length/\i=.int .i64 k/\b8=.bool ag/\dV wr (w.heap.size+1) 84 4 (.slice (some ⟨g,0,none⟩) d.next.length capv) vs (M.map eV)/\Hid (R8 d c0 M ag (fun i _ _=>i<k))/\Below (w.heap.size+1) (w.alloc (.cells A 41)) wr/\gk=d.next.length+1-k)
    case atStart=>exact⟨0,M,false,qd _,rfl,rfl,HO.o,HP0,HB.o,rfl⟩
    case round=>
     clear HO HB HMK HP0 M;rename_i gk0 _;obtain⟨k,M,ag,hk,rfl,rfl,hom,HP,qbe,rfl⟩:=hrel;have HO:=qa hom;clear hom;have HB:=qa qbe;clear qbe;by_cases hlt:k<d.next.length
     ·have HP0:Hid (R8 d c0 M ag (fun i j _=>i<k\/(i=k/\j<0))):=qa (HP.o.mono fun i j c _ _ _ h=>h.elim id (fun h=>absurd h.2 (qz _)))
      clear HP;go_wp2
      go_loopg [8,10] (d.next.length+1) (fun gk b8 i wr=>∃(l:Nat) (M:List (List Bool)) (ag:Bool),l<=d.next.length/\i=.int .i64 l/\b8=.bool ag/\dV wr (w.heap.size+1) 84 4 (.slice (some ⟨g,0,none⟩) d.next.length capv) vs (M.map eV)/\Hid (R8 d c0 M ag (fun i j _=>i<k\/(i=k/\j<l)))/\Below (w.heap.size+1) (w.alloc (.cells A 41)) wr/\gk=d.next.length+1-l)
      case atStart=>exact⟨0,M,ag,qd _,rfl,rfl,HO.o,HP0,HB.o,rfl⟩
      case round=>
       clear HO HB HP0 M ag;obtain⟨l,M,ag,hl,rfl,rfl,hom,HP,qbe,rfl⟩:=hrel;have HO:=qa hom;clear hom;have HB:=qa qbe;clear qbe;by_cases qcL:l<d.next.length
       ·have HP0:Hid (R8 d c0 M ag (fun i j c=>(i<k\/(i=k/\j<l))\/(i=k/\j=l/\c<0))):=qa (HP.o.mono fun i j c _ _ _ h=>h.elim id (fun h=>absurd h.2.2 (qz _)))
        clear HP;obtain⟨oi,ci,bi,fi,hck,hdk,hcj,-⟩:=HR.o k hlt;obtain⟨ol,cl,bl,fl,hcl,hdl,qfC,-⟩:=HR.o l qcL;have hrk:=f8 HV.o hlt;have hrl:=f8 HV.o qcL;have HI1:=qa (fun c hc=>q10 HV.o hlt (c:=c) hc);have HI2:=qa (fun c hc=>q10 HV.o qcL (c:=c) hc);rw[hrk]at hck hdk hcj;rw[hrl]at hcl hdl qfC;clear hrk hrl;have qbJ:=aU (P:=prog) 39 3 underlying39 (by kernel_rfl) hdk;have qd0:=aU (P:=prog) 39 3 underlying39 (by kernel_rfl) hdl;have hkn:=hdk.hsml;have hbi:=hdk.hblk;have hbl:=hdl.hblk;have HCJ:=qa hcj;clear hcj;have qk5:=qa qfC;clear qfC;have HCK:=qa hck;clear hck;have qf1:=qa hcl;clear hcl;clear hdk hdl;go_wp2
        go_loopg [8,11] (bQ d+1) (fun gk b8 i wr=>∃(c:Nat) (M:List (List Bool)) (ag:Bool),c<=bQ d/\i=.int .i64 c/\b8=.bool ag/\dV wr (w.heap.size+1) 84 4 (.slice (some ⟨g,0,none⟩) d.next.length capv) vs (M.map eV)/\Hid (R8 d c0 M ag (fun i j e=>(i<k\/(i=k/\j<l))\/(i=k/\j=l/\e<c)))/\Below (w.heap.size+1) (w.alloc (.cells A 41)) wr/\gk=bQ d+1-c)
        case atStart=>exact⟨0,M,ag,qd _,rfl,rfl,HO.o,HP0,HB.o,rfl⟩
        case round=>
         clear HO HB HP0 M ag;obtain⟨c,M,ag,hc,rfl,rfl,hom,HP,qbe,rfl⟩:=hrel;have hsz:w.heap.size+1<=wr.heap.size:=by have:=qbe.size;simpa using this
         have hgb:=hom.outer.blk;have HO:=qa hom;clear hom;have HB:=qa qbe;clear qbe;have qeL:wr.cell? ⟨b,off+k,none⟩=_:=(HB.o.cell (p:=⟨b,off+k,none⟩) (jc hb)).trans ((World.cell?_alloc_past _ _ _ hb).trans HCK.o);have qiZ:wr.cell? ⟨b,off+l,none⟩=_:=(HB.o.cell (p:=⟨b,off+l,none⟩) (jc hb)).trans ((World.cell?_alloc_past _ _ _ hb).trans qf1.o)
         have qla:wr.cell? ⟨w.heap.size,256,none⟩=some (.slice oa d.next.length cap):=by
          exact ZmC0
         by_cases qbo:c<bQ d
         ·have qe6:=hbi (by omega)
          have qhc:=hbl (by omega)
          have ql9:wr.cell? ⟨bi,fi+c,none⟩=some (.int .i64 ((aM d k c:Nat):Int)):=by
           rw[HB.o.cell (p:=⟨bi,fi+c,none⟩) (jc qe6),World.cell?_alloc_past _ _ _ qe6,HCJ.o c qbo,HI1.o c qbo]
          have ql8:wr.cell? ⟨bl,fl+c,none⟩=some (.int .i64 ((aM d l c:Nat):Int)):=by
           rw[HB.o.cell (p:=⟨bl,fl+c,none⟩) (jc qhc),World.cell?_alloc_past _ _ _ qhc,qk5.o c qbo,HI2.o c qbo]
          have hp1:=gT HV.o hlt qbo;have hp2:=gT HV.o qcL qbo;have HT:=qa HP.o.marks.tab;obtain⟨o1,c1,g1,hr1,hd1,hg1,hx1,hf1,hs1⟩:=HO.o.at HT.o hlt;obtain⟨o2,c2,g2,hr2,hd2,hg2,hx2,hf2,hs2⟩:=HO.o.at HT.o hp1;have hv1:wr.cell? ⟨g,k,none⟩=some (.slice o1 d.next.length c1):=by rw[HO.o.outer.cell (by omega),hr1]
          have hv2:wr.cell? ⟨g,aM d k c,none⟩=some (.slice o2 d.next.length c2):=by rw[HO.o.outer.cell (by omega),hr2]
          have hm1:=hx1 l qcL;have hm2:=hx2 _ hp2;have hfz:=hf1 l qcL;have HST:=qa (hs1 l qcL);have hi1:=aU (P:=prog) 84 4 underlying84 (by kernel_rfl) hd1;have hi2:=aU (P:=prog) 84 4 underlying84 (by kernel_rfl) hd2;have qiT:=hd1.hblk (by omega);have HG1:=qa (hg1 (by omega)).2;clear hx1 hx2 hf1 hf2 hs1 hs2 hr1 hr2 hg1 hg2 hd1 hd2;have HCL:Hid (mrk M k l=true\/mrk M (aM d k c) (aM d l c)=false->oR d M k l c):=qa (fun h hh=>h.elim id (fun h=>by rw[h]at hh;cases hh));have qg2:Hid (mrk M k l=false->mrk M (aM d k c) (aM d l c)=true->R8 d c0 (Z3 M k l) true (fun i j e=>(i<k\/(i=k/\j<l))\/(i=k/\j=l/\e<c+1))):=qa (fun h1 h2=>HP.o.mark HV.o hlt qcL qbo h1 h2)
          have qel:Hid (oR d M k l c->R8 d c0 M ag (fun i j e=>(i<k\/(i=k/\j<l))\/(i=k/\j=l/\e<c+1))):=qa (fun h=>(HP.o.skip h).mono fun i j e _ _ _ hh=>by
           rcases hh with hh|⟨h1,h2,h3⟩
           ·exact .inl (.inl hh)
           rcases Nat.lt_succ_iff_lt_or_eq.1 h3 with h4|h4
           ·exact .inl (.inr ⟨h1,h2,h4⟩)
           exact .inr ⟨h1,h2,h4⟩)
          generalize mrk M k l=b1 at*;generalize mrk M (aM d k c) (aM d l c)=b2 at*;generalize aM d k c=p1 at*;generalize aM d l c=p2 at*;cases b1 with
          |true=>
           go_wp2
           go_quiet (fail)
           go_wp2
           go_roundg (bQ d+1-(c+1))
           case measure=>omega
           case rel=>exact⟨c+1,M,ag,by omega,by go_num,rfl,HO.o.up (aN _ _),qa (qel.o (HCL.o (.inl (by simp)))),tS HB.o _,rfl⟩
          |false=>
           cases b2 with
           |false=>
            go_wp2
            go_quiet (fail)
            go_wp2
            go_roundg (bQ d+1-(c+1))
            case measure=>omega
            case rel=>exact⟨c+1,M,ag,by omega,by go_num,rfl,HO.o.up (aN _ _),qa (qel.o (HCL.o (.inr (by simp)))),tS HB.o _,rfl⟩
           |true=>
            go_wp2
            go_quiet (fail)
            go_wp2
            go_roundg (bQ d+1-(c+1))
            case measure=>omega
            case rel=>
             have e:(wr.drewN nq).setCell ⟨g1,l,none⟩ (.bool true)=(wr.setCell ⟨g1,l,none⟩ (.bool true)).drewN nq:=rfl;rw[e];exact⟨c+1,Z3 M k l,true,by omega,by go_num,rfl,HST.o.1.up (aN _ _),qa (qg2.o (by simp) (by simp)),tS (HB.o.setCell HG1.o _) _,rfl⟩
         go_wp2
         go_roundg (d.next.length+1-(l+1))
         case measure=>omega
         case rel=>exact⟨l+1,M,ag,by omega,by go_num,rfl,HO.o,qa (HP.o.mono fun i j e _ _ he hh=>by omega),HB.o,rfl⟩
       go_wp2
       go_roundg (d.next.length+1-(k+1))
       case measure=>omega
       case rel=>exact⟨k+1,M,ag,by omega,by go_num,rfl,HO.o,qa (HP.o.mono fun i j e _ hj _ hh=>by omega),HB.o,rfl⟩
     go_wp2
     go_roundg (if ag then wN M+1 else 0)
     case measure=>
      have h1:=HG1.o;have h2:=HP.o.lt;cases ag with
      |false=>simp;omega
      |true=>have:=h2 rfl;simp;omega
     case rel=>exact⟨M,ag,rfl,HO.o,qa HP.o.marks,qa (fun e i j c hi hj hc=>HP.o.closed e i j c hi hj hc (by omega)),HB.o,qa rfl⟩
theorem fQ{w:World}{B E:Nat}{v:Value}{xs:List Value}(h:Own w B E v xs):v.oneCell'=true:=by
 rcases h.1.2 with⟨rfl,_⟩|⟨g,cap,cur,rfl,_⟩<;>rfl
theorem S0{w:World}{B E:Nat}{v:Value}{xs:List Value}(h:Own w B E v xs):∃oz nz cz,v=.slice oz nz cz:=by
 obtain⟨oz,cz,_,h,-⟩:=h.cases;exact⟨oz,_,cz,h⟩
theorem dV.new{w w':World}{B E E':Nat}{v:Value}{vs:List Value}{ll:List (List Value)}(h:dV w B E E' v vs ll){v':Value}{o:Obj}(ho:Own w' B E v' (vs++[.slice none 0 0]))(hg:(w.alloc o).grownBy w' v.ownBlock)(hk:∀k,v'.ownBlock=some k->v.ownBlock=some k\/(w.alloc o).heap.size<=k):
  ∃g c,v'=.slice (some ⟨g,0,none⟩) (vs.length+1) c/\Hd w' (some ⟨g,0,none⟩) (vs.length+1) c g 0/\dV w' B E E' (.slice (some ⟨g,0,none⟩) (vs.length+1) c) (vs++[.slice none 0 0]) (ll++[[]])/\w'.cell? ⟨g,vs.length,none⟩=some (.slice none 0 0):=by
 have hp:=h.push (r:=.slice none 0 0) (xs:=[]) (Own.nil _ _ _) ⟨fun k hk e=>by simp[Value.ownBlock]at e,fun i _ k hk e=>by simp[Value.ownBlock]at e⟩ (aE (aA w o) none) ho hg hk;obtain⟨oa,c,g,he,hd,-,hc,-⟩:=ho.cases;rw[qi]at he hd hc;have h1:=hd.hat (by simp);subst h1;subst he;refine⟨g,c,rfl,hd,hp,?_⟩;rw[hc _ (by simp),cT]
end Go.Cm
