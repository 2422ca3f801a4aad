/- Walks of functions and plain facts, joined and squeezed by a program. Conditions: as each says. -/
import Derived.Test.YtdffpnabpoogbaaGreatDoorCTXL
set_option maxHeartbeats 8000000
set_option maxRecDepth 100000
set_option linter.unusedSimpArgs false
open Go.Proofs.Tryz
namespace Go.Cm
open Go.RowKit Go.Proofs Go.Maps
def lY(rows:List (List Int))(k:Int):List UInt8:=rows.flatMap fun r=>m4 (r.getD k.toNat 0)
theorem q7C{rows:List (List Int)}{a b:Int}(ha:∀r∈rows,0<=r.getD a.toNat 0/\r.getD a.toNat 0<65536)(hb:∀r∈rows,0<=r.getD b.toNat 0/\r.getD b.toNat 0<65536):lY rows a=lY rows b↔K9 rows a=K9 rows b:=by
 unfold lY K9
 induction rows with
 |nil=>simp
 |cons r rows ih=>
  have ih:=ih (fun x hx=>ha x (by simp[hx])) (fun x hx=>hb x (by simp[hx]));simp only[List.flatMap_cons,qF]
  constructor
  ·intro h
   obtain⟨h1,h2⟩:=nS (ha r (by simp)) (hb r (by simp)) h;rw[h1,ih.1 h2]
  intro h;injection h with h1 h2;rw[h1,ih.2 h2]
theorem q0Z(rows:List (List Int))(k:Int):(lY rows k).length=2*rows.length:=by
 unfold lY
 induction rows with
 |nil=>rfl
 |cons r rows ih=>rw[List.flatMap_cons,qi,ih];simp[m4];omega
structure tJ(w:World)(g:Nat)(cl:List Int):Prop where
 own:Own w g 37 (.slice (some ⟨g,0,none⟩) 256 256) (ints cl)
 len:cl.length=256
def kA:Array Value:=(ints (List.replicate 256 0)).toArray
theorem tB(W:World):(zeroValue 37).run prog W=.ok (.agg kA) W:=by kernel_rfl
theorem rA:kA.toList=ints (List.replicate 256 0):=rfl
theorem R7:kA.size=256:=by rw[<-qN,rA,aV,qL]
theorem J9(w:World):tJ (w.alloc (.cells kA 37)) w.heap.size (List.replicate 256 0):=by
 refine⟨?_,qL⟩;have h:=bU w w.heap.size kA 37 (by rw[R7];decide) (qb _);rw[rA,R7]at h;exact h
section
variable {w w' : World} {g : Nat} {cl : List Int}
theorem tJ.keep{row:Option Nat}(h:tJ w g cl)(hg:w.grownBy w' row)(hne:row≠some g):tJ w' g cl:=⟨h.own.keep hg (.inr (fun e=>hne e.symm)),h.len⟩
theorem tJ.up(h:tJ w g cl)(hb:Below w.heap.size w w'):tJ w' g cl:=⟨h.own.up hb,h.len⟩
theorem tJ.upB{n:Nat}(h:tJ w g cl)(hn:w.heap.size<=n)(hb:Below n w w'):tJ w' g cl:=⟨h.own.upB hn hb,h.len⟩
theorem tJ.lt(h:tJ w g cl):g<w.heap.size:=(h.own.lt g rfl).2
theorem tJ.cell(h:tJ w g cl){c:Nat}(hc:c<256):w.cell? ⟨g,c,none⟩=some (.int .i64 (cl.getD c 0)):=by
 rw[h.own.cell (by rw[aV,h.len];exact hc),eS _ _ (by rw[h.len];exact hc)]
theorem tJ.free(h:tJ w g cl)(c:Nat):w.frozen? ⟨g,c,none⟩=false:=h.own.free c
theorem tJ.set(h:tJ w g cl)(c:Nat)(k:Int):tJ (w.setCell ⟨g,c,none⟩ (.int .i64 k)) g (cl.set c k)/\w.grownBy (w.setCell ⟨g,c,none⟩ (.int .i64 k)) (some g):=by
 obtain⟨h1,h2⟩:=h.own.store c (.int .i64 k);rw[eU]at h1;exact⟨⟨h1,by simp[h.len]⟩,h2⟩
theorem tJ.open(h:tJ w g cl):∃A,w.heap[g]? =some (.cells A 37 (0,0))/\A.size=256/\A.toList=ints cl:=by
 rcases h.own.1.2 with⟨h1,_⟩|⟨g',cap,cur,h1,_,hg,hnc,hcm,hcs,qbh⟩
 ·cases h1
 simp only[Value.slice.injEq,jz,Addr.mk.injEq,and_true]at h1;obtain⟨rfl,h2,rfl⟩:=h1;have hs:cur.size=256:=by omega
 refine⟨cur,hg,hs,?_⟩;rw[<-qbh,qC];simp[hs,h.len]
end
theorem q5C{ops:Array Oper}{rest:List Oper}{o:Oper}{a:Act}{w:World}{Q:Exit->Act->World->Prop}(hgd:o.guard=none)(x:Operand)(ho:o.op=.load 37 x)
  (g:Nat) (hx:a.eval x=.pointer (some ⟨g,0,none⟩)) (A:Array Value) (hs:A.size=256) (hg:w.heap[g]? =some (.cells A 37 (0,0)))
  (h:wpList prog ops Q rest (a.put o.dst (.agg A)) w):wpList prog ops Q (o::rest) a w:=
 fS hgd 37 x ho g 0 256 hx 37 A A (0,0) _ hg underlying37 rfl (by kernel_rfl) (by rw[hs];decide) (by rw[<-hs];simp) h
theorem zC{C:World->Prop}{o:Oper}{a:Act}{K:Act->Prop}(x:Operand)(ho:o.op=.load 37 x)(g:Nat)(hx:a.eval x=.pointer (some ⟨g,0,none⟩))(A:Array Value)(hs:A.size=256)
  (hg:∀w',C w'->w'.heap[g]? =some (.cells A 37 (0,0))) (h:K (a.put o.dst (.agg A))):o.quiet prog a C K:=by
 refine⟨.agg A,fun w' hw'=>?_,h⟩;have hl:=cQ (P:=prog) w' g 0 256 37 37 A (0,0) _ (hg w' hw') underlying37 rfl (by kernel_rfl) (by rw[hs];decide);unfold Oper.quietAt execOp;simp only[ho,hx,Instr.loadAt,Instr.sureAddr,Sem.run_bind,Sem.run_pure,Result.andThen_ok,hl,Oper.quietUpon];exact⟨trivial,by rw[<-hs];simp⟩
theorem oP{P:Program}{fn:Func}{tmps:Array Value}{w:World}{a t b:Nat}{ad:Addr}{v:Value}(hf:fn.results=#[.tmp b,.cell a t])(ha:tmps.getD a undef=.pointer (some ad))(hl:(loadVar t ad).run P w=.ok v w):
  (results fn tmps).run P w=.ok (.tuple #[tmps.getD b undef,v]) w:=by
 have ha':tmps[a]?.getD undef=.pointer (some ad):=by simpa using ha
 simp[results,hf,asAddr,ha',hl]
theorem uV{P:Program}{fn:Func}{tmps:Array Value}{w:World}{ds:List Deferred}{s b t:Nat}{ad:Addr}{x y:Value}{R:Ending->World->Prop}(hf:fn.results=#[.tmp b,.cell s t])(ha:tmps.getD s undef=.pointer (some ad))(hb:tmps.getD b undef=y)(hd:ds=[])
  (hl:(loadVar t ad).run P w=.ok x w) (h:R (.returned (.tuple #[y,x])) w):bodyPost P fn R .ret ⟨tmps,ds⟩ w:=
 bodyPost_ret (v:=.tuple #[y,x]) (by rw[oP hf ha hl,hb]) hd h
theorem Own.off{w:World}{B E k:Nat}{v:Value}{xs:List Value}(h:Own w B E v xs)(hk:k<B):v.ownBlock=none\/v.ownBlock≠some k:=by
 cases hu:v.ownBlock with
 |none=>exact .inl rfl
 |some q=>exact .inr (fun e=>by have:=h.lt q hu;injection e with e;omega)
theorem Own.ne_of{w:World}{B E k:Nat}{v:Value}{xs:List Value}(h:Own w B E v xs)(hk:k<B):some k≠v.ownBlock:=fun e=>by have:=h.lt k e.symm;omega
def q7D(d:Dfa)(rows:List (List Int))(w:World)(e:Ending)(w':World):Prop:=∃vl B,e=.returned (.tuple #[vl,.agg B])/\Own w' w.heap.size 3 vl (ints (E1 rows d.cls))/\B.toList=ints (q1X rows d.cls)/\Below w.heap.size w w'
theorem q5D(v u:Value)(d:Dfa)(rows:List (List Int))(w:World)(h:pS w v d)(hu:mG w u rows)(hk:∀c,c<256->0<=d.cls.getD c 0/\∀j,j<rows.length->d.cls.getD c 0<((rows.getD j []).length))
  (hx:∀j,j<rows.length->∀i,0<=(rows.getD j []).getD i 0/\(rows.getD j []).getD i 0<65536) (hn:rows.length<=1000):Calls prog 215 #[v,u] w (q7D d rows w):=by
 obtain⟨A,rfl,hs,hl,hc,-,-⟩:=h;obtain⟨oa,cap,b,off,rfl,hd,hro⟩:=hu.open;have hix:=aU (P:=prog) 38 39 underlying38 (by kernel_rfl) hd;obtain⟨B,hB⟩:∃B,A.extract 0 256=B:=⟨_,rfl⟩
 have hBc:∀i,i<256->B[i]? =some (.int .i64 (d.cls.getD i 0)):=fun i hi=>by
  rw[<-hB,Array.getElem?_extract,qt (by omega)];simpa using hc i hi
 have HBL:=qa hd.hblk;have HD:=qa hd;clear hd;have HRO:=qa hro;clear hro;have HS:=qa hs;clear hs hc;have HB:=qa hB;clear hB;have HC:=qa hBc;clear hBc;have HL:=qa hl;clear hl;have HK:=qa hk;clear hk;have HX:=qa hx;clear hx;have HG:=qa (heap_alloc_new w (.cells A 41));have hz:=tB;obtain⟨Z,hZ⟩:∃Z,Z=kA:=⟨_,rfl⟩;rw[<-hZ]at hz;have hmm:=@run_makeMap prog;have HW4:Hid (Below (w.heap.size+2) ((w.alloc (.cells A 41)).alloc (.cells Z 37)) ((((w.alloc (.cells A 41)).alloc (.cells Z 37)).alloc (.cells Z 37)).alloc (.map #[] 0))):=qa (((qk _ _).alloc (by simp) _).alloc (by simp) _)
 have HG4:Hid (((((w.alloc (.cells A 41)).alloc (.cells Z 37)).alloc (.cells Z 37)).alloc (.map #[] 0)).heap[w.heap.size]? =some (.cells A 41 (0,0))):=qa (by
  rw[HW4.o.block _ (by omega),(aA (w.alloc (.cells A 41)) _).block _ (by simp)];exact HG.o)
 have HC4:Hid (tJ ((((w.alloc (.cells A 41)).alloc (.cells Z 37)).alloc (.cells Z 37)).alloc (.map #[] 0)) (w.heap.size+2) (List.replicate 256 0)):=qa (by
  have h1:=(J9 ((w.alloc (.cells A 41)).alloc (.cells kA 37))).up (aA _ (.map #[] 0));rw[<-hZ]at h1;simpa using h1)
 have HR4:Hid (tJ ((w.alloc (.cells A 41)).alloc (.cells Z 37)) (w.heap.size+1) (List.replicate 256 0)):=qa (by
  have h1:=J9 (w.alloc (.cells A 41));rw[<-hZ]at h1;simpa using h1)
 have HM4:Hid (eG prog 9 3 (fun s:List UInt8=>Lit.string s) ((((w.alloc (.cells A 41)).alloc (.cells Z 37)).alloc (.cells Z 37)).alloc (.map #[] 0)) (w.heap.size+3) []):=qa (by
  have h1:=eG.made (P:=prog) (K:=9) (E:=3) (((w.alloc (.cells A 41)).alloc (.cells Z 37)).alloc (.cells Z 37)) (fun s:List UInt8=>Lit.string s);simpa using h1)
 clear hZ
 have hPC:∀a∈d.cls,∀b∈d.cls,K9 rows a=K9 rows b↔lY rows a=lY rows b:=fun a ha b hb=>(q7C (fun r hr=>by
   obtain⟨j,hj,rfl⟩:=List.mem_iff_getElem.1 hr;have:=HX.o j hj a.toNat;simpa[List.getD,hj]using this) (fun r hr=>by
   obtain⟨j,hj,rfl⟩:=List.mem_iff_getElem.1 hr;have:=HX.o j hj b.toNat;simpa[List.getD,hj]using this)).symm
 have HPC:=qa (i8 hPC);clear hPC;go_enter func215,ntmps215
 go_wp2_with(refine q0t rfl _ rfl w.heap.size rfl A B HS.o HB.o HG4.o ?_)
 go_loopg [6,20] 257 (fun gk vl i wr=>∃(k:Nat) (cl:List Int),k<=256/\i=.int .i64 k/\Own wr (w.heap.size+4) 3 vl (ints (aL (lY rows) (d.cls.take k)))/\tJ wr (w.heap.size+2) cl/\eG prog 9 3 (fun s:List UInt8=>Lit.string s) wr (w.heap.size+3) (eW ((d.cls.take k).map (lY rows)))/\Hid (∀i,i<k->cl.getD i 0=(bP (lY rows) d.cls (d.cls.getD i 0):Nat))/\Below (w.heap.size+2) ((w.alloc (.cells A 41)).alloc (.cells Z 37)) wr/\gk=257-k)
 case atStart=>exact⟨0,_,qd _,rfl,Own.nil _ _ _,HC4.o,HM4.o,qa (fun i hi=>absurd hi (qz i)),HW4.o,rfl⟩
 case round=>
  clear HC4 HM4 HW4 HG4 hmm hz;obtain⟨k,cl,hk,rfl,how,hbx,hmap,HCL,qbe,rfl⟩:=hrel;have hsz:w.heap.size+2<=wr.heap.size:=by have:=qbe.size;simpa using this
  have HW:=qa qbe;clear qbe;have HO:=qa how;clear how;have HBX:=qa hbx;clear hbx;have HMP:=qa hmap;clear hmap;by_cases hlt:k<256
  ·have hlc:k<d.cls.length:=by rw[HL.o];exact hlt
   have qca:=fun W=>sT hlt (HC.o k hlt) W;obtain⟨hk0,hkr⟩:=HK.o k hlt;have HT:=qa (aY d.cls k 0 hlc);have HKC:=qa hkr;clear hkr;have qk4:Hid (d.cls.getD k 0∈d.cls):=qa (dH _ _ _ hlc);have HKV:Hid (d.cls.getD k 0=d.cls.getD k 0):=qa rfl;generalize qgV:d.cls.getD k 0=kap at HT HKC qk4 HKV qca hk0;have qhQ:=qa qgV;clear qgV;go_wp2;obtain⟨wo,rfl⟩:∃wo:World,wo=wr:=⟨_,rfl⟩
   go_loopg [11,26] (rows.length+1) (fun gk vb i wr=>∃j:Nat,j<=rows.length/\i=.int .i64 j/\Own wr wo.heap.size 5 vb (bK (lY (rows.take j) kap))/\Below wo.heap.size wo wr/\gk=rows.length+1-j)
   case atStart=>exact⟨0,qd _,rfl,Own.nil _ _ _,qk _ _,rfl⟩
   case round=>
    obtain⟨j,hj,rfl,how,qbe,rfl⟩:=hrel;have qbw:=qbe.size;have HBB:=qa qbe;clear qbe;have HOB:=qa how;clear how;by_cases qbj:j<rows.length
    ·obtain⟨oi,ci,bi,fi,hck,hdk,hcj,-⟩:=HRO.o j qbj
     have h1:=HKC.o j qbj;have hb:=HBL.o (by omega);have hbi:=hdk.hblk (by omega);have qbJ:=aU (P:=prog) 39 3 underlying39 (by kernel_rfl) hdk
     have hcw:∀q o,q<w.heap.size->wr.cell? ⟨q,o,none⟩=w.cell? ⟨q,o,none⟩:=fun q o hq=>by
      rw[HBB.o.cell (p:=⟨q,o,none⟩) (show q<wo.heap.size by omega),HW.o.cell (p:=⟨q,o,none⟩) (show q<w.heap.size+2 by omega),World.cell?_alloc_past _ _ _ (show q<(w.alloc (.cells A 41)).heap.size by simp;omega),World.cell?_alloc_past _ _ _ hq]
     have hcell:=(hcw b (off+j) hb).trans hck;have qbE:=(hcw bi (fi+kap.toNat) hbi).trans (hcj kap.toNat (by omega))
     have HRT:Hid (bK (lY (rows.take (j+1)) kap)=bK (lY (rows.take j) kap)++bK (m4 ((rows.getD j []).getD kap.toNat 0))):=qa (by
      rw[aY rows j [] qbj,<-lT];simp[lY])
     have hll:∀y,(lY (rows.take j) kap).length+(m4 y).length<=4294967296:=fun y=>by rw[q0Z];simp[m4];omega
     have HLL:=qa (hll ((rows.getD j []).getD kap.toNat 0));clear hll;clear hck hcj hcw;have HDK:=qa hdk;clear hdk;generalize rows.getD j []=row at*;generalize row.getD kap.toNat 0=y at*;have hs1:b<wr.heap.size:=by omega
     have hs2:bi<wr.heap.size:=by omega
     have hn1:some b≠u11.ownBlock:=fun e=>by have:=HOB.o.lt b e.symm;omega
     have hn2:some bi≠u11.ownBlock:=fun e=>by have:=HOB.o.lt bi e.symm;omega
     go_wp2;refine kP u11.ownBlock [0,1,2,3,4,5,6,7,8,9,10,11] [12,13,14] (by kernel_rfl) (by kernel_rfl) ?_;simp only[pk]
     repeat(go_big_quiet_step (fail))
     refine wpQuiet_nil ?_
     (unfold aG;go_wp2;refine⟨bX (aE aJ _),?_⟩)
     unfold aG
     have hx:Sl (wr.alloc (.cells #[.int .u8 (y%256),.int .u8 (y/256%256)] 5)).drew (.slice (some ⟨wr.heap.size,0,none⟩) 2 2) (bK (m4 y)):=by
      have h1:=(dY wr #[.int .u8 (y%256),.int .u8 (y/256%256)] 5 (by simp)).up (aN _ 1);rw[<-World.drew_is_drewN]at h1;rw[kJ];simpa using h1
     have HXX:=qa hx;clear hx
     go_wp2_with(at_builtin;go_loud (refine bM rfl (.tmp 30) (.tmp 42) 143 rfl wo.heap.size 5 (.int .u8 0) 1 underlying143 (by kernel_rfl) rfl (by decide) u11 (bK (lY (rows.take j) kap)) rfl (HOB.o.up aJ) (.slice (some ⟨wr.heap.size,0,none⟩) 2 2) (bK (m4 y)) rfl HXX.o (oO _) (by rw[e7,e7];exact HLL.o) (qc qbw (by simp)) ?_);intro v' w1 hown1 hg1 hk1;have HO1:=qa hown1;have HG1:=qa hg1;clear hown1 hg1 hk1)
     refine⟨bX (aC (aE aJ _) HG1.o),?_⟩;unfold aG;go_wp2;refine⟨bX (aC (aE aJ _) HG1.o),?_⟩;unfold aG;intro _ hz;clear hz;go_wp2
     go_roundg (rows.length+1-(j+1))
     case measure=>omega
     case rel=>
      refine⟨j+1,by omega,by go_num,?_,?_,rfl⟩
      ·rw[HRT.o];exact HO1.o
      exact dR (B:=wo.heap.size) (gH (HBB.o.alloc qbw _)) (by simp;omega) (HOB.o.up aJ) HG1.o
    have hjn:j=rows.length:=by omega
    subst hjn;rw[qX]at HOB;have hcv:=k9 (P:=prog) wr 143 9 5 underlying143 underlying5 underlying9 u11 _ HOB.o.sl;have HTL:Hid ((lY rows kap).length<=2000):=qa (by rw[q0Z];omega);have HTM:Hid (((d.cls.take (k+1)).map (lY rows))=(d.cls.take k).map (lY rows)++[lY rows kap]):=qa (by rw[HT.o,qD];rfl);have HOX:=qa (HO.o.up HBB.o);have qdq:=qa (HBX.o.up HBB.o);have HMX:=qa (HMP.o.up HBB.o);have HWX:=qa (HW.o.trans (HBB.o.mono hsz))
    have HPV:Hid (bP (lY rows) d.cls kap=idx (eW ((d.cls.take (k+1)).map (lY rows))) (lY rows kap)):=qa (by
     have h:=m8 ((d.cls.take (k+1)).map (lY rows)) ((d.cls.drop (k+1)).map (lY rows)) (x:=lY rows kap) (by rw[HTM.o];simp);rw[<-qD,j5]at h;rw[<-h,<-bV];rfl)
    have HPM:=qa (bV (lY rows) (d.cls.take k));have HPY:Hid (lY rows kap∈eW ((d.cls.take k).map (lY rows))->aL (lY rows) (d.cls.take (k+1))=aL (lY rows) (d.cls.take k)):=qa (fun h=>by rw[HT.o,cC,qt];rwa [bV]);have HPN:Hid (lY rows kap∉eW ((d.cls.take k).map (lY rows))->aL (lY rows) (d.cls.take (k+1))=aL (lY rows) (d.cls.take k)++[kap]):=qa (fun h=>by rw[HT.o,cC,qr];rwa [bV]);have HPL:Hid ((aL (lY rows) (d.cls.take k)).length<=256):=qa (by have:=gQ (lY rows) (d.cls.take k);simp at this;omega);have HUS:Hid (eW ((d.cls.take (k+1)).map (lY rows))=aW (eW ((d.cls.take k).map (lY rows))) (lY rows kap)):=qa (by rw[HTM.o,i6]);clear HTM;have qkn:w.heap.size+4<=wr.heap.size:=by have:=HMX.o.lt;omega
    generalize hL:aL (lY rows) (d.cls.take k)=L at*;clear hL;obtain⟨ol,cl0,gl,hvl,-⟩:=HOX.o.cases;subst hvl;rw[aV]at HOX⊢;generalize eW ((d.cls.take k).map (lY rows))=ks at*;generalize lY rows kap=tx at*;have HKL:Hid (ks.length=L.length):=qa (by rw[<-HPM.o,qy])
    have hkey:keyOf prog 9 (.string ⟨tx.toArray⟩)=some (.string tx):=by
     have:=Go.WideMaps.keyOf_string_mk (P:=prog) (k:=9) underlying9 (s:=⟨tx.toArray⟩) (by have:=HTL.o;show tx.toArray.size<=_;simp[maxLen];omega);simpa using this
    have HKEY:=qa hkey;clear hkey;obtain⟨D,hD,hM⟩:=HMX.o;rw[HKL.o]at hD;have HM:=qa hM;clear hM;have HDM:=qa hD;clear hD;have hcn:wr.cell? ⟨w.heap.size+1+1,k,none⟩=some (.int .i64 (cl.getD k 0)):=qdq.o.cell hlt;have hfn:wr.frozen? ⟨w.heap.size+1+1,k,none⟩=false:=qdq.o.free k;clear HMX HMP HOB;generalize hy0:cl.getD k 0=y0 at hcn;clear hy0;by_cases qbf:tx∈ks
    ·have qbq:Hid (Maps.has D (.string tx)=true):=qa (by rw[HM.o.2.2.1 tx];simpa using qbf)
     have qbl:=qa qbf;clear qbf
     go_wp2_with(first|(at_lookup;refine wpList_lookup_own_ok_int _ rfl _ _ 246 rfl 9 3 .i64 d7 underlying246 underlying3 (dU _) (w.heap.size+3) _ D rfl HDM.o _ _ rfl HKEY.o ?_;intro c hat hwc;rw[qbq.o];clear hat hwc)|(at_lookup;refine wpList_lookup_own_int _ rfl _ _ 246 rfl 9 3 .i64 d7 underlying246 underlying3 (dU _) (w.heap.size+3) _ D rfl HDM.o _ _ rfl HKEY.o ?_;intro c hat hwc;have hce:=HM.o.at_eq qbl.o hat;subst hce;clear hat hwc))
     go_roundg (257-(k+1))
     case measure=>omega
     case rel=>
      obtain⟨hbs,hgs⟩:=qdq.o.set k (idx ks tx:Nat);refine⟨k+1,cl.set k (idx ks tx:Nat),by omega,by go_num,?_,hbs,?_,qa (fun a ha=>?_),HWX.o.setCell (qb _) _,rfl⟩
      ·rw[HPY.o qbl.o]
       exact HOX.o.keep hgs (HOX.o.off (by omega))
      ·rw[HUS.o,aW,qt qbl.o]
       exact eG.keep ⟨D,by rw[HKL.o];exact HDM.o,HM.o⟩ hgs (by simp)
      rw[n7];rcases Nat.lt_succ_iff_lt_or_eq.1 ha with h1|rfl
      ·rw[qr (by omega)];exact HCL.o a h1
      rw[qt ⟨rfl,by rw[qdq.o.len];exact hlt⟩,qhQ.o,HPV.o,HUS.o,aW,qt qbl.o]
    have qbq:Hid (Maps.has D (.string tx)=false):=qa (by rw[HM.o.2.2.1 tx];simpa using qbf);have qbl:=qa qbf;clear qbf;have hms:=HM.o.snoc P0 qbl.o;rw[HKL.o]at hms;have HMS:=qa hms;clear hms;have HIX:Hid (idx (ks++[tx]) tx=L.length):=qa (by rw[dN qbl.o,HKL.o]);clear hcn hfn
    go_wp2_with(first|(at_lookup;refine wpList_lookup_own_ok_int _ rfl _ _ 246 rfl 9 3 .i64 d7 underlying246 underlying3 (dU _) (w.heap.size+3) _ D rfl HDM.o _ _ rfl HKEY.o ?_;intro c hat hwc;rw[qbq.o];clear hat hwc)|(at_mapUpdate;go_loud (refine wpList_mapUpdate_own _ rfl _ _ _ 246 rfl 9 3 d7 underlying246 _ (w.heap.size+3) _ D rfl HDM.o (by have:=HPL.o;unfold maxLen;omega) _ _ _ rfl rfl HKEY.o _ [] (plainElem_int underlying3 (q8b _ (by have:=HPL.o;omega))) ?_;intro w1 hown1 hg1;have HD1:=qa hown1;have HG1:=qa hg1;have hs1:=hg1.size;have HO1:=qa (HOX.o.keep hg1 (HOX.o.off (by omega)));clear hown1 hg1))|(at_builtin;go_loud (refine bM rfl (.tmp 59) (.tmp 61) 39 rfl (w.heap.size+4) 3 (.int .i64 0) 8 underlying39 (by kernel_rfl) rfl (by decide) (.slice ol L.length cl0) (ints L) rfl (HO1.o.up (aA _ _)) (.slice (some ⟨w1.heap.size,0,none⟩) 1 1) (ints [kap]) rfl (dY w1 #[.int .i64 kap] 3 (by simp)) (iD _) (by have:=HPL.o;simp;omega) (by simp;omega) ?_;intro v' w2 hown2 hg2 hk2;have HO2:=qa hown2;have HG2:=qa (aC (aE (aA w1 (.cells #[.int .i64 kap] 3)) _) hg2);have HD2:=qa (HD1.o.kept HG2.o (HO1.o.ne_of (by omega)));have HX2:=qa ((qdq.o.keep HG1.o (by simp)).keep HG2.o (fun e=>HO1.o.ne_of (by omega) e.symm));have qlf:=HX2.o.cell hlt;have ql0:=HX2.o.free k;clear hown2 hg2 hk2))|(at_lookup;refine wpList_lookup_own_int _ rfl _ _ 246 rfl 9 3 .i64 d7 underlying246 underlying3 (dU _) (w.heap.size+3) _ _ rfl HD2.o _ _ rfl HKEY.o ?_;intro c hat hwc;have hce:=(HMS.o.at_eq (k:=tx) (by simp) hat).trans (qW Int.ofNat HIX.o);subst hce;clear hat hwc))
    go_roundg (257-(k+1))
    case measure=>omega
    case rel=>
     obtain⟨hbs,hgs⟩:=HX2.o.set k (L.length:Nat);refine⟨k+1,cl.set k (L.length:Nat),by omega,by go_num,?_,hbs,?_,qa (fun a ha=>?_),((HWX.o.grown HG1.o (by omega) (fun j hj=>by cases hj;omega)).grown HG2.o (by omega) (fun j hj=>by have:=(HO1.o.lt j hj).1;omega)).setCell (qb _) _,rfl⟩
     ·rw[HPN.o qbl.o,iN]
      exact HO2.o.keep hgs (HO2.o.off (by omega))
     ·rw[HUS.o,aW,qr qbl.o]
      exact eG.keep ⟨_,by rw[qi,qB,HKL.o];exact HD2.o,HMS.o⟩ hgs (by simp)
     rw[n7];rcases Nat.lt_succ_iff_lt_or_eq.1 ha with h1|rfl
     ·rw[qr (by omega)];exact HCL.o a h1
     rw[qt ⟨rfl,by rw[qdq.o.len];exact hlt⟩,qhQ.o,HPV.o,HUS.o,aW,qr qbl.o,HIX.o]
  have hk6:k=256:=by omega
  subst hk6;have hct:d.cls.take 256=d.cls:=qC (by rw[HL.o];exact qb _);rw[hct]at HO
  have HCE:Hid (cl=q1X rows d.cls):=qa (q0Y (by rw[HBX.o.len];simp[q1X,HL.o]) (fun i hi=>by
   have hi':i<d.cls.length:=by rw[HL.o,<-HBX.o.len];exact hi
   have hm:d.cls.getD i 0∈d.cls:=dH _ _ _ hi';rw[HCL.o i (by rw[<-HBX.o.len];exact hi),<-HPC.o.2 _ hm,q1X,tL];simp[List.getD,hi']))
  clear hct HCL HMP;obtain⟨C1,hC1,qhn,qho⟩:=HBX.o.open;have HC1:=qa hC1;clear hC1;have qf2:=qa qhn;clear qhn;have HR1:=qa (HR4.o.upB (by simp) HW.o)
  have HQ:Hid (∀w',(∃x,w'=chg wr (some (w.heap.size+1)) x)->w'.heap[w.heap.size+2]? =some (.cells C1 37 (0,0))):=qa (by
   rintro w' ⟨x,rfl⟩;rw[(fT wr x _).block (w.heap.size+2) HBX.o.lt (by simp)];exact HC1.o)
  have hrl:=HR1.o.lt;go_wp2;refine kP (some (w.heap.size+1)) [0,2,1] [3] (by kernel_rfl) (by kernel_rfl) ?_;simp only[pk]
  repeat(first|(go_big_quiet_want;refine zC _ rfl (w.heap.size+2) rfl C1 qf2.o HQ.o ?_;go_simp;go_big_quiet_on)|go_big_quiet_step (fail))
  refine wpQuiet_nil ?_;unfold aG
  go_wp2_with(refine bD rfl 37 _ _ rfl (w.heap.size+1) 37 (w.heap.size+1) 256 256 rfl C1 rfl (by rw[qf2.o];kernel_rfl) (ints (List.replicate 256 0)) (HR1.o.own.up (gH (qk _ _))) (by rw[qf2.o,aV,qL];exact qb _) (by rw[qho];exact iD _) ?_;intro w2 hown2 hg2;have HO2:=qa hown2;have HG2:=qa hg2;clear hown2 hg2)
  refine⟨bX (aC (cJ _ _) HG2.o),?_⟩;unfold aG;intro _ _;go_wp2;have hg2:wr.grownBy w2 (some (w.heap.size+1)):=aC (cJ _ _) HG2.o
  have hbc:tJ w2 (w.heap.size+1) cl:=⟨by
   have h:=HO2.o;rw[qf2.o,jm (by rw[aV,qL];exact qb _),j4,qho]at h;exact h,HBX.o.len⟩
  obtain⟨C2,hC2,qhm,qjv⟩:=hbc.open;have hl2:=cQ (P:=prog) w2 (w.heap.size+1) 0 256 37 37 C2 (0,0) _ hC2 underlying37 rfl (by kernel_rfl) (by rw[qhm];decide);have e2:C2.extract 0 (0+256)=C2:=by rw[qE,<-qhm];simp
  rw[e2]at hl2;refine uV rfl rfl rfl rfl hl2 ⟨u6,C2,rfl,?_,?_,?_⟩
  ·have h:=(HO.o.keep hg2 (HO.o.off (by omega))).mono (show w.heap.size<=w.heap.size+4 by omega)
   rw[<-HPC.o.1]at h;exact h
  ·rw[qjv,HCE.o]
  have hb0:Below w.heap.size w ((w.alloc (.cells A 41)).alloc (.cells Z 37)):=aJ;exact(hb0.trans (HW.o.mono (by omega))).grown hg2 (by omega) (fun j hj=>by cases hj;omega)
end Go.Cm
namespace Go.Cm
open Go.RowKit Go.Proofs
theorem Y5(w:World)(o o':Obj)(x:World):w.heap.size<(ext ((w.alloc o).alloc o') x).heap.size:=qe (by simp;omega) (iT _ x)
theorem q6s(w:World)(o o':Obj):w.heap.size<((w.alloc o).alloc o').heap.size:=by simp;omega
theorem Y6(w:World)(o o':Obj)(x:World):w.heap.size<=(ext ((w.alloc o).alloc o') x).heap.size:=jn (Y5 w o o' x)
theorem Own.ne_lt{w:World}{B E k:Nat}{v:Value}{xs:List Value}(h:Own w B E v xs)(hk:k<B):v.ownBlock=none\/v.ownBlock≠some k:=by
 cases hu:v.ownBlock with
 |none=>exact .inl rfl
 |some q=>exact .inr (fun e=>by have:=h.lt q hu;injection e with e;omega)
section
variable {w : World} {B E E' : Nat} {v v' u u' r : Value} {vs : List Value} {ll : List (List Value)}
theorem dV.free_step(h:dV w B E E' v vs ll)(hf:dV.free v vs u.ownBlock)(hk:∀k,u'.ownBlock=some k->u.ownBlock=some k\/w.heap.size<=k):dV.free v vs u'.ownBlock:=by
 cases hu:u'.ownBlock with
 |none=>exact dV.free_none
 |some k=>
  rcases hk k hu with h1|h1
  ·rw[<-h1];exact hf
  exact h.free_new h1
theorem dV.free_push{xs:List Value}(hf:dV.free v vs u.ownBlock)(hu:Own w B E u xs)(hr:∀k,r.ownBlock=some k->u.ownBlock≠some k)(hk:∀k,v'.ownBlock=some k->v.ownBlock=some k\/w.heap.size<=k):dV.free v' (vs++[r]) u.ownBlock:=by
 refine⟨fun k h e=>?_,fun i hi k h e=>?_⟩
 ·rcases hk k h with h1|h1
  ·exact hf.1 k h1 e
  have:=hu.lt k e;omega
 rw[qi,qB]at hi;rcases Nat.lt_succ_iff_lt_or_eq.1 hi with h1|rfl
 ·rw[bS h1]at h;exact hf.2 i h1 k h e
 rw[cT]at h;exact hr k h e
end
theorem D0{w w1 w2:World}{r row:Option Nat}(h:w.grownBy w1 r)(h':w1.grownBy w2 row)(hk:∀k,row=some k->w.heap.size<=k):w.grownBy w2 r:=
 ⟨h'.os.trans h.os,h'.tape.trans h.tape,h'.output.trans h.output,qc h.size h'.size,fun k hk1 hne=>(h'.block k (qe hk1 h.size) (fun e=>by have:=hk k e.symm;omega)).trans (h.block k hk1 hne)⟩
theorem q7E(w:World):yU w rN cG:=W8 (cl:=List.replicate 256 0) iE qL ⟨[],Sl.nil _,rfl,fun i hi=>absurd hi (qz i)⟩ (Sl.nil _)
end Go.Cm
namespace Go.Cm
open Go.RowKit Go.Proofs Go.Maps
theorem D1{d:Dfa}{f k n:Nat}(hf:f∈fH d k)(hk:k<=n):idx (fH d n) f=idx (fH d k) f:=by
 obtain⟨l,hl⟩:=wQ d k (n-k);rw[show k+(n-k)=n by omega]at hl;rw[hl,cV hf]
theorem tD{d:Dfa}{f k n:Nat}(hf:f∈fH d k)(hk:k<=n):f∈fH d n:=by
 have:=eJ.1 hf;exact eJ.2 ⟨by omega,this.2⟩
theorem zG.eq{d:Dfa}{part:List Int}(h:zG d part){i j:Nat}(hi:i<d.next.length)(hj:j<d.next.length):part.getD i 0=part.getD j 0↔Eqv d i j:=by
 obtain⟨f,hf,he,hp⟩:=h.2 i hi;obtain⟨g,hg,he',hp'⟩:=h.2 j hj;rw[hp,hp',<-D1 (n:=d.next.length) hf hi,<-D1 (n:=d.next.length) hg hj]
 constructor
 ·intro hq
  have:=wO (tD hf hi) (tD hg hj) (by omega);subst this;exact he.trans he'.symm
 intro hq;have:=nU hf hg (he.symm.trans (hq.trans he'));rw[this]
theorem zG.range{d:Dfa}{part:List Int}(h:zG d part){i:Nat}(hi:i<d.next.length):∃q:Nat,part.getD i 0=q/\q<d.next.length:=by
 obtain⟨f,hf,he,hp⟩:=h.2 i hi;have h1:=fX hf;have h2:=q1g d (i+1);exact⟨_,hp,by omega⟩
theorem q3W{q:Nat}(h:q<=4294967296):keyOf prog 3 (.int .i64 (q:Int))=some (.int .i64 (q:Int)):=keyOf_int_mk underlying3 (q8b q h)
theorem tE:Keyed prog 3:=int_keyed underlying3
theorem Y7{w:World}{g i:Nat}{o:Obj}(hg:w.heap[g]? =some o)(hn:∀c t f,o≠.cells c t f):w.cell? ⟨g,i,none⟩=none:=by
 unfold World.cell?;rw[hg];cases o<;>first|rfl|exact absurd rfl (hn _ _ _)
theorem q3X{ops:Array Oper}{rest:List Oper}{o:Oper}{a:Act}{w:World}{Q:Exit->Act->World->Prop}(hgd:o.guard=none)(x y:Operand)(ho:o.op=.store 37 x y)
  (g:Nat) (hx:a.eval x=.pointer (some ⟨g,0,none⟩)) (C:Array Value) (hy:a.eval y=.agg C) {cl cl':List Int} (hC:C.toList=ints cl') (hl:cl'.length=256) (hB:tJ w g cl)
  (h:∀w',tJ w' g cl'->w.grownBy w' (some g)->wpList prog ops Q rest (a.put o.dst undef) w'):wpList prog ops Q (o::rest) a w:=by
 have hs:C.size=256:=by rw[<-qN,hC,aV,hl]
 have qbV:(ints cl).length=256:=by rw[aV,hB.len]
 refine bD hgd 37 x y ho g 37 g 256 256 hx C hy (by rw[hs];kernel_rfl) (ints cl) hB.own (by rw[hs,qbV];exact qb _) (by rw[hC];exact iD _) fun w' hw hg=>h w' ⟨?_,hl⟩ hg;rw[hs,jm (by rw[qbV];exact qb _),j4,hC]at hw;exact hw
theorem q3Y{ops:Array Oper}{rest:List Oper}{o:Oper}{a:Act}{w:World}{Q:Exit->Act->World->Prop}(hgd:o.guard=none)(x y:Operand)(ho:o.op=.store 37 x y)
  (g:Nat) (hx:a.eval x=.pointer (some ⟨g,0,none⟩)) (C:Array Value) (hy:a.eval y=.agg C) {nv rv:Value} {cl cl':List Int} (hC:C.toList=ints cl') (hl:cl'.length=256) (hB:lA w g nv rv cl)
  (h:∀w',lA w' g nv rv cl'->w.grownBy w' (some g)->wpList prog ops Q rest (a.put o.dst undef) w'):wpList prog ops Q (o::rest) a w:=by
 have hs:C.size=256:=by rw[<-qN,hC,aV,hl]
 have qbV:(ints cl).length=256:=by rw[aV,hB.len]
 refine bD hgd 37 x y ho g 41 g 258 258 hx C hy (by rw[hs];kernel_rfl) (ints cl++[nv,rv]) hB.own (by rw[hs,qi,qbV];exact Nat.le_add_right _ _) (by rw[hC];exact iD _) fun w' hw hg=>h w' ⟨?_,hl⟩ hg;rw[hs,List.drop_append_of_le_length (by rw[qbV];exact qb _),jm (by rw[qbV];exact qb _),List.nil_append,hC]at hw;exact hw
theorem Y8{d:Dfa}(hv:bZ d){j:Nat}(hj:j<(dL d).length)(i:Nat):0<=((dL d).getD j []).getD i 0/\((dL d).getD j []).getD i 0<65536:=by
 rw[iU]at hj;have h1:=wS hv;have h2:=hv.2.1;by_cases hi:i<bQ d
 ·rw[oT hv hj hi]
  have:=M7 hv hj hi;omega
 have hl:((dL d).getD j []).length<=i:=by
  rw[tR d hj,lC,qy,dG hv (iS hv (vW hj))];omega
 rw[qq,qM hl];simp
def K1(w:World)(B:Nat)(A:Array Value)(d:Dfa):Prop:=∃nv vs rv Bn Br,A.toList=ints d.cls++[nv,rv]/\d.cls.length=256/\B<=Bn/\B<=Br/\dV w Bn 39 3 nv vs (d.next.map ints)/\Own w Br 3 rv (ints d.rules)
theorem K1.val{w:World}{B:Nat}{A:Array Value}{d:Dfa}(h:K1 w B A d):yU w A d:=by
 obtain⟨nv,vs,rv,Bn,Br,h1,h2,-,-,h5,h6⟩:=h;exact W8 h1 h2 h5.rowsG.ints h6.sl
theorem K1.up{w w':World}{B:Nat}{A:Array Value}{d:Dfa}(h:K1 w B A d)(hb:Below w.heap.size w w'):K1 w' B A d:=by
 obtain⟨nv,vs,rv,Bn,Br,h1,h2,h3,h4,h5,h6⟩:=h;exact⟨nv,vs,rv,Bn,Br,h1,h2,h3,h4,h5.up hb,h6.up hb⟩
theorem K1.keep{w w':World}{B g:Nat}{A:Array Value}{d:Dfa}(h:K1 w B A d)(hg:w.grownBy w' (some g))(hl:g<B):K1 w' B A d:=by
 obtain⟨nv,vs,rv,Bn,Br,h1,h2,h3,h4,h5,h6⟩:=h;exact⟨nv,vs,rv,Bn,Br,h1,h2,h3,h4,h5.keep' hg (h5.free_below (by omega)),h6.keep hg (h6.ne_lt (by omega))⟩
theorem K1.mono{w:World}{B B':Nat}{A:Array Value}{d:Dfa}(h:K1 w B A d)(hB:B'<=B):K1 w B' A d:=by
 obtain⟨nv,vs,rv,Bn,Br,h1,h2,h3,h4,h5,h6⟩:=h;exact⟨nv,vs,rv,Bn,Br,h1,h2,by omega,by omega,h5,h6⟩
def q11(d:Dfa)(w:World)(e:Ending)(w':World):Prop:=∃A,e=.returned (.tuple #[.agg A,.int .i64 (pN d)])/\K1 w' w.heap.size A (yY d)/\Below w.heap.size w w'
theorem q12{fn:Func}{tmps:Array Value}{w:World}{ds:List Deferred}{s b g:Nat}{nv rv y:Value}{cl:List Int}{R:Ending->World->Prop}(hf:fn.results=#[.cell s 41,.tmp b])(ha:tmps.getD s undef=.pointer (some ⟨g,0,none⟩))(hb:tmps.getD b undef=y)(hd:ds=[])
  (hB:lA w g nv rv cl) (h:∀A,A.toList=ints cl++[nv,rv]->R (.returned (.tuple #[.agg A,y])) w):bodyPost prog fn R .ret ⟨tmps,ds⟩ w:=by
 obtain⟨A,hg,hs,hA⟩:=hB.open;have hl:=cQ (P:=prog) w g 0 258 41 41 A (0,0) _ hg underlying41 rfl (by kernel_rfl) (by rw[hs];decide);have e:A.extract 0 (0+258)=A:=by rw[qE,<-hs];simp
 rw[e]at hl;refine bodyPost_ret (v:=.tuple #[.agg A,y]) ?_ hd (h _ hA);rw[kG hf ha hl,hb]
theorem qab(v:Value)(d:Dfa)(w:World)(h:pS w v d):Calls prog 211 #[v] w (q11 d w):=by
 have hL:=fun w' (hb:Below w.heap.size w w')=>y7 v d w' (h.up hb);have hAp:=fun w' (hb:Below w.heap.size w w') hv=>parts v d w' (h.up hb) hv;have hRe:=fun w' (hb:Below w.heap.size w w')=>q58 v d w' (h.up hb);have hCo:=fun w' (hb:Below w.heap.size w w') (u:Value) (rows:List (List Int)) hu hk hx hn=>q5D v u d rows w' (h.up hb) hu hk hx hn;obtain⟨A,rfl,hs,hl,hc,⟨vn,hn,hrw⟩,⟨vr,hr,hru⟩⟩:=h;obtain⟨oa,cap,b,off,rfl,hd,hro⟩:=hrw.open;obtain⟨oq,capq,bq,offq,rfl,hdq,hrq⟩:=hru.open;have HAP:=qa hAp;clear hAp;have HRE:=qa hRe;clear hRe;have HCO:=qa hCo;clear hCo;have HRO:=qa hro;clear hro;have HRQ:=qa hrq;clear hrq;have HD:=qa hd;clear hd;have HDQ:=qa hdq;clear hdq;have HLC:=qa hl;have HN:=qa hn;have HR:=qa hr;have HL:=qa hL;clear hL;have HS:=qa hs;clear hs hc hl hn hr hrw hru;have HG:=qa (heap_alloc_new w (.cells A 41));have hz:=nA;have hbd:=oE;have hmm:=@run_makeMap prog;obtain⟨Z,hZ⟩:∃Z,Z=rN:=⟨_,rfl⟩;rw[<-hZ]at hz hbd;have HZ:=qa hZ;clear hZ
 have HB2:Hid (lA ((w.alloc (.cells A 41)).alloc (.cells Z 41)) (w.heap.size+1) (.slice none 0 0) (.slice none 0 0) (List.replicate 256 0)):=qa (by
  have:=nB (w.alloc (.cells A 41));rw[<-HZ.o]at this;simpa using this)
 have HG2:Hid (((w.alloc (.cells A 41)).alloc (.cells Z 41)).heap[w.heap.size]? =some (.cells A 41 (0,0))):=qa (by rw[(aA _ _).block _ (by simp)];exact HG.o);by_cases hv:bZ d
 ·have hrb:=iK hv
  have HI:=qa (M0 hv);have HE:=qa (M1 hv);have HRI:=qa (A7 hv);have hn1:=hv.1;have hn2:=hv.2.1;have HRB:=qa (gM hv).2.1;have qiz:=M2 hv;have HV:=qa hv;clear hv;go_enter func211,ntmps211
  go_wp2_with(first|(refine dQ rfl _ rfl w.heap.size rfl A HS.o HG2.o ?_)|(refine dQ rfl _ rfl w.heap.size rfl A HS.o ((vY _ _ _ (q6s w _ _)).trans HG2.o) ?_)|(refine dQ rfl _ rfl w.heap.size rfl A HS.o HG3.o ?_)|(go_at_call 212;refine(HL.o _ aJ).mono ?_;rintro e w' ⟨rfl,x,rfl⟩;rw[hrb])|(go_at_call 213;refine(HAP.o _ aJ HV.o).mono ?_;rintro e w1 ⟨va,part,rfl,hva,hok,hb1⟩;have HB1:=qa hb1;have HVA:=qa hva;have HOK:=qa hok;have HG3:Hid ((w1.alloc (.map #[] 0)).heap[w.heap.size]? =some (.cells A 41 (0,0))):=qa (((aA w1 (.map #[] 0)).block w.heap.size (qe (Y5 w _ _ x) hb1.size)).trans ((hb1.block w.heap.size (Y5 w _ _ x)).trans ((vY _ _ _ (q6s w _ _)).trans HG2.o)));clear hb1 hva hok)|(go_at_call 214;refine(HRE.o _ (((kK (kO (aA w _) _) x).trans (HB1.o.mono (Y6 w _ _ x))).alloc (qc (Y6 w _ _ x) HB1.o.size) _)).mono ?_;rintro e w2 ⟨vl,rfl,hir,hb2⟩;have HBL:=qa hb2;rw[HRI.o]at hir;obtain⟨or,capr,br,offr,rfl,hdr,hrr⟩:=hir.open;rw[lC]at hdr hrr⊢;have HDR:=qa hdr;have HRR:=qa hrr;clear hb2 hir hdr hrr))
  have hw1:Below w.heap.size w w1:=(kK (kO (aA w _) _) x).trans (HB1.o.mono (Y6 w _ _ x));have qki:w.heap.size+2<=w1.heap.size:=qc (iT ((w.alloc (.cells A 41)).alloc (.cells Z 41)) x |> fun h=>by simpa using h) HB1.o.size;have qks:w1.heap.size<w2.heap.size:=by have:=HBL.o.size;simp at this;omega
  have qf4:Hid (Below w1.heap.size w1 w2):=qa ((aA w1 (.map #[] 0)).trans (HBL.o.mono (by simp)));have hw:Below w.heap.size w w2:=hw1.trans (qf4.o.mono (by omega));have HW:=qa hw;clear hw;have HG4:Hid (w2.heap[w.heap.size]? =some (.cells A 41 (0,0))):=qa ((HBL.o.block w.heap.size (by simp;omega)).trans HG3.o);have qjM:Hid (lA w2 (w.heap.size+1) (.slice none 0 0) (.slice none 0 0) (List.replicate 256 0)):=qa (((HB2.o.up (aD _ x)).up HB1.o).up qf4.o)
  have hbm:0<(dW d).length->br≠w1.heap.size:=fun h0 he=>by
   have h1:=HRR.o 0 h0;subst he;rw[Y7 (o:=.map #[] 0) ((HBL.o.block w1.heap.size (by simp)).trans (MapKept.heap_alloc w1 _).1) (fun _ _ _ h=>by cases h)]at h1;cases h1
  obtain⟨ot,ct,bt,ft,rfl,hdt,hrt⟩:=HVA.o.open;have hml:part.length=d.next.length:=HOK.o.1;rw[hml]at hdt hrt⊢;have qfr:=aU (P:=prog) 39 3 underlying39 (by kernel_rfl) hdt;have HDT:=qa hdt;have HRT:=qa hrt;clear hdt hrt hml;have HMP:Hid (eG prog 3 3 (fun n:Int=>Lit.int .i64 n) w2 w1.heap.size []):=qa ((eG.made (P:=prog) (K:=3) (E:=3) w1 (fun n:Int=>Lit.int .i64 n)).up HBL.o);clear HB2 HVA HG3 hmm HG;have hbt:=HDT.o.hblk (by omega);have qcM:=aU (P:=prog) 39 3 underlying39 (by kernel_rfl) HDR.o;generalize hR:dW d=R at*;obtain⟨pf,hpf⟩:∃pf:Nat->Int,∀s,pf s=part.getD s 0:=⟨fun s=>part.getD s 0,fun _=>rfl⟩;have HPR:Hid (∀s,s∈R->∃q:Nat,pf s=q/\q<d.next.length):=qa (fun s hs=>by rw[hpf];exact HOK.o.range (HRB.o s hs));have HPC:Hid (∀a∈R,∀b∈R,pf a=pf b↔fM d a=fM d b):=qa (fun a ha b hb=>by rw[hpf,hpf,E0];exact HOK.o.eq (HRB.o a ha) (HRB.o b hb));have HPF:Hid (∀s,s∈R->w1.cell? ⟨bt,ft+s,none⟩=some (.int .i64 (pf s))):=qa (fun s hs=>by rw[hpf];exact HRT.o s (HRB.o s hs));clear hpf HRT HOK
  go_loopg [6,35] (R.length+1) (fun gk vf i wr=>∃k:Nat,k<=R.length/\i=.int .i64 k/\Own wr w2.heap.size 3 vf (ints (nl (aL pf (R.take k))))/\eG prog 3 3 (fun n:Int=>Lit.int .i64 n) wr w1.heap.size (eW ((R.take k).map pf))/\w2.grownBy wr (some w1.heap.size)/\gk=R.length+1-k)
  case atStart=>exact⟨0,qd _,rfl,Own.nil _ _ _,HMP.o,cW _ _,rfl⟩
  case round=>
   clear HMP;obtain⟨k,hk,rfl,how,hmap,hgr,rfl⟩:=hrel;have hsz:w2.heap.size<=wr.heap.size:=hgr.size;have HGR:=qa hgr;clear hgr;have HF:=qa how;clear how;have HMP:=qa hmap;clear hmap;by_cases hlt:k<R.length
   ·have hsR:R.getD k 0∈R:=dH R k 0 hlt
    have hsn:=HRB.o _ hsR;have hck:=HRR.o k hlt;rw[tL]at hck;have hbr:=HDR.o.hblk (by omega);have HTM:Hid ((R.take (k+1)).map pf=(R.take k).map pf++[pf (R.getD k 0)]):=qa (by rw[dB hlt rfl,qD];rfl);have HPM:=qa (bV pf (R.take k));have HPY:Hid (pf (R.getD k 0)∈eW ((R.take k).map pf)->aL pf (R.take (k+1))=aL pf (R.take k)):=qa (fun h=>by rw[dB hlt rfl,cC,qt];rwa [bV]);have HPN:Hid (pf (R.getD k 0)∉eW ((R.take k).map pf)->aL pf (R.take (k+1))=aL pf (R.take k)++[R.getD k 0]):=qa (fun h=>by rw[dB hlt rfl,cC,qr];rwa [bV]);have HPL:Hid ((aL pf (R.take k)).length<=1000):=qa (by have:=gQ pf (R.take k);simp at this;omega);have HUS:Hid (eW ((R.take (k+1)).map pf)=aW (eW ((R.take k).map pf)) (pf (R.getD k 0))):=qa (by rw[HTM.o,i6]);have hcp:=(HGR.o.block bt (by omega) (fun e=>by injection e with e;omega));have hw1:wr.cell? ⟨br,offr+k,none⟩=some (.int .i64 ((R.getD k 0:Nat):Int)):=(World.cell?_of_block (HGR.o.block br hbr (fun e=>by injection e with e;exact hbm (by omega) e))).trans hck;have hw2:wr.cell? ⟨bt,ft+R.getD k 0,none⟩=some (.int .i64 (pf (R.getD k 0))):=(World.cell?_of_block hcp).trans ((qf4.o.cell (p:=⟨bt,ft+R.getD k 0,none⟩) hbt).trans (HPF.o _ hsR));obtain⟨q,hq,hqn⟩:=HPR.o _ hsR;clear hck hcp;have hs1:br<wr.heap.size:=by omega
    have hs2:bt<wr.heap.size:=by omega
    generalize hF:aL pf (R.take k)=F at*;generalize eW ((R.take k).map pf)=ks at*;generalize hs:R.getD k 0=s at*;obtain⟨ofi,cfi,gfi,hvf,-⟩:=HF.o.cases;subst hvf;rw[aV,lC]at HF⊢;have HKL:Hid (ks.length=F.length):=qa (by rw[<-HPM.o,qy]);obtain⟨D,hD,hM⟩:=HMP.o;rw[HKL.o]at hD;have HM:=qa hM;clear hM;have HDM:=qa hD;clear hD;clear HMP;have HSR:=qa hsR;clear hsR;have HS':=qa hs;clear hs;rw[hq]at HPY HPN HUS hw2;have HKEY:=qa (q3W (q:=q) (by omega));clear HPM;by_cases qbf:(q:Int)∈ks
    ·have qbq:Hid (Maps.has D (.int .i64 (q:Int))=true):=qa (by rw[HM.o.2.2.1 (q:Int)];simpa using qbf)
     have qbl:=qa qbf;clear qbf
     go_wp2_with(at_lookup;refine wpList_lookup_own_ok_int _ rfl _ _ 262 rfl 3 3 .i64 tE underlying262 underlying3 (dU _) w1.heap.size _ D rfl HDM.o _ _ rfl HKEY.o ?_;intro c hat hwc;rw[qbq.o];clear hat hwc)
     go_roundg (R.length+1-(k+1))
     case measure=>omega
     case rel=>
      refine⟨k+1,by omega,by go_num,?_,?_,HGR.o,rfl⟩
      ·rw[HPY.o qbl.o];exact HF.o
      rw[HUS.o,aW,qt qbl.o];exact⟨D,by rw[HKL.o];exact HDM.o,HM.o⟩
    have qbq:Hid (Maps.has D (.int .i64 (q:Int))=false):=qa (by rw[HM.o.2.2.1 (q:Int)];simpa using qbf);have qbl:=qa qbf;clear qbf;have hms:=HM.o.snoc q8A qbl.o;rw[HKL.o]at hms;have HMS:=qa hms;clear hms;have HLN:Hid ((ints (nl F)).length+(ints (nl [s])).length<=4294967296):=qa (by have:=HPL.o;simp;omega)
    go_wp2_with(first|(at_lookup;refine wpList_lookup_own_ok_int _ rfl _ _ 262 rfl 3 3 .i64 tE underlying262 underlying3 (dU _) w1.heap.size _ D rfl HDM.o _ _ rfl HKEY.o ?_;intro c hat hwc;rw[qbq.o];clear hat hwc)|(at_mapUpdate;go_loud (refine wpList_mapUpdate_own _ rfl _ _ _ 262 rfl 3 3 tE underlying262 _ w1.heap.size _ D rfl HDM.o (by have:=HPL.o;unfold maxLen;omega) _ _ _ rfl rfl HKEY.o _ [] (plainElem_int underlying3 (q8b _ (by have:=HPL.o;omega))) ?_;intro w3 hown1 hg1;have HD1:=qa hown1;have HG1:=qa hg1;have hs3:=hg1.size;have HO1:=qa (HF.o.keep hg1 (HF.o.off (by omega)));clear hown1 hg1))|(at_builtin;go_loud (refine bM rfl (.tmp 57) (.tmp 59) 39 rfl w2.heap.size 3 (.int .i64 0) 8 underlying39 (by kernel_rfl) rfl (by decide) (.slice ofi F.length cfi) (ints (nl F)) rfl (HO1.o.up (aA _ _)) (.slice (some ⟨w3.heap.size,0,none⟩) 1 1) (ints (nl [s])) rfl (by simpa[ints,nl]using dY w3 #[.int .i64 (s:Int)] 3 (by simp)) (iD _) HLN.o (qc hsz (qc hs3 (by simp))) ?_;intro v' w4 hown2 hg2 hk2;have HO2:=qa hown2;have qhY:=qa (aC (aE (aA w3 (.cells #[.int .i64 (s:Int)] 3)) _) hg2);have HD2:=qa (HD1.o.kept qhY.o (HO1.o.ne_of (by omega)));clear hown2 hg2 hk2)))
    go_roundg (R.length+1-(k+1))
    case measure=>omega
    case rel=>
     refine⟨k+1,by omega,by go_num,?_,?_,?_,rfl⟩
     ·rw[HPN.o qbl.o,rV,iN]
      exact HO2.o
     ·rw[HUS.o,aW,qr qbl.o]
      exact⟨_,by rw[qi,qB,HKL.o];exact HD2.o,HMS.o⟩
     exact D0 (aC HGR.o HG1.o) qhY.o (fun j hj=>(HO1.o.lt j hj).1)
   have hkR:k=R.length:=by omega
   subst hkR;rw[qX]at HF HMP;obtain⟨w3,rfl⟩:∃w3:World,w3=wr:=⟨_,rfl⟩;have hpp:=i8 HPC.o;have hpk:aL pf R=heads d:=hpp.1.trans (by rw[<-hR];rfl)
   have HNV:Hid (∀s∈dW d,idx (eW (R.map pf)) (pf s)=num d s):=qa (fun s hs=>by
    rw[hR]at hs;rw[<-bV];have h2:=hpp.2 s hs;rw[<-hR]at h2⊢;exact h2)
   have HRM:Hid (∀s∈dW d,s∈R):=qa (fun s hs=>by rw[hR]at hs;exact hs);have HMK:Hid (∀s∈R,pf s∈eW (R.map pf)):=qa (fun s hs=>(dP _ _).2 (jb hs));rw[hpk]at HF;have hfl:(heads d).length<=d.next.length:=wS HV.o;have HFR:Hid (∀q,q<(heads d).length->(heads d).getD q 0∈dW d):=qa (fun q hq=>M3 (dH _ q 0 hq));have HRD:Hid (∀q,q<(heads d).length->(dL d).getD q []=nl ((aS d ((heads d).getD q 0)).map (num d))):=qa (fun q hq=>tR d hq);have HRL:Hid ((dL d).length=(heads d).length):=qa (iU d);have qls:Hid (hU d=⟨q1X (dL d) d.cls,wR (dL d) (E1 (dL d) d.cls),(heads d).map (fW d)⟩):=qa rfl;clear hpp hpk;generalize eW (R.map pf)=ks at*;generalize hF:heads d=F at*;obtain⟨of,cf,gf,rfl,hdf,-,hcf,-⟩:=HF.o.cases;rw[aV,lC]at hdf hcf⊢;have HCF:=qa hcf;clear hcf;have HDF:=qa hdf;clear hdf;clear HF HDR HRR hbm qcM
   go_wp2_with(first|(refine iX rfl _ _ rfl w3.heap.size rfl Z rfl (HZ.o▸iE) qL rfl rfl (HZ.o▸nB _) ?_;intro w4 hb4 hg4;have HB4:=qa hb4;have HG5:=qa hg4;clear hb4 hg4))
   have qdb:=qa (qjM.o.keep HGR.o (fun e=>by injection e with e;omega));have qhe:Below w3.heap.size w3 w4:=(aA w3 (.cells Z 41)).grown HG5.o (by simp) (fun j hj=>by cases hj;exact qb _);have hw3:Below w.heap.size w w3:=HW.o.grown HGR.o (by omega) (fun j hj=>by cases hj;omega)
   have HX:Hid (∀W,Below w3.heap.size w3 W->W.cell? ⟨w.heap.size,256,none⟩=some (.slice oa d.next.length cap)/\W.cell? ⟨w.heap.size,257,none⟩=some (.slice oq d.rules.length capq)/\(∀q,q<F.length->W.cell? ⟨gf,q,none⟩=some (.int .i64 ((F.getD q 0:Nat):Int)))/\(∀s,s∈R->W.cell? ⟨bt,ft+s,none⟩=some (.int .i64 (pf s)))/\
     (∀f,f<d.next.length->∃oi ci bi fi,W.cell? ⟨b,off+f,none⟩=some (.slice oi (d.next.getD f []).length ci)/\Hd w oi (d.next.getD f []).length ci bi fi/\∀j,j<(d.next.getD f []).length->W.cell? ⟨bi,fi+j,none⟩=some (.int .i64 ((d.next.getD f []).getD j 0)))/\
     (∀i,i<d.rules.length->W.cell? ⟨bq,offq+i,none⟩=some (.int .i64 (d.rules.getD i 0)))):=qa (by
    intro W hW
    have h23:∀q i,q<w2.heap.size->q≠w1.heap.size->W.cell? ⟨q,i,none⟩=w2.cell? ⟨q,i,none⟩:=fun q i h1 h2=>by
     rw[hW.cell (p:=⟨q,i,none⟩) (show q<w3.heap.size by omega)];exact World.cell?_of_block (HGR.o.block q h1 (fun e=>by injection e with e;omega))
    have hA:∀i,W.cell? ⟨w.heap.size,i,none⟩=A[i]? :=fun i=>by
     rw[h23 _ _ (by omega) (by omega)];exact cell_of_row w2 w.heap.size i A 41 (0,0) HG4.o
    have hwW:∀q i,q<w.heap.size->W.cell? ⟨q,i,none⟩=w.cell? ⟨q,i,none⟩:=fun q i hq=>by
     rw[hW.cell (p:=⟨q,i,none⟩) (show q<w3.heap.size by omega),hw3.cell (p:=⟨q,i,none⟩) hq]
    refine⟨(hA 256).trans HN.o,(hA 257).trans HR.o,fun q hq=>?_,fun s hs=>?_,fun f hf=>?_,fun i hi=>?_⟩
    ·rw[hW.cell (p:=⟨gf,q,none⟩) (HDF.o.hblk (by omega)),HCF.o q hq,eS _ _ (by rw[lC];exact hq),tL]
    ·rw[h23 _ _ (by omega) (by omega),qf4.o.cell (p:=⟨bt,ft+s,none⟩) hbt];exact HPF.o s hs
    ·obtain⟨oi,ci,bi,fi,h1,h2,h3,-⟩:=HRO.o f hf
     exact⟨oi,ci,bi,fi,by rw[hwW _ _ (HD.o.hblk (by omega))];exact h1,h2,fun j hj=>by rw[hwW _ _ (h2.hblk (by omega))];exact h3 j hj⟩
    rw[hwW _ _ (HDQ.o.hblk (by omega))];exact HRQ.o i hi)
   have HXM:Hid (∀W,Below w3.heap.size w3 W->eG prog 3 3 (fun n:Int=>Lit.int .i64 n) W w1.heap.size ks):=qa (fun W hW=>HMP.o.up hW)
   have HXA:Hid (∀W,Below w3.heap.size w3 W->W.heap[w.heap.size]? =some (.cells A 41 (0,0))):=qa (fun W hW=>by
    rw[hW.block _ (by omega),HGR.o.block _ (by omega) (fun e=>by injection e with e;omega)];exact HG4.o)
   have qig:=qa qhe;have HW3:=qa hw3;have hix:=aU (P:=prog) 38 39 underlying38 (by kernel_rfl) HD.o;have qft:=aU (P:=prog) 39 3 underlying39 (by kernel_rfl) HDQ.o;have qkN:=aU (P:=prog) 39 3 underlying39 (by kernel_rfl) HDF.o;have hbb:=HD.o.hblk (by omega);have hbq:=HDQ.o.hblk (by have:=HV.o.2.2.1;omega);have HFB:=qa HDF.o.hblk;have HQL:=qa HV.o.2.2.1;clear qhe hw3 HCF HG4 HG5 HRO HRQ HMP
   go_loopg [12,65] (F.length+1) (fun gk vo i wr=>∃(k:Nat) (vs:List Value) (rv:Value),k<=F.length/\i=.int .i64 k/\dV wr (w3.heap.size+1) 39 3 vo vs (((dL d).take k).map ints)/\lA wr w3.heap.size (.slice none 0 0) rv (List.replicate 256 0)/\Own wr (w3.heap.size+1) 3 rv (ints ((F.take k).map (fW d)))/\dV.free vo vs rv.ownBlock/\Below w3.heap.size w3 wr/\gk=F.length+1-k)
   case atStart=>exact⟨0,[],_,qd _,rfl,dV.nil _ _ _ _,HB4.o,Own.nil _ _ _,dV.free_none,qig.o,rfl⟩
   case round=>
    clear HB4 qig;obtain⟨k,vs,rv,hk,rfl,hom,qe4,hrv,qbD,qbe,rfl⟩:=hrel;have hsz:=qbe.size;have HB:=qa qbe;clear qbe;have HO:=qa hom;clear hom;have HBX:=qa qe4;clear qe4;have HRV:=qa hrv;clear hrv;have qi0:=qa qbD;clear qbD;by_cases hlt:k<F.length
    ·have hfR:=HFR.o k hlt
     have hfn:F.getD k 0<d.next.length:=(gM HV.o).2.1 _ hfR;have HR1:=qa (HRD.o k hlt);have hgf:=HFB.o (by omega);have HTF:Hid ((F.take (k+1)).map (fW d)=(F.take k).map (fW d)++[fW d (F.getD k 0)]):=qa (by rw[dB hlt rfl,qD];rfl);have HRW:Hid (∀t∈aS d (F.getD k 0),t∈R/\idx ks (pf t)=num d t):=qa (fun t ht=>⟨HRM.o t (tQ HV.o hfR ht),HNV.o t (tQ HV.o hfR ht)⟩);have HLR:Hid ((aS d (F.getD k 0)).length=(d.next.getD (F.getD k 0) []).length):=qa (n4 d _)
     have HIR:Hid (∀j,j<(d.next.getD (F.getD k 0) []).length->(d.next.getD (F.getD k 0) []).getD j 0=(((aS d (F.getD k 0)).getD j 0:Nat):Int)):=qa (fun j hj=>by
      rw[y6 _ _ _ hj];have:=R6 HV.o hfn _ (dH (d.next.getD (F.getD k 0) []) j 0 hj);omega)
     have hll:=yM HV.o HLC.o hfn;have HXF:=qa (fun W hW=>(HX.o W hW).2.2.2.2.1 (F.getD k 0) hfn);have qhi:=(HX.o wr HB.o).2.2.1 k hlt;have qjy:=(HX.o wr HB.o).1;obtain⟨oi,ci,bi,fi,hck,hdk,hcj⟩:=HXF.o wr HB.o;have hs1:w.heap.size<wr.heap.size:=by omega
     have hs2:gf<wr.heap.size:=by omega
     have hs3:b<wr.heap.size:=by omega
     generalize F.getD k 0=f at*;generalize d.next.getD f []=row at*
     have HFW:Hid (∀W,Below w3.heap.size w3 W->W.cell? ⟨gf,k,none⟩=some (.int .i64 (f:Int))):=qa (by
      intro W hW;rw[hW.cell (p:=⟨gf,k,none⟩) hgf,<-HB.o.cell (p:=⟨gf,k,none⟩) hgf];exact qhi)
     have HCJ:=qa hcj;clear hcj;have HDK:=qa hdk;clear hdk;have qbJ:=aU (P:=prog) 39 3 underlying39 (by kernel_rfl) HDK.o;go_wp2;obtain⟨wo,rfl⟩:∃wo:World,wo=wr:=⟨_,rfl⟩
     go_loopg [15,75] (row.length+1) (fun gk vl i wr=>∃c:Nat,c<=row.length/\i=.int .i64 c/\Own wr wo.heap.size 3 vl (ints (nl (((aS d f).take c).map (num d))))/\Below wo.heap.size wo wr/\gk=row.length+1-c)
     case atStart=>exact⟨0,qd _,rfl,Own.nil _ _ _,qk _ _,rfl⟩
     case round=>
      obtain⟨c,hc,rfl,how,qbe,rfl⟩:=hrel;have qbw:=qbe.size;have hb3:Below w3.heap.size w3 wr:=HB.o.trans (qbe.mono hsz);have HBB:=qa qbe;clear qbe;have HOO:=qa how;clear how;by_cases qbo:c<row.length
      ·have hbi:=HDK.o.hblk (by omega)
       have hs5:bi<wr.heap.size:=by omega
       have hcc:=(HBB.o.cell (p:=⟨bi,fi+c,none⟩) (show bi<wo.heap.size by omega)).trans (HCJ.o c qbo);have hlr:c<(aS d f).length:=by rw[HLR.o];exact qbo
       obtain⟨htn,hnt⟩:=HRW.o _ (dH (aS d f) c 0 hlr);have HT:Hid ((aS d f).take (c+1)=(aS d f).take c++[(aS d f).getD c 0]):=qa (aY _ _ _ hlr);rw[HIR.o c qbo]at hcc;have hcn:=(HX.o wr hb3).2.2.2.1 _ htn;have hkm:=HMK.o _ htn;obtain⟨q,hq,hqn⟩:=HPR.o _ htn;have htl:=HRB.o _ htn;generalize (aS d f).getD c 0=t at*;rw[hq]at hcn hkm hnt;have HKEY:=qa (q3W (q:=q) (by omega));obtain⟨D,hD,hM⟩:=HXM.o wr hb3;have HDM:=qa hD;clear hD;have HM:=qa hM;clear hM;have HKM:=qa hkm;clear hkm;have hs4:bt<wr.heap.size:=by omega
       have HNT:=qa hnt;clear hnt hq;generalize hy:num d t=y at*;have HY:=qa hy;clear hy;have HLN:Hid ((ints (nl (((aS d f).take c).map (num d)))).length+(ints (nl [y])).length<=4294967296):=qa (by simp;omega)
       go_wp2_with(first|(at_lookup;go_loud (refine wpList_lookup_own_int _ rfl _ _ 262 rfl 3 3 .i64 tE underlying262 underlying3 (dU _) w1.heap.size _ D rfl HDM.o _ _ rfl HKEY.o ?_;intro c0 hat hwc;have hce:=(HM.o.at_eq HKM.o hat).trans (qW Int.ofNat HNT.o);subst hce;clear hat hwc))|(at_builtin;go_loud (refine bM rfl (.tmp 79) (.tmp 86) 39 rfl wo.heap.size 3 (.int .i64 0) 8 underlying39 (by kernel_rfl) rfl (by decide) u15 (ints (nl (((aS d f).take c).map (num d)))) rfl (HOO.o.up (aA _ _)) (.slice (some ⟨wr.heap.size,0,none⟩) 1 1) (ints (nl [y])) rfl (by simpa[ints,nl]using dY wr #[.int .i64 (y:Int)] 3 (by simp)) (iD _) HLN.o (qc qbw (by simp)) ?_;intro v' w5 hown1 hg1 hk1;have HO1:=qa hown1;have HG1:=qa hg1;clear hown1 hg1 hk1)))
       go_roundg (row.length+1-(c+1))
       case measure=>omega
       case rel=>
        refine⟨c+1,by omega,by go_num,?_,dR (B:=wo.heap.size) (HBB.o.alloc qbw _) (by simp;omega) (HOO.o.up aJ) HG1.o,rfl⟩;rw[HT.o,qD,qF,jq,HY.o,rV,iN];exact HO1.o
      have hcr:c=row.length:=by omega
      subst hcr;have htk:(aS d f).take row.length=aS d f:=qC (by rw[HLR.o];exact qb _);rw[htk]at HOO;obtain⟨ou,cu,gu,rfl,-⟩:=HOO.o.cases;have hul:(ints (nl ((aS d f).map (num d)))).length=row.length:=by simp[HLR.o]
      rw[hul]at HOO⊢;clear hul htk;have HSP:=qa (HO.o.up HBB.o);have qfW:=qa (HRV.o.up HBB.o);have HBQ:=qa (HBX.o.up HBB.o);have hsB:w3.heap.size+1<=wr.heap.size:=by have:=HBQ.o.lt;omega
      have hvl:vs.length=k:=by have h:=HSP.o.len;simp[HRL.o]at h;omega
      clear hck qjy qhi hs1 hs2 hs3
      go_wp2_with(at_builtin;go_loud (refine bM rfl (.tmp 89) (.tmp 91) 38 rfl (w3.heap.size+1) 39 (.slice none 0 0) 24 underlying38 (by kernel_rfl) rfl (by decide) u12 vs rfl (HSP.o.outer.up (aA _ _)) (.slice (some ⟨wr.heap.size,0,none⟩) 1 1) [.slice ou row.length cu] rfl (dY wr #[_] 39 (by simp)) (by simp;exact fQ HOO.o) (by simp;omega) (qc hsB (by simp)) ?_;intro v' w5 hown1 hg1 hk1;have HO1:=qa hown1;have HG1:=qa hg1;have HK1:=qa hk1;clear hown1 hg1 hk1))
      have qgN:=HSP.o.push (r:=.slice ou row.length cu) (HOO.o.mono (show w3.heap.size+1<=wo.heap.size by have:=HBX.o.lt;omega)) (by
       cases hu:(Value.slice ou row.length cu).ownBlock with
       |none=>exact dV.free_none
       |some q=>exact⟨fun j hj e=>by have:=(HOO.o.lt q hu).1;have:=HO.o.outer.lt j hj;injection e with e;omega,fun a ha j hj e=>by have:=(HOO.o.lt q hu).1;have:=(HO.o.rows a (by rw[<-HO.o.len];exact ha)).lt j hj;injection e with e;omega⟩) (aE (aA _ _) none) HO1.o HG1.o HK1.o
      have qhH:=qa qgN;clear qgN;have hg0:wr.grownBy w5 u12.ownBlock:=aC (aE (aA _ _) _) HG1.o;have qfU:=qa (qfW.o.keep hg0 (bR fun j hj e=>qi0.o.1 j e hj));have qbI:=qa (HBQ.o.keep hg0 (fun e=>by have:=HSP.o.outer.lt _ e;omega));have hb5:Below w3.heap.size w3 w5:=dR (B:=w3.heap.size) hb3 (by omega) (HSP.o.outer.mono (ja _)) hg0;have HB5:=qa hb5
      have qhZ:=qa (dV.free_push (r:=.slice ou row.length cu) (v':=v') qi0.o qfW.o (fun j hj e=>by have:=(HOO.o.lt j hj).1;have:=HRV.o.lt j e;omega) (fun j hj=>by
       rcases HK1.o j hj with h|h
       ·exact .inl h
       right;simp at h;omega))
      obtain⟨-,hA2,-,-,-,hA6⟩:=HX.o w5 hb5;have hfk:=HFW.o w5 hb5;have hfr:f<d.rules.length:=by rw[HQL.o];exact hfn
      have hrq:=hA6 f hfr;have hcb:=qbI.o.cellR;have hzz:w3.heap.size<w5.heap.size:=qbI.o.lt;have hs1:w.heap.size<w5.heap.size:=by omega
      have hs2:gf<w5.heap.size:=by omega
      have hs3:bq<w5.heap.size:=by omega
      have HRF:Hid (d.rules.getD f 0=fW d f):=qa rfl;have HZL:Hid ((ints ((F.take k).map (fW d))).length<=1000):=qa (by simp;omega);clear hA6 hb5 hg0 HSP qfW HBQ;generalize d.rules.getD f 0=y at*;refine aT [0,1,2,3,4,5,6] [7] [8,9,10] (by kernel_rfl) (by kernel_rfl) ?_;simp only[pk]
      repeat(go_big_quiet_step (fail))
      refine wpQuiet_nil ?_
      (unfold aG;go_wp2;refine⟨(aI aJ),?_⟩)
      unfold aG;unfold aG
      have hx:Sl ((w5.alloc (.cells #[.int .i64 y] 3)).drew) (.slice (some ⟨w5.heap.size,0,none⟩) 1 1) (ints [y]):=by
       have h1:=(dY w5 #[.int .i64 y] 3 (by simp)).up (aN _ 1);rw[<-World.drew_is_drewN]at h1;simpa[ints]using h1
      go_wp2_with(at_builtin;go_loud (refine bM rfl (.tmp 94) (.tmp 100) 39 rfl (w3.heap.size+1) 3 (.int .i64 0) 8 underlying39 (by kernel_rfl) rfl (by decide) rv (ints ((F.take k).map (fW d))) rfl (qfU.o.up aJ) (.slice (some ⟨w5.heap.size,0,none⟩) 1 1) (ints [y]) rfl hx (iD _) (by have:=HZL.o;simp at this⊢;omega) (qc (Nat.succ_le_of_lt hzz) (by simp)) ?_;intro v6 w6 hown1 hg1 hk1;obtain⟨oz,nz,cz,rfl⟩:=S0 hown1;have HO6:=qa hown1;have HG6:=qa hg1;have HK6:=qa hk1;clear hown1 hg1 hk1))
      refine⟨trivial,?_⟩;unfold aG;go_wp2;refine⟨trivial,?_⟩;unfold aG;have hg5:w5.grownBy w6 rv.ownBlock:=aC (aE aJ _) HG6.o;have qdr:=qa (qbI.o.keep hg5 (fun e=>by have:=qfU.o.lt _ e;omega));have qli:=qdr.o.cellR;have ql1:=qdr.o.free 257;go_wp2;refine⟨trivial,?_⟩;unfold aG;go_wp2
      go_roundg (F.length+1-(k+1))
      case measure=>omega
      case rel=>
       have qgM:=qhH.o.keep' hg5 qhZ.o;obtain⟨hbs,hgs⟩:=qdr.o.setR (.slice oz nz cz);have hb6:Below w3.heap.size w3 w6:=dR (B:=w3.heap.size) HB5.o (by omega) (qfU.o.mono (ja _)) hg5
       have hk6:∀j,(Value.slice oz nz cz).ownBlock=some j->rv.ownBlock=some j\/w5.heap.size<=j:=fun j hj=>by
        rcases HK6.o j hj with h|h
        ·exact .inl h
        right;simp at h;omega
       refine⟨k+1,vs++[.slice ou row.length cu],.slice oz nz cz,by omega,by go_num,?_,hbs,?_,qhH.o.free_step qhZ.o hk6,hb6.setCell (qb _) _,rfl⟩
       ·rw[dB (z:=[]) (by rw[HRL.o];exact hlt) HR1.o,qD]
        exact qgM.keep' hgs (qgM.free_below (qR _))
       rw[HTF.o,iN,<-HRF.o];exact HO6.o.keep hgs (HO6.o.ne_lt (qR _))
    have hkF:k=F.length:=by omega
    subst hkF;have htr:(dL d).take F.length=dL d:=qC (by rw[HRL.o];exact qb _);rw[htr]at HO;rw[qX]at HRV;obtain⟨w7,rfl⟩:∃w7:World,w7=wr:=⟨_,rfl⟩;clear htr;have HRA:Hid (∀W,w7.grownBy W (some w3.heap.size)->mG W u12 (dL d)):=qa (fun W hW=>(HO.o.keep' hW (HO.o.free_below (qR _))).rowsG.ints);obtain⟨o9,cap9,b9,f9,qio,-,-⟩:=(HRA.o w7 (cW _ _)).open;subst qio;have qgG:(dL d).length=F.length:=HRL.o;rw[qgG]at HRA⊢;clear qgG HO
    have HRK:Hid (∀c,c<256->0<=d.cls.getD c 0/\∀j,j<(dL d).length->d.cls.getD c 0<((dL d).getD j []).length):=qa (fun c hc=>by
     obtain⟨k0,hk0,-⟩:=q0W HV.o HLC.o (i:=0) (by omega) hc;refine⟨by omega,fun j hj=>?_⟩;have hj':j<F.length:=by rw[<-HRL.o];exact hj
     have hfn:=(gM HV.o).2.1 _ (HFR.o j hj');obtain⟨k1,hk1,hk2⟩:=q0W HV.o HLC.o hfn hc;rw[HRD.o j hj',lC,qy,n4];omega)
    have HXS:Hid (∀j,j<(dL d).length->∀i,0<=((dL d).getD j []).getD i 0/\((dL d).getD j []).getD i 0<65536):=qa (fun j hj i=>Y8 HV.o hj i);have hwb:Below w.heap.size w w7:=HW3.o.trans (HB.o.mono HW3.o.size);have qe2:=HCO.o w7 hwb (.slice o9 F.length cap9) (dL d) (HRA.o w7 (cW _ _)) HRK.o HXS.o (by rw[HRL.o];omega);have qgj:=qa qe2;clear qe2 hwb;have hGA:=HXA.o w7 HB.o;have HGA:=qa hGA;clear hGA;have hz2:=tB;obtain⟨Z2,hZ2⟩:∃Z2,Z2=kA:=⟨_,rfl⟩;rw[<-hZ2]at hz2;have HNC:∀W:World,Hid (tJ (W.alloc (.cells Z2 37)) W.heap.size (List.replicate 256 0)):=fun W=>qa (by rw[hZ2];exact J9 W);clear hZ2;have qf1:Hid ((q1X (dL d) d.cls).length=256):=qa (by simp[q1X,HLC.o]);have qdz:w3.heap.size<w7.heap.size:=HBX.o.lt;have qkj:w.heap.size+1<w3.heap.size:=qdb.o.lt
    go_wp2_with(first|(refine dQ rfl _ rfl w.heap.size rfl A HS.o HGA.o ?_)|(go_at_call 215;refine qgj.o.mono ?_;rintro e w8 ⟨vl,B,rfl,hol,hBl,hb8⟩;obtain⟨ol9,cl9,gl9,rfl,-⟩:=hol.cases;rw[aV]at hol⊢;have HOL:=qa hol;have qkc:=qa hBl;have HB8:=qa hb8;have qkr:=hb8.size;clear hol hBl hb8)|(refine q3X rfl _ _ rfl w8.heap.size rfl B rfl qkc.o qf1.o (HNC w8).out ?_;intro w85 qfG qfz;have qlt:=qa qfG;obtain⟨C9,hC9,qhk,qhl⟩:=qfG.open;have HC9:=qa hC9;have qk7:=qa qhk;have qk8:=qa qhl;have qhW:=qa qfz;have qgk:=qa (((HBX.o.up HB8.o).up (aA w8 (.cells Z2 37))).keep qfz (fun e=>by injection e with e;omega));clear qfG qfz hC9 qhk qhl)|(refine q5C rfl _ rfl w8.heap.size rfl C9 qk7.o HC9.o ?_)|(refine q3Y rfl _ _ rfl w3.heap.size rfl C9 rfl qk8.o qf1.o qgk.o ?_;intro w9 hb9 hg9;have qdg:=qa hb9;have HG9:=qa hg9;clear hb9 hg9))
    have qh3:w7.grownBy w9 (some w3.heap.size):=by
     have h1:Below w7.heap.size w7 w85:=((HB8.o.alloc (by omega) _)).grown qhW.o (by simp;omega) (fun j hj=>by cases hj;omega);exact aC (aE h1 _) HG9.o
    have HGC:=qa qh3;clear qh3;have qfT:=qa (HRV.o.keep HGC.o (HRV.o.ne_lt (qR _)));have HRS:Hid (∀W,w9.grownBy W (some w3.heap.size)->mG W (.slice o9 F.length cap9) (dL d)):=qa (fun W hW=>HRA.o W (aC HGC.o hW))
    have HLS:Hid (∀W,w9.grownBy W (some w3.heap.size)->eE W (.slice ol9 (E1 (dL d) d.cls).length cl9) (E1 (dL d) d.cls)):=qa (fun W hW=>by
     have h1:=(HOL.o.up (aA w8 (.cells Z2 37))).keep qhW.o (.inr (fun e=>by have:=(HOL.o.lt _ e).2;omega));exact((h1.keep HG9.o (h1.off qdz)).keep hW (h1.off qdz)).sl)
    have qfZ:Hid ((wR (dL d) (E1 (dL d) d.cls)).length=F.length):=qa (by simp[wR,HRL.o]);generalize hlf:E1 (dL d) d.cls=lf at*;go_wp2
    go_loopg [114] (F.length+1) (fun gk i wr=>∃(k:Nat) (vs:List Value) (nv:Value),k<=F.length/\i=.int .i64 k/\lA wr w3.heap.size nv rv (q1X (dL d) d.cls)/\dV wr w9.heap.size 39 3 nv vs (((wR (dL d) lf).take k).map ints)/\w9.grownBy wr (some w3.heap.size)/\gk=F.length+1-k)
    case atStart=>exact⟨0,[],_,qd _,rfl,qdg.o,dV.nil _ _ _ _,cW _ _,rfl⟩
    case round=>
     obtain⟨k,vs,nv,hk,rfl,qe4,hom,hgr,rfl⟩:=hrel;have HBN:=qa qe4;clear qe4;have HON:=qa hom;clear hom;have HGN:=qa hgr;clear hgr;obtain⟨oz,cz,bz,fz,hez,hdz,hrz⟩:=(HRS.o wr HGN.o).open;obtain⟨oy,cy,by_,fy,hey,hdy,hry⟩:=(HLS.o wr HGN.o).open;have hzl:(dL d).length=F.length:=HRL.o;rw[hzl]at hez hdz hrz;cases hez;cases hey;by_cases hlt:k<F.length
     ·obtain⟨oi,ci,bi,fi,hck,hdk,hcj,-⟩:=hrz k hlt
      have HLV:Hid (∀j,j<lf.length->0<=lf.getD j 0/\lf.getD j 0<((dL d).getD k []).length):=qa (fun j hj=>by
       have hm:lf.getD j 0∈d.cls:=eL (f:=K9 (dL d)) (by rw[show aL (K9 (dL d)) d.cls=lf from hlf];exact dH lf j 0 hj);obtain⟨a,ha,hae⟩:=List.mem_iff_getElem.1 hm;have h1:=HRK.o a (by rw[<-HLC.o];exact ha);have e:d.cls.getD a 0=lf.getD j 0:=by rw[<-hae];simp[List.getD,ha]
       rw[e]at h1;exact⟨h1.1,h1.2 k (by rw[HRL.o];exact hlt)⟩)
      have HNR:Hid ((wR (dL d) lf).getD k []=lf.map fun kap=>((dL d).getD k []).getD kap.toNat 0):=qa (by
       have:k<(dL d).length:=by rw[HRL.o];exact hlt
       simp[wR,List.getD,this])
      generalize (dL d).getD k []=row at*;have qcV:w9.heap.size<=wr.heap.size:=HGN.o.size
      have qkH:lf.length<=256:=by
       have:=gQ (K9 (dL d)) d.cls;rw[show aL (K9 (dL d)) d.cls=lf from hlf,HLC.o]at this;exact this
      have HCK:=qa hck;have HCJ:=qa hcj;have HRY:=qa hry;have HDY:=qa hdy;have HDZ:=qa hdz;have HDK:=qa hdk;have hbz:=hdz.hblk (by omega);have qkQ:=aU (P:=prog) 38 39 underlying38 (by kernel_rfl) hdz;have qiN:=aU (P:=prog) 39 3 underlying39 (by kernel_rfl) hdy;have qbJ:=aU (P:=prog) 39 3 underlying39 (by kernel_rfl) hdk;clear hck hcj hry hdy hdz hdk hrz;obtain⟨cn,hcn⟩:∃l:List Int,l=lf.map fun kap=>row.getD kap.toNat 0:=⟨_,rfl⟩;have qh7:cn.length=lf.length:=by rw[hcn];simp
      have HCN:Hid (∀j,j<lf.length->cn.getD j 0=row.getD (lf.getD j 0).toNat 0):=qa (fun j hj=>by rw[hcn];simp[List.getD,hj]);rw[<-hcn]at HNR;have qgh:=qa qh7;clear hcn qh7;have hck:=HCK.o;go_wp2;clear hck;obtain⟨wo,rfl⟩:∃wo:World,wo=wr:=⟨_,rfl⟩
      go_loopg [22,120] (lf.length+1) (fun gk vl i wr=>∃c:Nat,c<=lf.length/\i=.int .i64 c/\Own wr wo.heap.size 3 vl (ints (cn.take c))/\Below wo.heap.size wo wr/\gk=lf.length+1-c)
      case atStart=>exact⟨0,qd _,rfl,Own.nil _ _ _,qk _ _,rfl⟩
      case round=>
       obtain⟨c,hc,rfl,how,qbe,rfl⟩:=hrel;have qbw:=qbe.size;have HBB:=qa qbe;clear qbe;have HOO:=qa how;clear how;by_cases qbo:c<lf.length
       ·have hv9:=HLV.o c qbo
        have hw1:=(HBB.o.cell (p:=⟨bz,fz+k,none⟩) hbz).trans HCK.o;have hby:=HDY.o.hblk (by omega);have hw2:=(HBB.o.cell (p:=⟨by_,fy+c,none⟩) hby).trans (HRY.o c qbo);have hbi:=HDK.o.hblk (by omega);have hw3:=(HBB.o.cell (p:=⟨bi,fi+(lf.getD c 0).toNat,none⟩) hbi).trans (HCJ.o (lf.getD c 0).toNat (by omega));rw[<-HCN.o c qbo]at hw3;have HT:Hid (cn.take (c+1)=cn.take c++[cn.getD c 0]):=qa (aY _ _ _ (by rw[qgh.o];exact qbo));have hs1:bz<wr.heap.size:=by omega
        have hs2:by_<wr.heap.size:=by omega
        have hs3:bi<wr.heap.size:=by omega
        generalize lf.getD c 0=kap at*;generalize cn.getD c 0=y at*;have HLN:Hid ((ints (cn.take c)).length+(ints [y]).length<=4294967296):=qa (by simp;omega)
        go_wp2_with(at_builtin;go_loud (refine bM rfl (.tmp 124) (.tmp 129) 39 rfl wo.heap.size 3 (.int .i64 0) 8 underlying39 (by kernel_rfl) rfl (by decide) u22 (ints (cn.take c)) rfl (HOO.o.up (aA _ _)) (.slice (some ⟨wr.heap.size,0,none⟩) 1 1) (ints [y]) rfl (by simpa[ints]using dY wr #[.int .i64 y] 3 (by simp)) (iD _) HLN.o (qc qbw (by simp)) ?_;intro v' w10 hown1 hg1 hk1;have HO1:=qa hown1;have HG1:=qa hg1;clear hown1 hg1 hk1))
        go_roundg (lf.length+1-(c+1))
        case measure=>omega
        case rel=>
         refine⟨c+1,by omega,by go_num,?_,dR (B:=wo.heap.size) (HBB.o.alloc qbw _) (by simp;omega) (HOO.o.up aJ) HG1.o,rfl⟩;rw[HT.o,iN];exact HO1.o
       have qj6:c=lf.length:=by omega
       subst qj6;have hct:cn.take lf.length=cn:=qC (by rw[qgh.o];exact qb _);rw[hct]at HOO;clear hct;obtain⟨ou,cu,gu,rfl,-⟩:=HOO.o.cases;have hul:(ints cn).length=lf.length:=by rw[aV,qgh.o]
       rw[hul]at HOO⊢;clear hul;have qgn:=qa (HBN.o.up HBB.o);have qen:=qa (HON.o.up HBB.o);have hcb:=qgn.o.cellN;have hbl:=qgn.o.lt;have hvl:vs.length=k:=by have h:=qen.o.len;simp[qfZ.o]at h;omega
       have qit:w9.heap.size<=wr.heap.size:=qc qcV qbw
       go_wp2_with(at_builtin;go_loud (refine bM rfl (.tmp 133) (.tmp 135) 38 rfl w9.heap.size 39 (.slice none 0 0) 24 underlying38 (by kernel_rfl) rfl (by decide) nv vs rfl (qen.o.outer.up (aA _ _)) (.slice (some ⟨wr.heap.size,0,none⟩) 1 1) [.slice ou lf.length cu] rfl (dY wr #[_] 39 (by simp)) (by simp;exact fQ HOO.o) (by simp;omega) (qc qit (by simp)) ?_;intro v' w11 hown1 hg1 hk1;obtain⟨oq1,nq1,cq1,rfl⟩:=S0 hown1;have HO1:=qa hown1;have qfA:=aC (aE (aA wr (.cells #[.slice ou lf.length cu] 39)) _) hg1;have HG1:=qa hg1;have qdc:=qa qfA;have HK1:=qa hk1;have qc2:=qa (qgn.o.keep qfA (fun e=>by have:=qen.o.outer.lt _ e;have:=qdg.o.lt;omega));have qlj:=qc2.o.cellN;have ql2:=qc2.o.free 256;clear hown1 hg1 hk1 qfA))
       go_roundg (F.length+1-(k+1))
       case measure=>omega
       case rel=>
        obtain⟨hbs,hgs⟩:=qc2.o.setN (.slice oq1 nq1 cq1)
        have hp:=qen.o.push (r:=.slice ou lf.length cu) (HOO.o.mono qcV) (by
         cases hu:(Value.slice ou lf.length cu).ownBlock with
         |none=>exact dV.free_none
         |some q=>exact HON.o.free_new (HOO.o.lt q hu).1) (aE (aA _ _) none) HO1.o HG1.o HK1.o
        refine⟨k+1,vs++[.slice ou lf.length cu],.slice oq1 nq1 cq1,by omega,by go_num,hbs,?_,aC (D0 (aC HGN.o (aE HBB.o _)) qdc.o (fun j hj=>(qen.o.outer.lt j hj).1)) hgs,rfl⟩;rw[dB (z:=[]) (by rw[qfZ.o];exact hlt) HNR.o,qD];exact hp.keep' hgs (hp.free_below qdg.o.lt)
     have qiK:k=F.length:=by omega
     subst qiK;have htn:(wR (dL d) lf).take F.length=wR (dL d) lf:=qC (by rw[qfZ.o];exact qb _);rw[htn]at HON;clear htn;have hg7:w7.grownBy wr (some w3.heap.size):=aC HGC.o HGN.o;have hr3:=qdb.o.lt;have qfV:Hid (lA wr (w.heap.size+1) (.slice none 0 0) (.slice none 0 0) (List.replicate 256 0)):=qa ((qdb.o.up HB.o).keep hg7 (fun e=>by injection e with e;omega));have qhE:=qa (qfT.o.keep HGN.o (qfT.o.ne_lt (qR _)));have HWF:=qa (HW3.o.trans (HB.o.mono HW3.o.size));obtain⟨A9,hA9,hs9,hl9⟩:=HBN.o.open;have HA9:=qa hA9;have HS9:=qa hs9;have HL9:=qa hl9;have qfl:nv.oneCell'=true:=fQ HON.o.outer;have qfh:rv.oneCell'=true:=fQ qfT.o;clear hA9 hs9 hl9 hrz hry hdz hdy
     go_wp2_with(first|(refine dQ rfl _ rfl w3.heap.size rfl A9 HS9.o HA9.o ?_)|(refine iX rfl _ _ rfl (w.heap.size+1) rfl A9 rfl HL9.o HBN.o.len qfl qfh qfV.o ?_;intro w12 qcQ qcP;have qci:=qa qcQ;have qbZ:=qa qcP;clear qcQ qcP))
     have hg9:wr.grownBy w12 (some (w.heap.size+1)):=qbZ.o;have qkq:=HGC.o.size;have qkp:=hg7.size;have qfi:=HON.o.keep' hg9 (HON.o.free_below (by omega));have qfg:=qhE.o.keep hg9 (qhE.o.ne_lt (by omega));refine q12 rfl rfl rfl rfl qci.o fun A hA=>⟨A,by rw[HE.o];rfl,?_,?_⟩
     ·rw[HI.o,hU,hF,hlf];exact⟨nv,vs,rv,_,_,hA,qci.o.len,by omega,by omega,qfi,qfg⟩
     have hb1:Below w.heap.size w wr:=Below.grown (B:=w.heap.size) HWF.o hg7 (by omega) (fun j hj=>by cases hj;omega);exact hb1.grown hg9 (by omega) (fun j hj=>by cases hj;exact ja _)
 have hrb:=bN hv;have HI:=qa (q4y hv);have HE:=qa (q4z hv);clear hv;go_enter func211,ntmps211
 go_wp2_with(first|(refine dQ rfl _ rfl w.heap.size rfl A HS.o HG2.o ?_)|(go_at_call 212;refine(HL.o _ aJ).mono ?_;rintro e w' ⟨rfl,x,rfl⟩;rw[hrb])|(refine iX rfl _ _ rfl (w.heap.size+1) rfl Z rfl (HZ.o▸iE) qL rfl rfl (HB2.o.up (aD _ _)) ?_;intro w1 hb1 hg1;have HB1:=qa hb1;have HGR:=qa hg1;clear hb1 hg1))
 refine q12 rfl rfl rfl rfl HB1.o fun A hA=>⟨A,by rw[HE.o];rfl,by rw[HI.o];exact⟨_,[],_,_,_,hA,qL,qb _,qb _,dV.nil _ _ _ _,Own.nil _ _ _⟩,?_⟩;exact Below.grown (B:=w.heap.size) aJ HGR.o (qc (by simp;omega) (iT _ _)) (fun j hj=>by cases hj;exact ja _)
end Go.Cm
