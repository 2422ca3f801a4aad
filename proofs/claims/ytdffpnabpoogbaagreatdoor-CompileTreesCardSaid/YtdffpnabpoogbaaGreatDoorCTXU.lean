/- Walks of functions and plain facts, joined and squeezed by a program. Conditions: as each says. -/
import Derived.DeepKeys4
import Derived.Laws.Tables
import Derived.Test.YtdffpnabpoogbaaGreatDoorCTXT
set_option maxHeartbeats 8000000
set_option maxRecDepth 100000
set_option linter.unusedSimpArgs false
open Go.Proofs.Tryz
namespace Go.Cm
open Go.RowKit Go.Proofs
theorem ZmU0{P:Prop}(h:P:=by
 have HFN:Hid ((L.take (k+1)).foldl (pR r) (-1)=o):=qa (by rw[HT.o,HZ.o,qr (by omega)]);go_wp2
 go_roundg (n-(k+1))
 case measure=>omega
 case rel=>exact⟨k+1,o,rfl,by go_num,by omega,HFN.o.symm,HW.o,rfl⟩):P:=h
theorem ZmU1{P:Prop}(h:P:=by
 go_roundg (n-(k+1))
 case measure=>omega
 case rel=>exact⟨k+1,z,rfl,by go_num,by omega,HFN.o.symm,HW.o,rfl⟩):P:=h
inductive Sta(A:Nat->Nat->Bool)(N p:Nat):Nat->Prop
 |refl:Sta A N p p
 |step {q r:Nat}:Sta A N p q->q<N->r<N->A q r=true->Sta A N p r
theorem Sta.trans{A:Nat->Nat->Bool}{N p q r:Nat}(h:Sta A N p q)(k:Sta A N q r):Sta A N p r:=by
 induction k with
 |refl=>exact h
 |step _ h1 h2 h3 ih=>exact .step ih h1 h2 h3
theorem Sta.lt{A:Nat->Nat->Bool}{N p q:Nat}(h:Sta A N p q)(hp:p<N):q<N:=by
 cases h with
 |refl=>exact hp
 |step _ _ h _=>exact h
def GL(L:Lng)(t:List Nat)(N:Nat)(G:Nat->Nat->Bool):Prop:=∀p r,p<N->r<N->(G p r=true↔p<=r/\L ((t.drop p).take (r-p)))
def q6T(w:World)(v:Value)(s:ByteArray)(y:Nd)(ky:Fo)(at_:Nat):Prop:=∀x',Below w.heap.size w x'->
 Calls prog 82 #[v,.int .i64 at_,.string s] x' fun e w'=>∃u,e=.returned u/\(∃G,W4 w' u (s.size+1) G/\GL (q8o y (q4O ky)) (txt s) (s.size+1) G)/\Below x'.heap.size x' w'
def q0m(w:World)(v:Value)(s:ByteArray):Fo->Nat->Prop
 |.nil,_=>True
 |.cons y ky r,at_=>q6T w v s y ky at_/\q0m w v s r (at_+1+(cO ky).length)
structure O7(w:World)(v:Value)(l:List Nd)(i:Nat)(x:Nd)(k:Fo):Prop where
 at_:cB w v l
 len:l.length<=400
 drop:∃post,l.drop i=x::(cO k++post)
 n:x.n=cnt k
 wf:wf k
theorem O7.up{w w':World}{v:Value}{l:List Nd}{i:Nat}{x:Nd}{k:Fo}(h:O7 w v l i x k)(hb:Below w.heap.size w w'):O7 w' v l i x k:=⟨h.at_.up hb,h.len,h.drop,h.n,h.wf⟩
theorem O7.open{w:World}{v:Value}{l:List Nd}{i:Nat}{x:Nd}{k:Fo}(h:O7 w v l i x k):
  ∃oa cap b off,v=.slice oa l.length cap/\(∀W:World,(Instr.indexAt 31 v (.int .i64 i)).run prog W=.ok (.pointer (some ⟨b,off+i*8,none⟩)) W)/\b<w.heap.size/\∀c,c<8->w.cell? ⟨b,off+i*8+c,none⟩=some ((ndC x).getD c undef):=by
 obtain⟨post,hd0⟩:=h.drop;obtain⟨oa,cap,b,off,rfl,hd,hc⟩:=h.at_.open;obtain⟨hi,hx,-⟩:=sH (d:=zN) hd0;refine⟨oa,cap,b,off,rfl,fun W=>?_,hd.hblk (by omega),fun c hcl=>by rw[hc i hi c hcl,hx]⟩;have:=gA hd W .i64 i (by omega) (by omega);simpa using this
def q9G(w:World)(s:ByteArray)(v:Value)(k:Fo)(i:Nat):Prop:=∀(j:Nat) (x':World),j<cnt k->Below w.heap.size w x'->
 Calls prog 82 #[v,.int .i64 ((q60 k i).getD j 0:Nat),.string s] x' fun e w'=>∃u,e=.returned u/\(∃G,W4 w' u (s.size+1) G/\GL ((q4O k).getD j q62) (txt s) (s.size+1) G)/\Below x'.heap.size x' w'
theorem q0m.to{w:World}{v:Value}{s:ByteArray}:∀{f:Fo} {at_:Nat},q0m w v s f at_->q9G w s v f at_
 |.nil,_,_,_,_,h,_=>absurd h (qz _)
 |.cons y ky r,at_,h,0,x',_,hb=>h.1 x' hb
 |.cons y ky r,at_,h,j+1,x',hj,hb=>q0m.to h.2 j x' (by simpa[cnt]using hj) hb
theorem q9G.up{w w':World}{v:Value}{s:ByteArray}{f:Fo}{at_:Nat}(h:q9G w s v f at_)(hb:Below w.heap.size w w'):q9G w' s v f at_:=fun j y hj hy=>h j y hj (hb.trans (hy.mono hb.size))
theorem q6U{x:Ed}(h:WQ x.a/\WQ x.b/\WQ x.c/\WQ x.d):q9V x:=fun q=>by
 obtain⟨h1,h2,h3,h4⟩:=h;unfold mJ
 (repeat' split)<;>first|exact h1.1|exact h2.1|exact h3.1|exact h4.1
theorem q52{w:World}{A:Array Value}{e:List (List Ed)}{F:Int}{r:List Int}(h:zW w A e F r){v:Value}{st:List Int}(hs:eE w v st)(c:Nat)(hc:c<256):
  Calls prog 200 #[.agg A,v,.int .u8 c] w fun en w'=>∃u,en=.returned u/\Own w' w.heap.size 3 u (ints (nz (mL e F r st c)))/\Below w.heap.size w w':=by
 have HH:=qa h;obtain⟨ve,vr,rfl,he,hr⟩:=h;obtain⟨oe,ce,be,fe,rfl,-,-⟩:=he.open;obtain⟨orr,cr,br,fr,rfl,-,-⟩:=hr.open;obtain⟨R,hR⟩:∃R,R=dZ e F r:=⟨_,rfl⟩;obtain⟨n,hn⟩:∃n,n=e.length:=⟨_,rfl⟩;obtain⟨m,hm⟩:∃m,m=r.length:=⟨_,rfl⟩;rw[<-hn,<-hm]at HH⊢;have HA:=qa (aA w (.cells #[.slice oe n ce,.int .i64 F,.slice orr m cr] 209));have HRT:=qa (q2E (HH.o.up HA.o));rw[<-hR]at HRT;have HBX:=qa (by simpa using bU w 0 #[.slice oe n ce,.int .i64 F,.slice orr m cr] 209 (by simp) (qd _):Own (w.alloc (.cells #[.slice oe n ce,.int .i64 F,.slice orr m cr] 209)) 0 209 (.slice (some ⟨w.heap.size,0,none⟩) 3 3) [.slice oe n ce,.int .i64 F,.slice orr m cr]);have HS:=qa hs;obtain⟨os,cs,bs,fs,rfl,-,-⟩:=hs.open;clear he hr hs hn hm;cases R with
 |false=>
  have HC:Hid (mL e F r st c=[]):=qa (by unfold mL;rw[qr (by rw[<-hR];decide)]);clear hR;go_enter func200,ntmps200
  go_wp2_with((with_reducible go_at_call 202);refine HRT.o.mono ?_;rintro en w2 ⟨rfl,x2,rfl⟩)
  go_ret;exact⟨_,rfl,by rw[HC.o];exact Own.nil _ _ _,HA.o.trans ((aD _ x2).mono HA.o.size)⟩
 |true=>
  have HC:Hid (mL e F r st c=pQ e st c):=qa (by unfold mL;rw[qt hR.symm]);have HRR:=qa hR.symm;clear hR;go_enter func200,ntmps200
  go_wp2_with(first
   |((with_reducible go_at_call 202);refine HRT.o.mono ?_;rintro en w2 ⟨rfl,x2,rfl⟩;have HB2:=qa (HA.o.trans ((aD _ x2).mono HA.o.size));have qbm:=qa (HBX.o.up (aD _ x2));generalize ext (w.alloc (.cells #[.slice oe n ce,.int .i64 F,.slice orr m cr] 209)) x2=w2 at*;have c0:=qbm.o.cell (i:=0) (by simp);have c1:=qbm.o.cell (i:=1) (by simp);have c2:=qbm.o.cell (i:=2) (by simp);simp only[j7,List.getD_cons_succ]at c0 c1 c2;have hp:=qbm.o.blk.2)
   |(refine aH rfl 209 _ rfl w.heap.size 0 3 rfl _ _ (o8 qbm.o) rfl underlying209 rfl (by kernel_rfl) ?_)
   |((with_reducible go_at_call 207);refine(q9W (HH.o.up HB2.o) HRR.o (HS.o.up HB2.o) c hc).mono ?_;rintro en w3 ⟨u3,rfl,ho,hb⟩;have HO:=qa ho;have HB3:=qa (HB2.o.trans (hb.mono HB2.o.size));clear ho hb))
  go_ret;exact⟨_,rfl,by rw[HC.o];exact HO.o.mono HB2.o.size,HB3.o⟩
end Go.Cm
namespace Go.Cm
open Go.RowKit Go.Proofs Go.Maps
theorem oD:Keyed prog 9:=string_keyed underlying9
theorem sP(w:World):(zeroValue 3).run prog w=.ok (.int .i64 0) w:=by kernel_rfl
theorem uH.has_yes{α:Type} [DecidableEq α]{lit:α->Lit}{D:DataW Unit}{ks:List α}(h:uH lit D ks){k:α}(hk:k∈ks):Maps.has D (lit k)=true:=(h.2.2.1 k).trans (qw hk)
theorem uH.has_no{α:Type} [DecidableEq α]{lit:α->Lit}{D:DataW Unit}{ks:List α}(h:uH lit D ks){k:α}(hk:k∉ks):Maps.has D (lit k)=false:=(h.2.2.1 k).trans (qu hk)
def q8c(s:List UInt8):Lit:=.string s
def vH(R:List (List Nat)):List (List Value):=R.map fun L=>ints (nz L)
theorem l9(R:List (List Nat)):(vH R).length=R.length:=by simp[vH]
theorem A3{R:List (List Nat)}{i:Nat}(h:i<R.length):(vH R).getD i []=ints (nz (R.getD i [])):=by simp[vH,List.getD,h]
def q2R(R:List (List Nat)):Prop:=∀L∈R,L.length<=100000/\∀s∈L,s<65536
theorem q54{α β:Type} [DecidableEq α] [DecidableEq β](f:α->β){R:List α}{L:α}(h:∀a∈R,f a=f L->a=L):idx (R.map f) (f L)=idx R L:=by
 unfold idx
 induction R with
 |nil=>rfl
 |cons a R ih=>
  rw[qF,List.idxOf_cons,List.idxOf_cons,ih (fun b hb=>h b (by simp[hb]))];by_cases e:a=L
  ·subst e;simp
  have e2:f a≠f L:=fun q=>e (h a (by simp) q);rw[show(f a==f L)=false by simpa using e2,show(a==L)=false by simpa using e]
theorem q6V{R:List (List Nat)}{L:List Nat}(h:∀a∈R,gE a=gE L->a=L):idx (R.map gE) (gE L)=idx R L:=q54 gE h
theorem mem_map{R:List (List Nat)}{L:List Nat}(h:∀a∈R,gE a=gE L->a=L):gE L∈R.map gE↔L∈R:=by
 rw[jy];exact⟨fun⟨a,ha,e⟩=>h a ha e▸ha,fun hL=>⟨L,hL,rfl⟩⟩
structure MkN(w:World)(B q m:Nat)(ve vr:Value)(F:Int)(lv:Value)(vs:List Value)(R:List (List Nat)):Prop where
 box:Own w B 248 (.slice (some ⟨q,0,none⟩) 5 5) [ve,.int .i64 F,vr,lv,.map (some m)]
 lists:dV w B 39 3 lv vs (vH R)
 map:eG prog 9 3 q8c w m (R.map gE)
 mB:B<=m
 qm:q≠m
 offQ:dV.free lv vs (some q)
 offM:dV.free lv vs (some m)
theorem q6W:q53 q8c:=⟨fun a b h=>by unfold q8c at h;injection h,fun _=>trivial⟩
theorem sQ{v v' x:Value}{vs:List Value}{q n:Nat}(h:dV.free v vs (some q))(hx:x.ownBlock≠some q)(hk:∀k,v'.ownBlock=some k->v.ownBlock=some k\/n<=k)(hn:q<n):dV.free v' (vs++[x]) (some q):=by
 refine⟨fun k hk1 e=>?_,fun i hi k hk1 e=>?_⟩
 ·injection e with e
  subst e;rcases hk _ hk1 with h1|h1
  ·exact h.1 _ h1 rfl
  omega
 injection e with e;subst e;rw[qi,qB]at hi;rcases Nat.lt_succ_iff_lt_or_eq.1 hi with h1|rfl
 ·rw[bS h1]at hk1
  exact h.2 i h1 _ hk1 rfl
 rw[cT]at hk1;exact hx hk1
def U1(q m:Nat)(lv:Value)(k:Nat):Prop:=k=q\/k=m\/lv.ownBlock=some k
section
variable {w w' : World} {B q m : Nat} {ve vr : Value} {F : Int} {lv : Value} {vs : List Value} {R : List (List Nat)}
theorem MkN.up(h:MkN w B q m ve vr F lv vs R)(hb:Below w.heap.size w w'):MkN w' B q m ve vr F lv vs R:=
 ⟨h.box.up hb,h.lists.up hb,h.map.up hb,h.mB,h.qm,h.offQ,h.offM⟩
theorem MkN.lt(h:MkN w B q m ve vr F lv vs R):∀k,U1 q m lv k->B<=k/\k<w.heap.size:=fun k hk=>by
 rcases hk with rfl|rfl|hk
 ·exact h.box.lt _ rfl
 ·exact⟨h.mB,h.map.lt⟩
 exact h.lists.outer.lt k hk
theorem MkN.c(h:MkN w B q m ve vr F lv vs R):w.cell? ⟨q,0,none⟩=some ve/\w.cell? ⟨q,1,none⟩=some (.int .i64 F)/\w.cell? ⟨q,2,none⟩=some vr/\w.cell? ⟨q,3,none⟩=some lv/\w.cell? ⟨q,4,none⟩=some (.map (some m))/\q<w.heap.size:=
 ⟨h.box.cell (i:=0) (by simp),h.box.cell (i:=1) (by simp),h.box.cell (i:=2) (by simp),h.box.cell (i:=3) (by simp),h.box.cell (i:=4) (by simp),h.box.blk.2⟩
end
theorem q2S{w0 w:World}{B q m:Nat}{ve vr:Value}{F:Int}{lv:Value}{vs:List Value}{R:List (List Nat)}(h0:MkN w0 B q m ve vr F lv vs R)(hb0:Below w0.heap.size w0 w){x:Value}{L:List Nat}(hx:Own w w0.heap.size 3 x (ints (nz L)))(hT:q2R R)(hL:L.length<=100000/\∀s∈L,s<65536)(hR:R.length<=100000):
  Calls prog 198 #[.pointer (some ⟨q,0,none⟩),x] w fun e w'=>e=.returned (.int .i64 (idx (aW R L) L:Nat))/\∃lv' vs',MkN w' B q m ve vr F lv' vs' (aW R L)/\Gw (U1 q m lv) w (U1 q m lv') w'/\(∀k,k<w0.heap.size->dV.free lv vs (some k)->dV.free lv' vs' (some k)):=by
 have HX0:=qa (fun k hk=>(hx.lt k hk).1);have HWB:=qa hb0.size;have qfw:∀a∈R,gE a=gE L->a=L:=fun a ha e=>O9 (hT a ha).2 hL.2 e;have HIX:=qa (q6V qfw);have HME:=qa (mem_map qfw);have hB0:B<=w0.heap.size:=jn (Nat.lt_of_le_of_lt (h0.lt q (.inl rfl)).1 (h0.lt q (.inl rfl)).2)
 have HFX:Hid (dV.free lv vs x.ownBlock):=qa (by
  cases hxo:x.ownBlock with
  |none=>exact dV.free_none
  |some k=>exact h0.lists.free_new (hx.lt k hxo).1)
 have HXQ:Hid (x.ownBlock≠some q/\x.ownBlock≠some m):=qa ⟨fun e=>by have:=(hx.lt q e).1;have:=(h0.lt q (.inl rfl)).2;omega,fun e=>by have:=(hx.lt m e).1;have:=(h0.lt m (.inr (.inl rfl))).2;omega⟩;have HTX:=qa (q2Q (show eE w x (nz L)from hx.sl) hL.1);have HX:=qa (hx.mono hB0);have HM:=qa (h0.up hb0);have HTL:=qa (oB L)
 have hkey:keyOf prog 9 (.string ⟨(gE L).toArray⟩)=some (.string (gE L)):=by
  have:=Go.WideMaps.keyOf_string_mk (P:=prog) (k:=9) underlying9 (s:=⟨(gE L).toArray⟩) (by show(gE L).toArray.size<=_;simp[maxLen,oB];omega);simpa using this
 have HKEY:=qa hkey;clear hx hT hL qfw h0 hb0 hkey hB0;obtain⟨t,ht⟩:∃t,t=gE L:=⟨_,rfl⟩;have HTT:=qa ht;rw[<-ht]at HIX HME HTX HTL HKEY;clear ht
 obtain⟨ox,lx,cx,rfl⟩:∃ox lx cx,x=.slice ox lx cx:=by
  obtain⟨o,c,g,e,-⟩:=HX.o.cases;exact⟨o,_,c,e⟩
 obtain⟨og,cg,gg,hlv,-⟩:=HM.o.lists.outer.cases;have hvl:=HM.o.lists.len;rw[l9]at hvl;rw[hvl]at hlv;subst hlv;obtain⟨-,-,-,c3,c4,hq⟩:=HM.o.c;by_cases qbf:L∈R
 ·have HNR:Hid (aW R L=R):=qa (by unfold aW;rw[qt qbf])
  have qbl:=qa qbf;obtain⟨D,hD,hMp⟩:=HM.o.map;have HD:=qa hD;have HMI:=qa hMp;have qbq:Hid (Maps.has D (.string t)=true):=qa (hMp.has_yes (HME.o.2 qbf));have HAT:Hid (∀c:Int,D.atKey (.string t) (.lit (.int .i64 0))=.lit (.int .i64 c)->c=(idx R L:Nat)):=qa (fun c hc=>by rw[<-HIX.o];exact hMp.at_eq (HME.o.2 qbf) hc);clear hD hMp qbf;rw[HNR.o];go_enter func198,ntmps198
  go_wp2_with(first
   |((with_reducible go_at_call 204);refine HTX.o.mono ?_;rintro en w1 ⟨rfl,x1,rfl⟩;have HB1:=qa (aD w x1);have HM1:=qa (HM.o.up (aD w x1));have HD1:=qa (HD.o.kept (aE (aD w x1) none) (by simp));generalize ext w x1=w1 at*;obtain⟨-,-,-,d3,d4,hq1⟩:=HM1.o.c;clear c3 c4 hq)
   |(at_lookup;go_loud (refine wpList_lookup_own_ok_int _ rfl _ _ 246 rfl 9 3 .i64 oD underlying246 underlying3 (sP _) m _ D rfl HD1.o _ _ rfl HKEY.o ?_;intro c hat hwc;rw[qbq.o];have hce:=HAT.o c hat;subst hce;clear hat hwc)))
  go_ret;exact⟨rfl,_,_,HM1.o,dD _ HB1.o,fun _ _ h=>h⟩
 have HNR:Hid (aW R L=R++[L]):=qa (by unfold aW;rw[qr qbf]);have HID:Hid (idx (aW R L) L=R.length):=qa (by rw[HNR.o,dN qbf]);obtain⟨D,hD,hMp⟩:=HM.o.map;have HD:=qa hD;have HMI:=qa hMp;have HNM:Hid (t∉R.map gE):=qa (fun e=>qbf (HME.o.1 e));have qbq:Hid (Maps.has D (.string t)=false):=qa (hMp.has_no HNM.o);clear hD hMp qbf;rw[HID.o];have hml:=HM.o.lists;go_enter func198,ntmps198
 go_upto_region 6 with(first
  |((with_reducible go_at_call 204);refine HTX.o.mono ?_;rintro en w1 ⟨rfl,x1,rfl⟩;have HB1:=qa (aD w x1);have HM1:=qa (HM.o.up (aD w x1));have HX1:=qa (HX.o.up (aD w x1));have HD1:=qa (HD.o.kept (aE (aD w x1) none) (by simp));generalize ext w x1=w1 at*;obtain⟨-,-,-,d3,d4,hq1⟩:=HM1.o.c;clear c3 c4 hq)
  |(at_lookup;go_loud (refine wpList_lookup_own_ok_int _ rfl _ _ 246 rfl 9 3 .i64 oD underlying246 underlying3 (sP _) m _ D rfl HD1.o _ _ rfl HKEY.o ?_;intro c hat hwc;rw[qbq.o];clear hat hwc)))
 clear hml
 go_upto_region 7 with(at_mapUpdate;go_loud (refine wpList_mapUpdate_own _ rfl _ _ _ 246 rfl 9 3 oD underlying246 _ m _ D rfl HD1.o (by rw[qy];unfold maxLen;omega) _ _ _ rfl rfl HKEY.o _ [] (plainElem_int underlying3 (q8b _ (by omega))) ?_;intro w2 hown1 qbx;have HD2:=qa hown1;have HG2:=qa qbx;clear hown1 qbx))
 have hM1:=HM1.o;have qbm:=qa (hM1.box.keep HG2.o (.inr (fun e=>by injection e with e;exact hM1.qm e)));have qhO:=qa (hM1.lists.keep' HG2.o hM1.offM);have HX2:=qa (HX1.o.keep HG2.o (.inr HXQ.o.2));have HMB:=qa hM1.mB;have HQM:=qa hM1.qm;have HOQ:=qa hM1.offQ;have HOM:=qa hM1.offM;have e3:=qbm.o.cell (i:=3) (by simp);have e4:=qbm.o.cell (i:=4) (by simp);simp only[j7,List.getD_cons_succ]at e3 e4;have f3:=qbm.o.free 3;have hq2:=qbm.o.blk.2;have HGW:Hid (Gw (U1 q m (.slice og R.length cg)) w (U1 q m (.slice og R.length cg)) w2):=qa ((dD _ HB1.o).trans (eM HG2.o (fun k hk=>.inr (.inl (by injection hk with hk;exact hk.symm))) (fun k hk=>.inl hk)));clear hM1 d3 d4 hq1 HM1 HM HD1 HD HX1 HX;have hlW:=qa (aA w2 (.cells #[.slice ox lx cx] 39));have HSX:Hid (Sl (w2.alloc (.cells #[.slice ox lx cx] 39)) (.slice (some ⟨w2.heap.size,0,none⟩) 1 1) [.slice ox lx cx]):=qa (by simpa using dY w2 #[.slice ox lx cx] 39 (by simp));have HT1:=qa (qhO.o.outer.up hlW.out);have HVL:Hid ((vs++[Value.slice ox lx cx]).length=R.length+1):=qa (by simp;omega);have HT3:Hid (vs.length+[Value.slice ox lx cx].length<=4294967296):=qa (by simp;omega);have HT4:Hid (B<=(w2.alloc (.cells #[.slice ox lx cx] 39)).heap.size):=qa (by have:=qbm.o.blk;have:=hlW.out.size;omega);have e3a:=((hlW.out.cell (p:=⟨q,3,none⟩) hq2).trans e3)
 go_wp2_with(at_builtin;refine bM rfl (.tmp 37) (.tmp 39) 38 rfl B 39 (.slice none 0 0) 24 underlying38 (by kernel_rfl) rfl (by decide) (.slice og R.length cg) vs rfl HT1.o (.slice (some ⟨w2.heap.size,0,none⟩) 1 1) [.slice ox lx cx] rfl HSX.o (by simp[Value.oneCell']) HT3.o HT4.o ?_;intro v' w5 hown1 hg1 hk1;obtain⟨o5,c5,g5',rfl,-⟩:=hown1.cases;rw[HVL.o]at hown1 hk1⊢;have HO5:=qa hown1;have HG5:=qa hg1;have HK5:=qa hk1;clear hown1 hg1 hk1;have qbI:=qa ((qbm.o.up hlW.out).keep HG5.o (.inr (fun e=>HOQ.o.1 q e.symm rfl)));have g5:=qbI.o.free 3;have h5:=qbI.o.cell (i:=3) (by simp);have hq5:=qbI.o.blk.2)
 go_ret;have hst:=qbI.o.store 3 (.slice o5 (R.length+1) c5);have qdJ:=dV.push qhO.o HX2.o HFX.o (aE hlW.out none) HO5.o HG5.o HK5.o;have hcl:vH R++[ints (nz L)]=vH (R++[L]):=by simp[vH]
 rw[hcl]at qdJ;have hsz:=hlW.out.size;have qkz:m<w2.heap.size:=HD2.o.lt;have hfq:=sQ HOQ.o HXQ.o.1 HK5.o (by omega:q<(w2.alloc (.cells #[.slice ox lx cx] 39)).heap.size);have hfm:=sQ HOM.o HXQ.o.2 HK5.o (by omega:m<(w2.alloc (.cells #[.slice ox lx cx] 39)).heap.size)
 have hm2:eG prog 9 3 q8c w2 m ((R++[L]).map gE):=by
  have h1:=HMI.o.snoc q6W HNM.o;have h2:(R++[L]).map gE=R.map gE++[t]:=by rw[qD,HTT.o];rfl
  rw[h2];refine⟨_,?_,h1⟩;rw[qi,qB,qy];have h3:=HD2.o;rw[qy]at h3;exact h3
 have hm5:=(((hm2.up hlW.out).keep HG5.o (fun e=>HOM.o.1 m e.symm rfl)).keep hst.2 (fun e=>HQM.o (by injection e with e;exact e.symm)));rw[HNR.o];refine⟨rfl,_,vs++[.slice ox lx cx],⟨hst.1,qdJ.keep' hst.2 hfq,hm5,HMB.o,HQM.o,hfq,hfm⟩,?_,fun k hk hf=>sQ hf (fun e=>by have:=HX0.o k e;omega) HK5.o (by have:=HWB.o;have:=HGW.o.size;omega)⟩;have g1:Gw (U1 q m (.slice og R.length cg)) w (U1 q m (.slice og R.length cg)) (w2.alloc (.cells #[.slice ox lx cx] 39)):=HGW.o.up hlW.out
 have g2:Gw (U1 q m (.slice og R.length cg)) (w2.alloc (.cells #[.slice ox lx cx] 39)) (U1 q m (.slice o5 (R.length+1) c5)) w5:=eM HG5.o (fun k hk=>.inr (.inr hk)) (fun k hk=>by
  rcases hk with h|h|h
  ·exact .inl (.inl h)
  ·exact .inl (.inr (.inl h))
  exact(HK5.o k h).imp (fun e=>.inr (.inr e)) id)
 exact(g1.trans g2).trans (eM hst.2 (fun k hk=>.inl (by injection hk with hk;exact hk.symm)) (fun k hk=>.inl hk))
end Go.Cm
namespace Go.Cm
open Go.RowKit Go.Proofs
theorem q2T(r:List Int)(L:List Nat)(k:Nat)(h:k<L.length):(L.take (k+1)).foldl (pR r) (-1)=pR r ((L.take k).foldl (pR r) (-1)) (L.getD k 0):=by
 rw[aY L k 0 h,qV];rfl
theorem q9X{a b:Int}(h:a=b):Ending.returned (.int .i64 a)=.returned (.int .i64 b):=by rw[h]
theorem q9Y{w:World}{q:Nat}{vr:Value}{r:List Int}(hc:w.cell? ⟨q,2,none⟩=some vr)(hq:q<w.heap.size)(hr:eE w vr r){v:Value}{L:List Nat}(hl:eE w v (nz L))(hs:∀s∈L,s<r.length)(hrg:∀s,-1<=r.getD s 0/\r.getD s 0<32):
  Calls prog 201 #[.pointer (some ⟨q,0,none⟩),v] w fun e w'=>e=.returned (.int .i64 (lJ r L))/\∃x,w'=ext w x:=by
 obtain⟨orr,cr,br,fr,rfl,hdr,hcr⟩:=hr.open;obtain⟨oa,cap,b,off,rfl,hd,hcl⟩:=hl.open;rw[N6]at hd hcl⊢;have qcM:=xQ hdr;have hix:=xQ hd;have hbr:=hdr.hblk;have hb:=hd.hblk;have hm:=hd.len;have HCR:=qa hcr;have HC:=qa hcl;have HS:=qa hs;have HRG:=qa hrg;have HLT:=qa (fun k (h:k<L.length)=>q2T r L k h);have HLR:=qa (fun k=>xW hrg (L.take k) (-1) (by omega) (by omega));obtain⟨n,hn⟩:∃n,n=L.length:=⟨_,rfl⟩;have HN:=qa hn;rw[<-hn]at hix hb hm HC HLT⊢;clear hdr hcr hd hcl hr hl hs hrg hn;go_enter func201,ntmps201;go_wp2
 go_loopg [5,11] n (fun gk ov iv wr=>∃(k:Nat) (o:Int),ov=.int .i64 o/\iv=.int .i64 k/\k<=n/\o=(L.take k).foldl (pR r) (-1)/\Below w.heap.size w wr/\gk=n-k)
 case atStart=>exact⟨0,-1,rfl,rfl,qd _,rfl,qk _ _,rfl⟩
 case round=>
  obtain⟨k,o,rfl,rfl,hk,ho,hbl,rfl⟩:=hrel;have HO:=qa ho;have HW:=qa hbl;have hor:=HLR.o k;rw[<-ho]at hor;clear ho hbl;by_cases hlt:k<n
  ·have hb1:=hb (by omega)
   have hcell:=HC.o k hlt;rw[F3 _ _ (by rw[<-HN.o];exact hlt)]at hcell;have qbf:=HS.o _ (dH L k 0 (by rw[<-HN.o];exact hlt));have HT:=qa (HLT.o k hlt);rw[<-HO.o]at HT;have qbJ:=fun W=>hix W k hlt;generalize L.getD k 0=s at*;have hcw:=(HW.o.cell (p:=⟨b,off+k,none⟩) hb1).trans hcell;have hbw:b<wr.heap.size:=by have:=HW.o.size;omega
   have qjg:=hbr (by omega);have qj3:=(HW.o.cell (p:=⟨br,fr+s,none⟩) qjg).trans (HCR.o s qbf);have qln:br<wr.heap.size:=by have:=HW.o.size;omega
   have hcq:=(HW.o.cell (p:=⟨q,2,none⟩) hq).trans hc;have hqw:q<wr.heap.size:=by have:=HW.o.size;omega
   have qfs:=fun W=>qcM W s qbf;have hrs:=HRG.o s;have HLE:Hid (∀z,z=r.getD s 0->pR r o s=if 0<=z/\(o<0\/z<o)then z else o):=qa (fun z hz=>by unfold pR;rw[hz]);obtain⟨z,hz⟩:∃z,z=r.getD s 0:=⟨_,rfl⟩;have HZ:=qa (HLE.o z hz);rw[<-hz]at qj3 hrs;clear hz hcell HLE;by_cases h1: -1<z
   ·by_cases h2:o= -1
    ·have HFN:Hid ((L.take (k+1)).foldl (pR r) (-1)=z):=qa (by rw[HT.o,HZ.o,qt ⟨by omega,.inl (by omega)⟩])
     have d2:(o== -1)=true:=by simpa using h2
     clear h2;go_wp2
     exact ZmU1
    have d2:(o== -1)=false:=by simpa using h2
    by_cases h3:z<o
    ·have HFN:Hid ((L.take (k+1)).foldl (pR r) (-1)=z):=qa (by rw[HT.o,HZ.o,qt ⟨by omega,.inr h3⟩])
     go_wp2
     exact ZmU1
    exact ZmU0
   exact ZmU0
  have hke:k=n:=by omega
  subst hke;go_wp2;go_ret;refine⟨q9X ?_,aI HW.o⟩;rw[HO.o,HN.o,qX];rfl
def q8d:Array Value:=(ints (List.replicate 256 0)).toArray
theorem q0n(W:World):(zeroValue 37).run prog W=.ok (.agg q8d) W:=by kernel_rfl
theorem q2U:q8d.toList=ints (List.replicate 256 0):=rfl
theorem q9Z(w:World)(A:Array Value)(hA:A=q8d):tH (w.alloc (.cells A 37)) 37 256 w.heap.size (List.replicate 256 0):=by
 subst hA;exact q4E w 37 q8d (List.replicate 256 0) q2U (by rw[qL];decide)
theorem kT{P:Program}{ops:Array Oper}{rest:List Oper}{o:Oper}{a:Act}{w:World}{Q:Exit->Act->World->Prop}(hgd:o.guard=none)(T n:Nat)(x y:Operand)(ho:o.op=.store T x y)
  (g:Nat) (hx:a.eval x=.pointer (some ⟨g,0,none⟩)) (cl c2:List Int) (hy:a.eval y=.agg (ints c2).toArray) (h2:c2.length=n) (hi:(P.info? T).map (·.size)=some n) (hown:tH w T n g cl)
  (h:∀w',tH w' T n g c2->w.grownBy w' (some g)->wpList P ops Q rest (a.put o.dst undef) w'):wpList P ops Q (o::rest) a w:=by
 have hs:(ints c2).toArray.size=n:=by simp[h2]
 have hl:(ints cl).length=n:=by rw[aV,hown.len]
 refine bD hgd T x y ho g T g n n hx (ints c2).toArray hy (by rw[hs];exact hi) (ints cl) hown.own (by omega) (fun u hu=>?_) fun w' hw hg=>h w' ⟨?_,h2⟩ hg
 ·simp only[ints,jy]at hu
  obtain⟨z,-,rfl⟩:=hu;rfl
 rw[jm (by omega),j4]at hw;exact hw
noncomputable def q1x(e:List (List Ed))(F:Int)(r:List Int):List Int:=if dZ e F r then gD e else List.replicate 256 0
noncomputable def q2V(e:List (List Ed))(F:Int)(r:List Int):Nat:=if dZ e F r then(aZ e).length else 0
theorem q0o(e:List (List Ed))(F:Int)(r:List Int):(q1x e F r).length=256:=by
 unfold q1x;split
 ·exact sN e
 exact qL
def q2W(e:List (List Ed))(F:Int)(r:List Int)(w:World)(en:Ending)(w':World):Prop:=
 en=.returned (.tuple #[.agg (ints (q1x e F r)).toArray,.int .i64 (q2V e F r)])/\Below w.heap.size w w'
theorem q6X{e:List (List Ed)}{cl:List Int}(hl:cl.length=256)(h:∀i,i<256->cl.getD i 0=(uG e i:Nat)):cl=gD e:=by
 refine jS (by rw[hl,sN]) fun i h1 h2=>?_;have h3:=h i (by omega);have h4:=G7 e (c:=i) (by omega);rw[<-h4]at h3;simpa[List.getD,h1,h2]using h3
end Go.Cm
namespace Go.Cm
open Go.RowKit Go.Proofs Go.WideShapes Go.ChangeShapes Go.Deep
def EdW(x:Ed):Prop:=WQ x.a/\WQ x.b/\WQ x.c/\WQ x.d
theorem EdW.set{x:Ed}(h:EdW x):q9V x:=q6U h
instance :Inhabited Ed:=⟨⟨0,false,0,0,0,0⟩⟩
end Go.Cm
namespace Go.Cm
open Go.RowKit Go.Proofs Go.Maps
def U2(x:Ed):List Value:=[.int .u64 x.a,.int .u64 x.b,.int .u64 x.c,.int .u64 x.d]
def kv(x:Ed):Value:=.agg #[.int .u64 x.a,.int .u64 x.b,.int .u64 x.c,.int .u64 x.d]
theorem q65{x y:Ed}:kv x=kv y↔nJ x=nJ y:=by
 unfold kv nJ;simp
theorem q0q:laidOutB prog=true:=by kernel_rfl
theorem P1:Keyed prog 63:=Keyed.of_law (deep_law_laid q0q (m:=2) (by omega) (j9 (by kernel_rfl)) (by kernel_rfl) (by kernel_rfl))
theorem q8B{a:Int}(h:WQ a):(Lit.int .u64 a).wf=true:=by
 unfold WQ at h;simp[Lit.wf,IntKind.min,IntKind.max,IntKind.signed,IntKind.bits];omega
theorem sR(d:Nat){a:Int}(h:WQ a):prog.keyLits (d+1) 61 [.int .u64 a]=some [.int .u64 a]:=by
 unfold Program.keyLits;simp[underlying61,q8B h]
theorem q6Y{x:Ed}(h:EdW x):∃l,keyOf prog 63 (kv x)=some l:=by
 obtain⟨ha,hb,hc,hd⟩:=h;obtain⟨d,hd1⟩:∃d,prog.types.size=d+1:=Nat.exists_eq_succ_of_ne_zero (j9 (by kernel_rfl));have c4:prog.cellsOf 63=4:=by kernel_rfl
 have c1:prog.cellsOf 61=1:=by kernel_rfl
 have hk:prog.keyType 63=true:=by kernel_rfl
 have hl:prog.keyLits (d+1+1) 63 [.int .u64 x.a,.int .u64 x.b,.int .u64 x.c,.int .u64 x.d]=some [.int .u64 x.a,.int .u64 x.b,.int .u64 x.c,.int .u64 x.d]:=by
  unfold Program.keyLits;rw[underlying63];simp only[c4,c1,qx,qK];rw[qt trivial];have h0:=sR d ha;have h1:=sR d hb;have h2:=sR d hc;have h3:=sR d hd;simp[List.range,List.range.loop,h0,h1,h2,h3]
 unfold keyOf;rw[underlying63];simp only[kv,hk,j3];rw[hd1]
 have hf:(Value.agg #[.int .u64 x.a,.int .u64 x.b,.int .u64 x.c,.int .u64 x.d]).formed prog 63=true:=by
  unfold Value.formed;rw[underlying63];simp[c4]
 rw[qt hf];have hv:(Value.agg #[.int .u64 x.a,.int .u64 x.b,.int .u64 x.c,.int .u64 x.d]).cells.toList=[.int .u64 x.a,.int .u64 x.b,.int .u64 x.c,.int .u64 x.d]:=rfl;rw[hv,hl];exact⟨_,rfl⟩
def fU(e:List (List Ed))(i j:Nat):List Ed:=((e.take i).flatten++(e.getD i []).take j).filter (fun x=> !x.free)
theorem A4(e:List (List Ed)):fU e 0 0=[]:=by simp[fU]
theorem q2X(e:List (List Ed)){i:Nat}(h:i<e.length):fU e i (e.getD i []).length=fU e (i+1) 0:=by
 unfold fU;rw[qX,List.take_zero,j4,aY e i [] h,ju];simp
theorem q2Y(e:List (List Ed)):fU e e.length 0=bT e:=by unfold fU bT;simp
theorem q1y(e:List (List Ed))(i:Nat){j:Nat}(h:j<(e.getD i []).length):fU e i (j+1)=if((e.getD i []).getD j eA).free then fU e i j else fU e i j++[(e.getD i []).getD j eA]:=by
 unfold fU;generalize e.getD i []=row at*;rw[aY row j eA h,<-qj,List.filter_append];generalize row.getD j eA=z at*;cases hf:z.free<;>simp[hf]
theorem q1z{P:Program}{C:World->Prop}{o:Oper}{a:Act}{K:Act->Prop}(T:TypeId)(m x:Operand)(ho:o.op=.lookup T m x false)(mv xv v:Value)(hm:a.eval m=mv)(hx:a.eval x=xv)
  (h:∀w',C w'->(Instr.lookup T mv xv false).run P w'=.ok v w') (hk:K (a.put o.dst v)):o.quiet P a C K:=by
 refine⟨v,fun w' hw'=>?_,hk⟩;unfold Oper.quietAt execOp;simp only[ho,hm,hx,Sem.run_bind,h w' hw',Result.andThen_ok,Sem.run_pure,Oper.quietUpon];exact⟨trivial,trivial⟩
theorem q0r(l:List Ed):∀x∈l.map U2,x.length=4:=by
 intro x hx;obtain⟨e,-,rfl⟩:=List.mem_map.1 hx
 rfl
theorem q66{l:List Ed}{x:Ed}:kv x∈l.map kv↔nJ x∈l.map nJ:=by
 simp only[jy];exact⟨fun⟨a,ha,h⟩=>⟨a,ha,q65.1 h⟩,fun⟨a,ha,h⟩=>⟨a,ha,q65.2 h⟩⟩
theorem qa0{w:World}{A:Array Value}{e:List (List Ed)}{F:Int}{r:List Int}(h:zW w A e F r)(hw:∀a x,x∈Row e a->EdW x)(ht:tot e<=1000000):
  Calls prog 203 #[.agg A] w fun en w'=>∃u,en=.returned u/\cA 4 w' w.heap.size 63 u ((O1 e).map U2)/\Below w.heap.size w w':=by
 obtain⟨ve,vr,rfl,he,-⟩:=h;obtain⟨oe,ce,be,fe,rfl,hde,hce⟩:=he.open;have qc9:=sK hde;have hme:=hde.len;have hbe:=hde.hblk;have HCE:=qa hce;have HTS:Hid (∀i,i<e.length->tot (e.take (i+1))=tot (e.take i)+(e.getD i []).length):=qa (fun i hi=>by unfold tot;rw[qI hi,qD,List.sum_append];simp[List.getD,hi])
 have HTL:Hid (∀i,tot (e.take i)<=1000000):=qa (fun i=>by
  have h1:tot (e.take i++e.drop i)=tot (e.take i)+tot (e.drop i):=by unfold tot;rw[qD,List.sum_append]
  rw[j5]at h1;omega)
 have HPR:=qa (fun i (hi:i<e.length)=>q2X e hi);have HPA:=qa (q2Y e);have HPS:=qa (fun i j (hj:j<(e.getD i []).length)=>q1y e i hj)
 have HPL:Hid (∀i j,(bL nJ (fU e i j)).length<=tot (e.take i)+j):=qa (fun i j=>by
  refine qc (tW _ _) ?_;unfold fU tot;refine qc (jX _ _) ?_;rw[qi,List.length_flatten,qT];omega)
 obtain⟨n,hn⟩:∃n,n=e.length:=⟨_,rfl⟩;have HN:=qa hn;rw[<-hn]at qc9 hme hbe HCE HTS HPR HPA⊢;clear he hde hce hn ht;have hmm:=@run_makeMap prog;have HA:Hid (Below w.heap.size w ((w.alloc (.cells #[.slice oe n ce,.int .i64 F,vr] 209)).alloc (.map #[] 0))):=qa aJ;have hsz:((w.alloc (.cells #[.slice oe n ce,.int .i64 F,vr] 209)).alloc (.map #[] 0)).heap.size=w.heap.size+2:=by simp
 have HB0:Hid ((w.alloc (.cells #[.slice oe n ce,.int .i64 F,vr] 209)).cell? ⟨w.heap.size,0,none⟩=some (.slice oe n ce)):=qa (by rw[World.cell?_alloc_new];rfl)
 have HM0:Hid (zK prog 63 ((w.alloc (.cells #[.slice oe n ce,.int .i64 F,vr] 209)).alloc (.map #[] 0)) (w.heap.size+1) [] 0):=qa (by
  have:=zK.made prog 63 (w.alloc (.cells #[.slice oe n ce,.int .i64 F,vr] 209));simpa using this)
 go_enter func203,ntmps203;go_wp2;generalize ((w.alloc (.cells #[.slice oe n ce,.int .i64 F,vr] 209)).alloc (.map #[] 0))=w1 at*;clear hmm HB0;obtain⟨mb,hmb⟩:∃mb,mb=w.heap.size+1:=⟨_,rfl⟩;rw[<-hmb]at HM0⊢;have qkB:w.heap.size+1<=mb:=by omega
 have qkA:mb<=w.heap.size+1:=by omega
 clear hmb
 go_loopg [3,13] n (fun gk lv iv wr=>∃i N:Nat,iv=.int .i64 i/\i<=n/\cA 4 wr (mb+1) 63 lv ((bL nJ (fU e i 0)).map U2)/\zK prog 63 wr mb ((bL nJ (fU e i 0)).map kv) N/\N<=tot (e.take i)/\Below mb w1 wr/\gk=n-i)
 case atStart=>exact⟨0,0,rfl,qd _,by rw[A4];exact cA.nil _ _ _ _,by rw[A4];exact HM0.o,qd _,qk _ _,rfl⟩
 case round=>
  obtain⟨i,N,rfl,hi,how,hmp,hN,qbe,rfl⟩:=hrel;have HO:=qa how;have HM:=qa hmp;have HNB:=qa hN;have HW:=qa qbe;have qf9:=qbe.size;have HWW:=qa (HA.o.trans (qbe.mono (by omega)));clear how hmp qbe hN HM0;by_cases hlt:i<n
  ·obtain⟨oi,ci,bi,fi,hrow,hdi,hcell⟩:=HCE.o i hlt
   have qe7:=hbe (by omega);have hrow2:=(HWW.o.cell (p:=⟨be,fe+i,none⟩) qe7).trans hrow;have qcv:be<wr.heap.size:=by omega
   have qd1:=fun W=>qc9 W i hlt;have qbi:=pB hdi;have hbi:=hdi.hblk;have hmi:=hdi.len;have HCI:=qa hcell;have HPI:=qa (HPR.o i hlt);have HTI:=qa (HTS.o i hlt);have HPJ:=qa (HPS.o i);have qjF:=qa (HTL.o (i+1));obtain⟨row,hrw⟩:∃row,row=e.getD i []:=⟨_,rfl⟩;have HRO:=qa hrw;rw[<-hrw]at hrow2 qbi hbi hmi HCI HPI HTI HPJ;obtain⟨ln,hln⟩:∃ln,ln=row.length:=⟨_,rfl⟩;have HLN:=qa hln;rw[<-hln]at hrow2 qbi hbi hmi HCI HPI HTI HPJ;have HSR:Hid (∀j,j<ln->EdW (row.getD j eA)):=qa (fun j hj=>hw i _ (by show _∈e.getD i [];rw[<-hrw];exact dH _ _ _ (by omega)));clear hrow hdi hcell hrw hln;go_wp2;have HWO:=HW;have HOO:=HO;have HMO:=HM;clear HW HO HM HWW hrow2 qcv qf9;generalize wr=wo at*
   go_loopg [3,19] ln (fun gk lv jv wr=>∃j N:Nat,jv=.int .i64 j/\j<=ln/\cA 4 wr (mb+1) 63 lv ((bL nJ (fU e i j)).map U2)/\zK prog 63 wr mb ((bL nJ (fU e i j)).map kv) N/\N<=tot (e.take i)+j/\Below mb w1 wr/\gk=ln-j)
   case atStart=>exact⟨0,N,rfl,qd _,HOO.o,HMO.o,HNB.o,HWO.o,rfl⟩
   case round=>
    obtain⟨j,N,rfl,hj,how,hmp,hN,qbe,rfl⟩:=hrel;have HO:=qa how;have HM:=qa hmp;have HNJ:=qa hN;have HW:=qa qbe;have qf9:=qbe.size;have HWW:=qa (HA.o.trans (qbe.mono (by omega)));clear how hmp qbe hN HOO HMO HWO HNB;by_cases qbj:j<ln
    ·obtain⟨ed,hed⟩:∃ed,ed=row.getD j eA:=⟨_,rfl⟩
     have HST:=qa (HPJ.o j qbj);rw[<-hed]at HST;have qcu:=hbi (by omega)
     have HCD:Hid (∀c,c<6->wr.cell? ⟨bi,fi+j*6+c,none⟩=some ((edA ed).getD c undef)):=qa (by
      intro c hcl;rw[(HWW.o.cell (p:=⟨bi,fi+j*6+c,none⟩) qcu),HCI.o j qbj c hcl,G4,hed])
     have HEW:=qa (HSR.o j qbj);rw[<-hed]at HEW;have qcq:=fun W=>qbi W j qbj;obtain⟨tq,fr',a1,b1,c1,d1⟩:=ed;unfold edA at HCD;simp only at HCD;clear hed;cases fr' with
     |true=>
      have HEQ:Hid (fU e i (j+1)=fU e i j):=qa HST.o;have HA6:=qa (aA wr (.cells #[.int .i64 tq,.bool true,.int .u64 a1,.int .u64 b1,.int .u64 c1,.int .u64 d1] 226));have QC:Hid (∀k v,(#[.int .i64 tq,.bool true,.int .u64 a1,.int .u64 b1,.int .u64 c1,.int .u64 d1]:Array Value)[k]? =some v->(wr.alloc (.cells #[.int .i64 tq,.bool true,.int .u64 a1,.int .u64 b1,.int .u64 c1,.int .u64 d1] 226)).cell? ⟨wr.heap.size,k,none⟩=some v):=qa (fun k v hv=>(World.cell?_alloc_new wr _ _ k).trans hv);have qs:wr.heap.size<(wr.alloc (.cells #[.int .i64 tq,.bool true,.int .u64 a1,.int .u64 b1,.int .u64 c1,.int .u64 d1] 226)).heap.size:=by simp
      have q1:=QC.o 1 (.bool true) rfl;have HZ:=qa (HW.o.trans (HA6.o.mono (by omega)));have HO6:=qa (HO.o.up HA6.o);have HM6:=qa (HM.o.up HA6.o);have qgS:mb<wr.heap.size:=HM.o.lt;clear HA6 HO HM HWW
      go_wp2_with(refine aH rfl 226 _ rfl bi (fi+j*6) 6 rfl _ _ HCD.o rfl underlying226 rfl (by kernel_rfl) ?_)
      clear HCD
      go_roundg (ln-(j+1))
      case measure=>omega
      case rel=>exact⟨j+1,N,by go_num,by omega,by rw[HEQ.o];exact HO6.o,by rw[HEQ.o];exact HM6.o,by have:=HNJ.o;omega,HZ.o,rfl⟩
     |false=>
      have HE1:Hid (nJ ⟨tq,false,a1,b1,c1,d1⟩∈(bL nJ (fU e i j)).map nJ->bL nJ (fU e i (j+1))=bL nJ (fU e i j)):=qa (fun hm=>by
       have:=HST.o;rw[qr (by intro hh;cases hh)]at this;rw[this,e8,qt hm])
      have HE2:Hid (nJ ⟨tq,false,a1,b1,c1,d1⟩∉(bL nJ (fU e i j)).map nJ->bL nJ (fU e i (j+1))=bL nJ (fU e i j)++[⟨tq,false,a1,b1,c1,d1⟩]):=qa (fun hm=>by
       have:=HST.o;rw[qr (by intro hh;cases hh)]at this;rw[this,e8,qr hm])
      have HA6:=qa (aA wr (.cells #[.int .i64 tq,.bool false,.int .u64 a1,.int .u64 b1,.int .u64 c1,.int .u64 d1] 226));have QC:Hid (∀k v,(#[.int .i64 tq,.bool false,.int .u64 a1,.int .u64 b1,.int .u64 c1,.int .u64 d1]:Array Value)[k]? =some v->(wr.alloc (.cells #[.int .i64 tq,.bool false,.int .u64 a1,.int .u64 b1,.int .u64 c1,.int .u64 d1] 226)).cell? ⟨wr.heap.size,k,none⟩=some v):=qa (fun k v hv=>(World.cell?_alloc_new wr _ _ k).trans hv);have qs:wr.heap.size<(wr.alloc (.cells #[.int .i64 tq,.bool false,.int .u64 a1,.int .u64 b1,.int .u64 c1,.int .u64 d1] 226)).heap.size:=by simp
      have q1:=QC.o 1 (.bool false) rfl;have HZ:=qa (HW.o.trans (HA6.o.mono (by omega)));have HO6:=qa (HO.o.up HA6.o);have HM6:=qa (HM.o.up HA6.o);have qgS:mb<wr.heap.size:=HM.o.lt;clear HA6 HO HM HWW
      go_wp2_with(refine aH rfl 226 _ rfl bi (fi+j*6) 6 rfl _ _ HCD.o rfl underlying226 rfl (by kernel_rfl) ?_)
      clear HCD;generalize hwy:wr.alloc (.cells #[.int .i64 tq,.bool false,.int .u64 a1,.int .u64 b1,.int .u64 c1,.int .u64 d1] 226)=wy at*;obtain⟨pz,hpz⟩:∃pz,pz=wr.heap.size:=⟨_,rfl⟩;rw[<-hpz]at QC qs qgS⊢;have HPZ:Hid (pz<=wr.heap.size/\wr.heap.size<=pz):=qa ⟨by omega,by omega⟩;clear hwy hpz;have HM7:=qa (HM6.o.up (aN wy 1));rw[<-World.drew_is_drewN]at HM7
      have qhS:Hid (∃c:Int,∃ks',q9N prog 63 259 wy.drew mb ((bL nJ (fU e i j)).map kv) N (.agg #[.int .u64 a1,.int .u64 b1,.int .u64 c1,.int .u64 d1]) c ks'/\0<=c/\c<=N/\((c=0/\ks'=(bL nJ (fU e i j)++[(⟨tq,false,a1,b1,c1,d1⟩:Ed)]).map kv/\bL nJ (fU e i (j+1))=bL nJ (fU e i j)++[⟨tq,false,a1,b1,c1,d1⟩])\/(1<=c/\ks'=(bL nJ (fU e i j)).map kv/\bL nJ (fU e i (j+1))=bL nJ (fU e i j)))):=qa (by
       obtain⟨lk,hk⟩:=q6Y (x:=(⟨tq,false,a1,b1,c1,d1⟩:Ed)) HEW.o;by_cases hm:nJ ⟨tq,false,a1,b1,c1,d1⟩∈(bL nJ (fU e i j)).map nJ
       ·obtain⟨c,h1,h2,h3⟩:=q8j P1 underlying259 (fun w=>sP w) hk HM7.o ((q66 (x:=(⟨tq,false,a1,b1,c1,d1⟩:Ed))).2 hm)
        exact⟨c,_,h3,by omega,h2,.inr ⟨h1,rfl,HE1.o hm⟩⟩
       have h3:=q8i P1 underlying259 (fun w=>sP w) hk HM7.o (fun h=>hm ((q66 (x:=(⟨tq,false,a1,b1,c1,d1⟩:Ed))).1 h));exact⟨0,_,h3,by omega,by omega,.inl ⟨rfl,by rw[qD];rfl,HE2.o hm⟩⟩)
      obtain⟨c,ks',qgZ,hc0,hcN,qct⟩:=qhS.o;obtain⟨st,w1',w2',i1,i2,i3,i4,i5,g1,g2,hm2⟩:=qgZ.step;have HG1:=qa g1;have HG2:=qa g2;have HMM:=qa hm2;have HCS:=qa qct;have hpm:some pz≠some mb:=by intro hh;injection hh with hh;omega
      have HQD:Hid (∀w',wy.drew.grownBy w' (some mb)->∀c,c<4->w'.cell? ⟨pz,2+c,none⟩=some ((#[.int .u64 a1,.int .u64 b1,.int .u64 c1,.int .u64 d1]:Array Value).getD c undef)):=qa (by
       intro w' hg c hc;have hk:∀k v,(#[.int .i64 tq,.bool false,.int .u64 a1,.int .u64 b1,.int .u64 c1,.int .u64 d1]:Array Value)[k]? =some v->w'.cell? ⟨pz,k,none⟩=some v:=fun k v hv=>hg.cell (QC.o k v hv) hpm;rcases(show c=0\/c=1\/c=2\/c=3 by omega)with rfl|rfl|rfl|rfl
       ·exact hk 2 _ rfl
       ·exact hk 3 _ rfl
       ·exact hk 4 _ rfl
       exact hk 5 _ rfl)
      have HCM:Hid (c<=1000000):=qa (by have:=HTL.o (i+1);have:=HNJ.o;have:=qjF.o;have:=HTI.o;omega);clear qhS qgZ hm2 qct g1 g2 HM7 HM6 HE1 HE2;have hcb:c<=1000000:=HCM.o;refine cU (fun w'=>w'=wy.drew\/w'=w1') [0,1,2,3,4] [5,6] [7] (by kernel_rfl) (by kernel_rfl) (.inl rfl) ?_;simp only[pk]
      repeat(first
       |(go_big_quiet_want;refine dO 63 4 _ rfl pz 2 rfl #[.int .u64 a1,.int .u64 b1,.int .u64 c1,.int .u64 d1] rfl (fun w' hw'=>HQD.o w' (by rcases hw' with rfl|rfl;exact cW _ _;exact HG1.o)) _ underlying63 rfl (by kernel_rfl) ?_;go_simp;go_big_quiet_on)
       |(go_big_quiet_want;refine q1z 259 _ _ rfl (.map (some mb)) (.agg #[.int .u64 a1,.int .u64 b1,.int .u64 c1,.int .u64 d1]) (.int .i64 c) rfl rfl (fun w' hw'=>by rcases hw' with rfl|rfl;exact i2;exact i3) ?_;go_simp;go_big_quiet_on)
       |go_big_quiet_step (fail))
      refine wpQuiet_nil ?_
      (unfold aG;go_wp2;refine⟨.inr rfl,?_⟩)
      (unfold aG;go_wp2;refine⟨.inr rfl,?_⟩)
      unfold aG;have QC2:=qa (HQD.o w2' HG2.o)
      have HO7:=qa ((HO6.o.up (by rw[World.drew_is_drewN];exact aN wy 1)).keep HG2.o (by
       rcases hv:u3.ownBlock with _|q
       ·exact .inl rfl
       exact .inr (by intro hh;injection hh with hh;have:=(HO6.o.lt q hv).1;omega)))
      have hds:wy.drew.heap.size=wy.heap.size:=rfl;have HZ7:=qa ((HZ.o.trans ((show Below wy.heap.size wy wy.drew by rw[World.drew_is_drewN];exact aN wy 1).mono (by omega))).grown HG2.o (by omega) (fun k hk=>by cases hk;exact qb _));have qgy:wy.heap.size<=w2'.heap.size:=HG2.o.size;clear HQD HG1 HO6 HZ hds;rcases HCS.o with⟨rfl,h2,h3⟩|⟨h1,h2,h3⟩
      ·have H2:=qa h2
       have H3:=qa h3;clear h2 h3;rw[show(0:Int)+1=1 from rfl]at i4 i5
       (unfold aG;go_wp2;refine⟨trivial,?_⟩)
       unfold aG;have hl7:Below w2'.heap.size w2' (w2'.alloc (.cells #[.int .u64 a1,.int .u64 b1,.int .u64 c1,.int .u64 d1] 63)):=aA _ _
       have HX:Hid (SlK 4 (w2'.alloc (.cells #[.int .u64 a1,.int .u64 b1,.int .u64 c1,.int .u64 d1] 63)) (.slice (some ⟨w2'.heap.size,0,none⟩) 1 1) ([(⟨tq,false,a1,b1,c1,d1⟩:Ed)].map U2)):=qa (by
        have h1:=xA 4 w2' #[.int .u64 a1,.int .u64 b1,.int .u64 c1,.int .u64 d1] 63 ([(⟨tq,false,a1,b1,c1,d1⟩:Ed)].map U2) (by simp[U2]) (q0r _) (by simp);simpa using h1)
       have HT1:=qa (HO7.o.up hl7);have HZ8:=qa (HZ7.o.trans (hl7.mono (by omega)));have HM8:=qa (HMM.o.up hl7);have HT2:Hid (∀u∈([(⟨tq,false,a1,b1,c1,d1⟩:Ed)].map U2).flatten,u.oneCell'=true):=qa (by intro u hu;simp[U2]at hu;rcases hu with rfl|rfl|rfl|rfl<;>rfl);have HT3:Hid (((bL nJ (fU e i j)).map U2).length+([(⟨tq,false,a1,b1,c1,d1⟩:Ed)].map U2).length<=1000000000):=qa (by have:=HPL.o i j;have:=HTL.o (i+1);have:=HTL.o i;have:=HTI.o;simp only[qy,qB];omega);have HMB:Hid (mb+1<=(w2'.alloc (.cells #[.int .u64 a1,.int .u64 b1,.int .u64 c1,.int .u64 d1] 63)).heap.size):=qa (by have:=hl7.size;omega);clear hl7 HO7 HZ7 HMM
       go_wp2_with(first|(refine aH rfl 63 _ rfl pz 2 4 rfl _ _ QC2.o rfl underlying63 rfl (by kernel_rfl) ?_)|(at_builtin;refine gV 4 rfl (.tmp 37) (.tmp 40) 253 rfl (mb+1) 63 (.agg #[.int .u64 0,.int .u64 0,.int .u64 0,.int .u64 0]) 32 underlying253 (by kernel_rfl) rfl (by decide) (by decide) u3 ((bL nJ (fU e i j)).map U2) rfl HT1.o (.slice (some ⟨w2'.heap.size,0,none⟩) 1 1) ([(⟨tq,false,a1,b1,c1,d1⟩:Ed)].map U2) rfl HX.o (q0r _) HT2.o HT3.o HMB.o ?_;intro v' w5 hown1 hg1 hk1;have HO1:=qa hown1;have HG1:=qa hg1;have HK1:=qa hk1;clear hown1 hg1 hk1))
       have qda:Hid (∀k,u3.ownBlock=some k->mb+1<=k):=qa (fun k hk=>(HT1.o.lt k hk).1)
       go_roundg (ln-(j+1))
       case measure=>omega
       case rel=>exact⟨j+1,N+1,by go_num,by omega,by rw[H3.o,qD];exact HO1.o,by rw[H3.o,<-H2.o];exact HM8.o.keep HG1.o (by intro hh;have:=qda.o mb hh.symm;omega),by have:=HNJ.o;omega,HZ8.o.grown HG1.o (by have:=HMB.o;omega) (fun k hk=>by have:=qda.o k hk;omega),rfl⟩
      have H2:=qa h2;have H3:=qa h3;have d1:decide (c+1=1)=false:=by simp;omega
      clear h2 h3
      (unfold aG;go_wp2;refine⟨trivial,?_⟩)
      unfold aG
      go_wp2_with(refine aH rfl 63 _ rfl pz 2 4 rfl _ _ QC2.o rfl underlying63 rfl (by kernel_rfl) ?_)
      go_roundg (ln-(j+1))
      case measure=>omega
      case rel=>exact⟨j+1,N+1,by go_num,by omega,by rw[H3.o];exact HO7.o,by rw[H3.o,<-H2.o];exact HMM.o,by have:=HNJ.o;omega,HZ7.o,rfl⟩
    have hje:j=ln:=by omega
    subst hje;have qlr:=HPI;go_wp2
    go_roundg (n-(i+1))
    case measure=>omega
    case rel=>exact⟨i+1,N,by go_num,by omega,by rw[<-HPI.o];exact HO.o,by rw[<-HPI.o];exact HM.o,by rw[HTI.o];exact HNJ.o,HW.o,rfl⟩
  have hie:i=n:=by omega
  subst hie;go_wp2;go_ret;have h1:=HO.o;rw[HPA.o]at h1;exact⟨_,rfl,h1.mono (by omega),HWW.o⟩
def q2Z(x:Ed)(c:Nat):Int:=mJ x (c/64)/2^(c%64)%2
theorem q0s(x:Ed)(c:Nat):tI x c=(q2Z x c==1):=by
 unfold tI q2Z mJ
 have h2:(if c<64 then x.a else if c<128 then x.b else if c<192 then x.c else x.d)=(if c/64=0 then x.a else if c/64=1 then x.b else if c/64=2 then x.c else x.d):=by
  (repeat' split)<;>first|rfl|omega
 rw[h2]
theorem W6(x:Ed)(c:Nat):q2Z x c=0\/q2Z x c=1:=by unfold q2Z;omega
def kC(l:List Ed)(x:Ed)(c:Nat):Value:=.agg #[.int .i64 (lH l c:Nat),.int .u64 (q2Z x c)]
theorem q30{l:List Ed}{x:Ed}{a b:Nat}:kC l x a=kC l x b↔rJ l x a=rJ l x b:=by
 unfold kC rJ;rw[q0s,q0s];rcases W6 x a with h|h<;>rcases W6 x b with h'|h'<;>simp[h,h']<;>omega
theorem q8C{l:List Ed}{x:Ed}{F:List Nat}{c:Nat}:kC l x c∈F.map (kC l x)↔rJ l x c∈F.map (rJ l x):=by
 simp only[jy];exact⟨fun⟨a,ha,h⟩=>⟨a,ha,q30.1 h⟩,fun⟨a,ha,h⟩=>⟨a,ha,q30.2 h⟩⟩
theorem q1A{l:List Ed}{x:Ed}{c:Nat}(hc:c<256){F:List Nat}(hF:bL (rJ l x) (kZ.take c)=F):
  (∃i,(F.map (kC l x))[i]? =some (kC l x c)/\bL (rJ l x) (kZ.take (c+1))=F/\iV (rJ l x) kZ c=i)\/(kC l x c∉F.map (kC l x)/\bL (rJ l x) (kZ.take (c+1))=F++[c]/\iV (rJ l x) kZ c=F.length):=by
 have hcl:c<kZ.length:=by rw[sM];exact hc
 by_cases hm:rJ l x c∈F.map (rJ l x)
 ·left
  have h1:=fX hm;have h2:=gU hm;rw[qy]at h1;rw[jt]at h2;have hq:F.getD (idx (F.map (rJ l x)) (rJ l x c)) 0=F[idx (F.map (rJ l x)) (rJ l x c)]:=by simp[List.getD,h1]
  have h3:=V2 (f:=rJ l x) (l:=kZ) (z:=0) hcl (G5 hc) hF h1 (fun a ha e=>by
   have hal:a<F.length:=by omega
   have:=q00 (F.map (rJ l x)) a (rJ l x c) (by rw[qQ,qv hal,jM,<-e];simp[List.getD,hal]);unfold idx at ha;omega) (by rw[hq];exact h2)
  refine⟨_,?_,h3.1,h3.2⟩;rw[qQ,qv h1,jM,q30.2 h2]
 right
 have h3:=q2e (f:=rJ l x) (l:=kZ) (z:=0) hcl (G5 hc) hF (fun a ha e=>hm (by rw[<-e];exact jb (dH _ _ _ ha)));exact⟨fun h=>hm (q8C.1 h),h3.1,h3.2⟩
theorem sS:Keyed prog 257:=Keyed.of_law (deep_law_laid q0q (m:=2) (by omega) (j9 (by kernel_rfl)) (by kernel_rfl) (by kernel_rfl))
theorem q56(d:Nat){a:Int}(h:(Lit.int .i64 a).wf=true):prog.keyLits (d+1) 3 [.int .i64 a]=some [.int .i64 a]:=by
 unfold Program.keyLits;simp[underlying3,h]
theorem q6Z{l:List Ed}{x:Ed}{c:Nat}(hc:c<256):∃s,keyOf prog 257 (kC l x c)=some s:=by
 have h1:(Lit.int .i64 (lH l c:Nat)).wf=true:=by
  have h1:=pD l hc;have h2:=uF l;exact q8b _ (by omega)
 have h2:WQ (q2Z x c):=by rcases W6 x c with h|h<;>rw[h]<;>exact⟨by decide,by decide⟩
 unfold kC;generalize ((lH l c:Nat):Int)=a at*;generalize q2Z x c=b at*;obtain⟨d,hd1⟩:∃d,prog.types.size=d+1:=Nat.exists_eq_succ_of_ne_zero (j9 (by kernel_rfl));have c4:prog.cellsOf 257=2:=by kernel_rfl
 have c1:prog.cellsOf 61=1:=by kernel_rfl
 have c0:prog.cellsOf 3=1:=by kernel_rfl
 have hk:prog.keyType 257=true:=by kernel_rfl
 have hl:prog.keyLits (d+1+1) 257 [.int .i64 a,.int .u64 b]=some [.int .i64 a,.int .u64 b]:=by
  unfold Program.keyLits;rw[underlying257];have e0:=q56 d h1;have e1:=sR d h2;simp[c0,c1,c4,e0,e1]
 unfold keyOf;rw[underlying257];simp only[hk,j3];rw[hd1]
 have hf:(Value.agg #[.int .i64 a,.int .u64 b]).formed prog 257=true:=by
  unfold Value.formed;rw[underlying257];simp[c4]
 rw[qt hf];have hv:(Value.agg #[.int .i64 a,.int .u64 b]).cells.toList=[.int .i64 a,.int .u64 b]:=rfl;rw[hv,hl];exact⟨_,rfl⟩
def q1B(l:List Ed)(cl:List Int):Prop:=cl.length=256/\∀c,c<256->cl.getD c 0=(lH l c:Nat)
def A5(l:List Ed)(x:Ed)(c:Nat)(cl:List Int):Prop:=cl.length=256/\∀q,q<256->cl.getD q 0=if q<c then((iV (rJ l x) kZ q:Nat):Int)else(lH l q:Nat)
theorem W7{l:List Ed}{x:Ed}{cl:List Int}(h:q1B l cl):A5 l x 0 cl:=⟨h.1,fun q hq=>by rw[qr (qz q)];exact h.2 q hq⟩
theorem q31{l:List Ed}{x:Ed}{c:Nat}{cl:List Int}(h:A5 l x c cl)(hc:c<256):cl.getD c 0=(lH l c:Nat):=by rw[h.2 c hc,qr (jH c)]
theorem A6{l:List Ed}{x:Ed}{c k:Nat}{cl:List Int}(h:A5 l x c cl)(hc:c<256)(hk:iV (rJ l x) kZ c=k):A5 l x (c+1) (cl.set c (k:Int)):=by
 refine⟨by rw[j8];exact h.1,fun q hq=>?_⟩;by_cases hqc:q=c
 ·subst hqc
  rw[d8 (by rw[h.1];exact hq),qt (by omega),hk]
 rw[dC (fun e=>hqc e.symm),h.2 q hq];by_cases hlt:q<c
 ·rw[qt hlt,qt (by omega)]
 rw[qr hlt,qr (by omega)]
theorem q1C{l:List Ed}{x:Ed}{cl:List Int}(h:A5 l x 256 cl):q1B (l++[x]) cl:=⟨h.1,fun c hc=>by rw[h.2 c hc,qt hc,(q0f l x).2 c hc]⟩
theorem q70(n c:Nat):(List.replicate n (0:Int)).getD c 0=0:=by
 rw[qq,jQ];split<;>rfl
theorem q32:q1B [] (List.replicate 256 0):=⟨qL,fun c hc=>by rw[q2J.1 c hc];exact q70 256 c⟩
theorem q33{e:List (List Ed)}{cl:List Int}(h:q1B (O1 e) cl):cl=gD e:=q6X h.1 fun i hi=>by rw[h.2 i hi,(q0h e).2 i hi];rfl
theorem q57{w:World}{A:Array Value}{e:List (List Ed)}{F:Int}{r:List Int}(h:zW w A e F r)(hw:∀a x,x∈Row e a->EdW x)(ht:tot e<=1000000):
  Calls prog 197 #[.agg A] w (q2W e F r w):=by
 have HH:=qa h;obtain⟨ve,vr,rfl,he,hr⟩:=h;obtain⟨oe,ce,be,fe,rfl,-,-⟩:=he.open;obtain⟨orr,cr,br,fr,rfl,-,-⟩:=hr.open;obtain⟨n,hn⟩:∃n,n=e.length:=⟨_,rfl⟩;obtain⟨m,hm⟩:∃m,m=r.length:=⟨_,rfl⟩;rw[<-hn,<-hm]at HH⊢;have hz:=q0n;obtain⟨Z,hZ⟩:∃Z,Z=q8d:=⟨_,rfl⟩;rw[<-hZ]at hz;obtain⟨O,hO⟩:∃O:List Int,O=List.replicate 256 0:=⟨_,rfl⟩;have HON:Hid (q1B [] O):=qa (by rw[hO];exact q32);have HOL:Hid (O.length=256):=qa HON.o.1;have hsA:(w.alloc (.cells #[.slice oe n ce,.int .i64 F,.slice orr m cr] 209)).heap.size=w.heap.size+1:=by simp
 have hbx:Own (w.alloc (.cells #[.slice oe n ce,.int .i64 F,.slice orr m cr] 209)) 0 209 (.slice (some ⟨w.heap.size,0,none⟩) 3 3) [.slice oe n ce,.int .i64 F,.slice orr m cr]:=by simpa using bU w 0 #[.slice oe n ce,.int .i64 F,.slice orr m cr] 209 (by simp) (qd _)
 have hb1:=q9Z (w.alloc (.cells #[.slice oe n ce,.int .i64 F,.slice orr m cr] 209)) Z hZ;have hb2:=q9Z ((w.alloc (.cells #[.slice oe n ce,.int .i64 F,.slice orr m cr] 209)).alloc (.cells Z 37)) Z hZ;rw[hsA]at hb1;rw[show((w.alloc (.cells #[.slice oe n ce,.int .i64 F,.slice orr m cr] 209)).alloc (.cells Z 37)).heap.size=w.heap.size+2 by simp]at hb2;rw[<-hO]at hb1 hb2;have HB2:=qa hb2;have HB1:=qa (hb1.up (aA _ (.cells Z 37)));have HBX:=qa ((hbx.up (aA _ (.cells Z 37))).up (aA _ (.cells Z 37)));have HA:Hid (Below w.heap.size w (((w.alloc (.cells #[.slice oe n ce,.int .i64 F,.slice orr m cr] 209)).alloc (.cells Z 37)).alloc (.cells Z 37))):=qa aJ;have hs3:(((w.alloc (.cells #[.slice oe n ce,.int .i64 F,.slice orr m cr] 209)).alloc (.cells Z 37)).alloc (.cells Z 37)).heap.size=w.heap.size+3:=by simp
 have HRT:=qa (q2E (HH.o.up HA.o));have HCO:Hid ((dZ e F r=true->q1x e F r=gD e/\q2V e F r=(aZ e).length)/\(dZ e F r=false->q1x e F r=O/\q2V e F r=0)):=qa ⟨fun h=>⟨by unfold q1x;rw[qt h],by unfold q2V;rw[qt h]⟩,fun h=>⟨by unfold q1x;rw[qr (by rw[h];decide),hO],by unfold q2V;rw[qr (by rw[h];decide)]⟩⟩;unfold q2W;obtain⟨CO,hCO⟩:∃CO,CO=q1x e F r:=⟨_,rfl⟩;obtain⟨KO,hKO⟩:∃KO,KO=q2V e F r:=⟨_,rfl⟩;rw[<-hCO,<-hKO]at HCO⊢;obtain⟨R,hR⟩:∃R,R=dZ e F r:=⟨_,rfl⟩;rw[<-hR]at HRT HCO;clear he hr hn hm hbx hb1 hb2 hsA hZ hO hCO hKO hR;cases R with
 |false=>
  obtain⟨hc1,hk1⟩:=HCO.o.2 rfl;subst hc1 hk1;go_enter func197,ntmps197
  go_upto_region 3 with(first
   |(refine aH rfl 209 _ rfl w.heap.size 0 3 rfl _ _ (o8 HBX.o) rfl underlying209 rfl (by kernel_rfl) ?_)
   |((with_reducible go_at_call 202);refine HRT.o.mono ?_;rintro en w1 ⟨rfl,x1,rfl⟩))
  have HE1:=qa (aD (((w.alloc (.cells #[.slice oe n ce,.int .i64 F,.slice orr m cr] 209)).alloc (.cells Z 37)).alloc (.cells Z 37)) x1);have qf5:=qa (HB2.o.up HE1.o);have qc2:=qa (HB1.o.up HE1.o);have HA1:=qa (HA.o.trans (HE1.o.mono HA.o.size));clear HE1 HB2 HB1 HA HBX hz;generalize ext (((w.alloc (.cells #[.slice oe n ce,.int .i64 F,.slice orr m cr] 209)).alloc (.cells Z 37)).alloc (.cells Z 37)) x1=w1 at*;obtain⟨B,hgB,hsB,hB⟩:=qf5.o.open;have HBA:=qa (qW List.toArray hB);clear hB
  go_wp2_with(first
   |(refine oX rfl 37 256 _ rfl (w.heap.size+2) rfl B hsB hgB _ underlying37 rfl (by kernel_rfl) ?_)
   |(refine kT rfl 37 256 _ _ rfl (w.heap.size+1) rfl CO CO (qW Value.agg HBA.o) HOL.o (by kernel_rfl) qc2.o ?_;intro w2 hb2 hg2;have HB4:=qa hb2;have HG2:=qa hg2;clear hb2 hg2))
  refine aX (s:=2) (b:=3) (ad:=⟨w.heap.size+1,0,none⟩) (x:=.agg (ints CO).toArray) (y:=.int .i64 0) rfl rfl rfl rfl (HB4.o.load _ underlying37 rfl (by kernel_rfl)) ?_;exact⟨rfl,HA1.o.grown HG2.o HA1.o.size (fun k hk=>by cases hk;omega)⟩
 |true=>
  have HC1:=qa (HCO.o.1 rfl).1;have HK1:=qa (HCO.o.1 rfl).2;clear HCO;go_enter func197,ntmps197
  go_upto_region 4 with(first
   |(refine aH rfl 209 _ rfl w.heap.size 0 3 rfl _ _ (o8 HBX.o) rfl underlying209 rfl (by kernel_rfl) ?_)
   |((with_reducible go_at_call 202);refine HRT.o.mono ?_;rintro en w1 ⟨rfl,x1,rfl⟩))
  have HE1:=qa (aD (((w.alloc (.cells #[.slice oe n ce,.int .i64 F,.slice orr m cr] 209)).alloc (.cells Z 37)).alloc (.cells Z 37)) x1);have qf5:=qa (HB2.o.up HE1.o);have qc2:=qa (HB1.o.up HE1.o);have qc0:=qa (HBX.o.up HE1.o);have HA1:=qa (HA.o.trans (HE1.o.mono HA.o.size));have hs1:=HE1.o.size;rw[hs3]at hs1;clear HE1 HB2 HB1 HA HBX hz HRT hs3;generalize ext (((w.alloc (.cells #[.slice oe n ce,.int .i64 F,.slice orr m cr] 209)).alloc (.cells Z 37)).alloc (.cells Z 37)) x1=w1 at*;have HST:=qa (qa0 (HH.o.up HA1.o) hw ht);clear hw ht
  go_upto_region 6 with(first
   |(refine aH rfl 209 _ rfl w.heap.size 0 3 rfl _ _ (o8 qc0.o) rfl underlying209 rfl (by kernel_rfl) ?_)
   |((with_reducible go_at_call 203);refine HST.o.mono ?_;rintro en w2 ⟨u,rfl,hown,qbe⟩;have hsl:=hown.sl;(obtain⟨ou,cu,bu,fu,rfl,hdu,hcu⟩:=hsl);rw[qy]at hdu hcu⊢;have HDU:=qa hdu;have qi4:=qa hcu;have HOW:=qa hown;have HE2:=qa qbe;clear hown qbe hdu hcu))
  have hdu:=HDU.o;have hcu:=qi4.o;have HFB:Hid (∀x,w2.grownBy x (some (w.heap.size+2))->Below w.heap.size w x):=qa (fun x hx=>(HA1.o.trans (HE2.o.mono HA1.o.size)).grown hx (by have:=HA1.o.size;have:=HE2.o.size;omega) (fun k hk=>by cases hk;omega));have qeA:=qa (qf5.o.up HE2.o);have HR2:Hid (∀x,w2.grownBy x (some (w.heap.size+2))->tH x 37 256 (w.heap.size+1) O):=qa (fun x hx=>(qc2.o.up HE2.o).keep hx (by intro hh;injection hh with hh;omega));have hs2:w.heap.size+3<=w2.heap.size:=by have:=HE2.o.size;omega
  clear qc0 qc2 qf5 HA1 HE2 HH HST;generalize hSS:O1 e=S at*;have qgW:=gY (P:=prog) 4 253 63 underlying253 (by kernel_rfl) hdu
  have HCU:Hid (∀i,i<S.length->∀c,c<4->w2.cell? ⟨bu,fu+i*4+c,none⟩=some ((#[.int .u64 (S.getD i eA).a,.int .u64 (S.getD i eA).b,.int .u64 (S.getD i eA).c,.int .u64 (S.getD i eA).d]:Array Value).getD c undef)):=qa (fun i hi c hc=>by
   rw[hcu i hi c hc];have e1:(S.map U2).getD i []=U2 (S.getD i eA):=by simp[List.getD,hi]
   rw[e1];unfold U2;simp[List.getD,qO])
  have HBU:Hid (0<S.length->w.heap.size+3<=bu/\bu<w2.heap.size):=qa (fun h0=>⟨by have h1:=HOW.o.lt bu (by rw[hdu.hat h0];rfl);omega,hdu.hblk h0⟩);have hmm:=@run_makeMap prog;have hmu:=hdu.len;have HSS:=qa hSS;obtain⟨N,hN⟩:∃N,N=S.length:=⟨_,rfl⟩;have HN:=qa hN;rw[<-hN]at qgW HCU HBU hmu⊢;clear HDU qi4 HOW hs1 hdu hcu hSS hN
  go_loopg [5,20] N (fun gk nv iv wr=>∃(i:Nat) (cl:List Int),iv=.int .i64 i/\i<=N/\nv=.int .i64 ((kM (S.take i)).length:Nat)/\tH wr 37 256 (w.heap.size+2) cl/\q1B (S.take i) cl/\w2.grownBy wr (some (w.heap.size+2))/\gk=N-i)
  case atStart=>exact⟨0,O,rfl,qd _,by rw[List.take_zero,q2J.2];rfl,qeA.o,HON.o,cW _ _,rfl⟩
  case round=>
   obtain⟨i,cl,rfl,hi,rfl,hbx,hcl,hgr,rfl⟩:=hrel;have qcE:=qa hbx;have HCL:=qa hcl;have HG:=qa hgr;clear hbx hcl hgr qeA;by_cases hlt:i<N
   ·obtain⟨hb3,hb4⟩:=HBU.o (by omega)
    have hgc:=fun q (hq:q<4)=>HG.o.cell (HCU.o i hlt q hq) (by intro hh;injection hh with hh;simp at hh;omega);have HCD:=qa hgc;have qcv:bu<wr.heap.size:=by have:=HG.o.size;omega
    have qbi:∀W,(Instr.indexAt 253 (.slice ou N cu) (.int .i64 i)).run prog W=.ok (.pointer (some ⟨bu,fu+i*4,none⟩)) W:=fun W=>by simpa using qgW W .i64 i (by omega) (by omega)
    obtain⟨x,hx⟩:∃x,x=S.getD i eA:=⟨_,rfl⟩;have HTK:Hid (S.take (i+1)=S.take i++[x]):=qa (by rw[hx];exact aY S i eA (by have:=HN.o;omega));rw[<-hx]at HCD;generalize S.take i=l at*;clear hgc hx hb3 hb4
    have HQ0:Hid (∀q,q<4->((wr.alloc (.cells #[.int .u64 x.a,.int .u64 x.b,.int .u64 x.c,.int .u64 x.d] 63)).alloc (.map #[] 0)).cell? ⟨wr.heap.size,q,none⟩=some (.int .u64 (mJ x q))):=qa (fun q hq=>by
     rw[(aA (wr.alloc (.cells #[.int .u64 x.a,.int .u64 x.b,.int .u64 x.c,.int .u64 x.d] 63)) (.map #[] 0)).cell (p:=⟨wr.heap.size,q,none⟩) (by simp),World.cell?_alloc_new];unfold mJ;rcases(show q=0\/q=1\/q=2\/q=3 by omega)with rfl|rfl|rfl|rfl<;>rfl)
    have HM0:Hid (yT prog 257 ((wr.alloc (.cells #[.int .u64 x.a,.int .u64 x.b,.int .u64 x.c,.int .u64 x.d] 63)).alloc (.map #[] 0)) (wr.heap.size+1) []):=qa (by
     have:=yT.made prog 257 (wr.alloc (.cells #[.int .u64 x.a,.int .u64 x.b,.int .u64 x.c,.int .u64 x.d] 63));simpa using this)
    have hl2:Below wr.heap.size wr ((wr.alloc (.cells #[.int .u64 x.a,.int .u64 x.b,.int .u64 x.c,.int .u64 x.d] 63)).alloc (.map #[] 0)):=aJ;have qic:=qa (qcE.o.up hl2);have HG0:=qa (aC HG.o (aE hl2 _));have hz0:((wr.alloc (.cells #[.int .u64 x.a,.int .u64 x.b,.int .u64 x.c,.int .u64 x.d] 63)).alloc (.map #[] 0)).heap.size=wr.heap.size+2:=by simp
    have hws:=HG.o.size;clear hl2 qcE HG
    go_wp2_with(refine aH rfl 63 _ rfl bu (fu+i*4) 4 rfl _ _ HCD.o rfl underlying63 rfl (by kernel_rfl) ?_)
    generalize hwo:((wr.alloc (.cells #[.int .u64 x.a,.int .u64 x.b,.int .u64 x.c,.int .u64 x.d] 63)).alloc (.map #[] 0))=wo at*;obtain⟨mb,hmb⟩:∃mb,mb=wr.heap.size+1:=⟨_,rfl⟩;obtain⟨pb,hpb⟩:∃pb,pb=wr.heap.size:=⟨_,rfl⟩;rw[<-hmb]at HM0⊢;rw[<-hpb]at HQ0⊢;have HPM:Hid (pb<mb/\mb<wo.heap.size/\w2.heap.size<=pb):=qa (by omega);clear hwo hmb hpb hz0 HCD qbi qcv hmm hws
    go_loopg [25] 256 (fun gk cv wr=>∃(c:Nat) (cl:List Int),cv=.int .i64 c/\c<=256/\tH wr 37 256 (w.heap.size+2) cl/\A5 l x c cl/\yT prog 257 wr mb ((bL (rJ l x) (kZ.take c)).map (kC l x))/\(∀q,q<4->wr.cell? ⟨pb,q,none⟩=some (.int .u64 (mJ x q)))/\w2.grownBy wr (some (w.heap.size+2))/\gk=256-c)
    case atStart=>exact⟨0,cl,rfl,qd _,qic.o,W7 HCL.o,by rw[List.take_zero];exact HM0.o,HQ0.o,HG0.o,rfl⟩
    case round=>
     obtain⟨c,cl,rfl,hc,hbx,hcl,hmp,hq,hgr,rfl⟩:=hrel;have qcE:=qa hbx;have HCM:=qa hcl;have HMP:=qa hmp;have HQ:=qa hq;have HG:=qa hgr;have qiH:=hmp.lt;clear hbx hcl hmp hq hgr qic HM0 HQ0 HG0 HCL;by_cases qbo:c<256
     ·have hcI:(c:Int)<256:=by omega
      have d0:decide ((c:Int)<256)=true:=qw hcI
      have hcc:wr.cell? ⟨w.heap.size+1+1,c,none⟩=some (.int .i64 (lH l c:Nat)):=by
       have:=qcE.o.cell (c:=c) qbo;rw[q31 HCM.o qbo]at this;exact this
      have hqq:=HQ.o (c/64) (by omega);have hpw:w.heap.size+1+1<wr.heap.size:=qcE.o.lt;have qgJ:pb<wr.heap.size:=by have:=HPM.o;omega
      have qkC:c%64<64:=jT _ (by decide);have ql5:c/64<4:=by omega
      have h1:=q0c;have HBN:Hid (mJ x (c/64)/2^(c%64)%2=q2Z x c):=qa rfl;obtain⟨lk,hlk⟩:=q6Z (l:=l) (x:=x) qbo;have hkC:kC l x c=.agg #[.int .i64 (lH l c:Nat),.int .u64 (q2Z x c)]:=rfl;have HSP:=qa (q1A (l:=l) (x:=x) qbo (F:=bL (rJ l x) (kZ.take c)) rfl);have hkz:lH l c<256:=qe (pD l qbo) (uF l);generalize hFF:bL (rJ l x) (kZ.take c)=Fq at*
      have HFL:Hid (Fq.length<=256):=qa (by
       have:=tW (rJ l x) (kZ.take c);rw[qT,sM,hFF]at this;omega)
      have HKV:=qa hkC;have HLK:=qa hlk;clear hFF hkC hlk;generalize lH l c=kc at*;rw[HKV.o]at HSP HLK;generalize mJ x (c/64)=v at*;generalize q2Z x c=bt at*;have hl7:Below wr.heap.size wr (wr.alloc (.cells #[.int .i64 kc,.int .u64 bt] 257)).drew:=aJ
      have HQK:Hid (∀q,q<2->(wr.alloc (.cells #[.int .i64 kc,.int .u64 bt] 257)).drew.cell? ⟨wr.heap.size,0+q,none⟩=some ((#[.int .i64 kc,.int .u64 bt]:Array Value).getD q undef)):=qa (fun q hq=>by
       rw[qE];show(wr.alloc (.cells #[.int .i64 kc,.int .u64 bt] 257)).cell? ⟨wr.heap.size,q,none⟩=_;rw[World.cell?_alloc_new];rcases(show q=0\/q=1 by omega)with rfl|rfl<;>rfl)
      have HL7:=qa hl7;clear hl7;go_wp2;refine aT [0,1,2,3,4,5,6,7,8,9,10,11,12] [13] [14] (by kernel_rfl) (by kernel_rfl) ?_;simp only[pk]
      repeat(go_big_quiet_step (fail))
      refine wpQuiet_nil ?_
      (unfold aG;go_wp2;refine⟨aI aJ,?_⟩)
      unfold aG;rw[HBN.o];unfold aG;go_wp2;refine⟨trivial,?_⟩;unfold aG;have HM7:=qa (HMP.o.up HL7.o);have HB7:=qa (qcE.o.up HL7.o);have HG7:=qa (aC HG.o (aE HL7.o _));have HQ7:Hid (∀q,q<4->(wr.alloc (.cells #[.int .i64 kc,.int .u64 bt] 257)).drew.cell? ⟨pb,q,none⟩=some (.int .u64 (mJ x q))):=qa (fun q hq=>(HL7.o.cell (p:=⟨pb,q,none⟩) qgJ).trans (HQ.o q hq));have hs7:(wr.alloc (.cells #[.int .i64 kc,.int .u64 bt] 257)).drew.heap.size=wr.heap.size+1:=by simp
      clear hcc hqq hpw HMP qcE HG HQ HL7;generalize (wr.alloc (.cells #[.int .i64 kc,.int .u64 bt] 257)).drew=w7 at*;obtain⟨pk,hpk⟩:∃pk,pk=wr.heap.size:=⟨_,rfl⟩;rw[<-hpk]at HQK⊢;have qkw:pk<w7.heap.size:=by omega
      have qkv:pb<pk:=by omega
      have qku:mb<pk:=by omega
      clear hpk hs7 qgJ qiH;rcases HSP.o with⟨ix,hx1,hx2,hx3⟩|⟨hx1,hx2,hx3⟩
      ·obtain⟨e1,e2⟩:=HM7.o.lookOld sS underlying255 HLK.o hx1
       have HX2:=qa hx2;have HX3:=qa hx3;have hcc:w7.cell? ⟨w.heap.size+1+1,c,none⟩=some (.int .i64 (cl.getD c 0)):=HB7.o.cell qbo;have hff:w7.frozen? ⟨w.heap.size+1+1,c,none⟩=false:=HB7.o.free c;have hpw:w.heap.size+1+1<w7.heap.size:=HB7.o.lt;have HST:=qa (HB7.o.set c ix);generalize cl.getD c 0=y0 at*;clear hx1 hx2 hx3
       go_wp2_with(refine aH rfl 257 _ rfl pk 0 2 rfl _ _ HQK.o rfl underlying257 rfl (by kernel_rfl) ?_)
       go_roundg (256-(c+1))
       case measure=>omega
       case rel=>
        have hgs:=HST.o.2;refine⟨c+1,cl.set c ix,by go_num,by omega,HST.o.1,A6 HCM.o qbo HX3.o,?_,fun q hq=>hgs.cell (HQ7.o q hq) (by intro hh;injection hh with hh;have:=HPM.o;simp at hh;omega),aC HG7.o hgs,rfl⟩;rw[HX2.o];exact HM7.o.keep hgs (by intro hh;injection hh with hh;have:=HPM.o;omega)
      have e1:=HM7.o.lookNew sS underlying255 (sP w7) HLK.o hx1;obtain⟨w8,e2,hm8,hg8⟩:=HM7.o.put sS underlying255 HLK.o hx1;have hmap:Fq.map (kC l x)++[Value.agg #[.int .i64 kc,.int .u64 bt]]=(Fq++[c]).map (kC l x):=by rw[qD,qF,HKV.o];rfl
      rw[qy]at e2;rw[hmap]at hm8;have e3:=(hm8.lookOld sS underlying255 (i:=Fq.length) HLK.o (by rw[<-hmap,<-qy (f:=kC l x),jf (qb _),Nat.sub_self];rfl)).2;have HX2:=qa hx2;have HX3:=qa hx3;have HM8:=qa hm8;have HB8:=qa (HB7.o.keep hg8 (by intro hh;injection hh with hh;have:=HPM.o;omega));have qjO:=qa (fun q hq=>hg8.cell (HQK.o q hq) (by intro hh;injection hh with hh;simp at hh;omega));have HQ8:=qa (fun q hq=>hg8.cell (HQ7.o q hq) (by intro hh;injection hh with hh;have:=HPM.o;simp at hh;omega));have HG8:=qa (q2I HG7.o hg8 (by have:=HPM.o;omega));have hcc:w8.cell? ⟨w.heap.size+1+1,c,none⟩=some (.int .i64 (cl.getD c 0)):=HB8.o.cell qbo;have hff:w8.frozen? ⟨w.heap.size+1+1,c,none⟩=false:=HB8.o.free c;have hpw:w.heap.size+1+1<w8.heap.size:=HB8.o.lt;have HST:=qa (HB8.o.set c Fq.length);have qkt:pk<w8.heap.size:=by have:=hg8.size;omega
      generalize cl.getD c 0=y0 at*;have hlen:=HM7.o.len underlying255 3;rw[qy]at hlen;clear hx1 hx2 hx3 hm8 hg8 hmap
      go_wp2_with(first|(refine aH rfl 257 _ rfl pk 0 2 rfl _ _ HQK.o rfl underlying257 rfl (by kernel_rfl) ?_)|(refine aH rfl 257 _ rfl pk 0 2 rfl _ _ qjO.o rfl underlying257 rfl (by kernel_rfl) ?_))
      go_roundg (256-(c+1))
      case measure=>omega
      case rel=>
       have hgs:=HST.o.2;refine⟨c+1,cl.set c Fq.length,by go_num,by omega,HST.o.1,A6 HCM.o qbo HX3.o,?_,fun q hq=>hgs.cell (HQ8.o q hq) (by intro hh;injection hh with hh;have:=HPM.o;simp at hh;omega),aC HG8.o hgs,rfl⟩;rw[HX2.o];exact HM8.o.keep hgs (by intro hh;injection hh with hh;have:=HPM.o;omega)
     have hce:c=256:=by omega
     subst hce;have htk:kZ.take 256=kZ:=qC (by rw[sM];exact qb _);have HLEN:Hid (((bL (rJ l x) (kZ.take 256)).map (kC l x)).length=(kM (l++[x])).length):=qa (by rw[qy,htk,(q0f l x).1]);have hlen:=HMP.o.len underlying255 3;rw[HLEN.o]at hlen;clear htk;go_wp2
     go_roundg (N-(i+1))
     case measure=>omega
     case rel=>exact⟨i+1,cl,by go_num,by omega,by rw[HTK.o],qcE.o,by rw[HTK.o];exact q1C HCM.o,HG.o,rfl⟩
   have hie:i=N:=by omega
   subst hie;have htk:S.take i=S:=qC (by have:=HN.o;omega);have HKO:Hid ((kM (S.take i)).length=KO):=qa (by rw[htk,HK1.o,<-HSS.o,(q0h e).1];rfl);have HCA:Hid (cl=gD e):=qa (q33 (by rw[HSS.o,<-htk];exact HCL.o));rw[HKO.o];obtain⟨B,hgB,hsB,hB⟩:=qcE.o.open;have HBA:Hid (B=(ints CO).toArray):=qa (by rw[HC1.o,<-HCA.o];exact qW List.toArray hB);have HR:=qa (HR2.o _ HG.o);have qiW:wr.heap[w.heap.size+1+1]? =some (.cells B 37 (0,0)):=hgB;clear hB htk
   go_wp2_with(first
    |(refine oX rfl 37 256 _ rfl (w.heap.size+1+1) rfl B hsB qiW _ underlying37 rfl (by kernel_rfl) ?_)
    |(refine kT rfl 37 256 _ _ rfl (w.heap.size+1) rfl O CO (qW Value.agg HBA.o) (by rw[HC1.o];exact sN e) (by kernel_rfl) HR.o ?_;intro w3 hb2 hg2;have HB4:=qa hb2;have HG2:=qa hg2;clear hb2 hg2))
   refine aX (s:=2) (b:=3) (ad:=⟨w.heap.size+1,0,none⟩) (x:=.agg (ints CO).toArray) (y:=.int .i64 KO) rfl rfl rfl rfl (HB4.o.load _ underlying37 rfl (by kernel_rfl)) ?_;exact⟨rfl,(HFB.o _ HG.o).grown HG2.o (HFB.o _ HG.o).size (fun k hk=>by cases hk;omega)⟩
theorem oF{α:Type} [DecidableEq α]{l ks:List α}{x:α}(h:x∈l):x∈l.foldl aW ks:=by
 induction l generalizing ks with
 |nil=>cases h
 |cons a l ih=>
  rw[qH];rcases List.mem_cons.1 h with rfl|h
  ·obtain⟨k,hk⟩:=cR l (aW ks x)
   rw[hk];exact qZ _ (cN.2 (.inr rfl))
  exact ih h
theorem q36{β:Type} [DecidableEq β]{l:List β}(hnd:l.Nodup){k:Nat}{x:β}(hx:l[k]? =some x):idx l x=k:=by
 obtain⟨hkl,h4⟩:=List.getElem?_eq_some_iff.1 hx;have hmm:x∈l:=jx hx;have h2:=gU hmm;have h3:=fX hmm;rcases Nat.lt_trichotomy (idx l x) k with h|h|h
 ·exact((List.pairwise_iff_getElem.1 hnd _ k h3 hkl h) (h2.trans h4.symm)).elim
 ·exact h
 exact((List.pairwise_iff_getElem.1 hnd k _ hkl h3 h) (h4.trans h2.symm)).elim
theorem q1D{e:List (List Ed)}{k:Nat}(hk:k<(aZ e).length):uG e ((aZ e).getD k 0)=k/\(aZ e).getD k 0<256/\∀q,q<(aZ e).getD k 0->uG e q≠k:=by
 obtain⟨c,hc⟩:∃c,c=(aZ e).getD k 0:=⟨_,rfl⟩;rw[<-hc];have hm:c∈aZ e:=by rw[hc];exact dH _ _ _ hk
 have hgk:(aZ e)[k]=c:=by
  rw[hc];generalize aZ e=H at*;simp[List.getD,hk]
 have hg:(aZ e)[k]? =some c:=by rw[qv hk,hgk]
 have qfI:c<256:=zZ hm;have hmap:(aZ e).map (nI (bT e))=eW (kZ.map (nI (bT e))):=kV _ _;have hnd:((aZ e).map (nI (bT e))).Nodup:=by rw[hmap];exact tN _
 have qfy:((aZ e).map (nI (bT e)))[k]? =some (nI (bT e) c):=by rw[qQ,hg,jM]
 have h1:uG e c=idx ((aZ e).map (nI (bT e))) (nI (bT e) c):=rfl;have hcls:uG e c=k:=by rw[h1];exact q36 hnd qfy
 refine⟨hcls,qfI,fun q hq e1=>?_⟩
 have hqb:q∈kZ.take (q+1):=by
  have:kZ.take (q+1)=kZ.take q++[q]:=lE (z:=0) (by rw[sM];omega) (G5 (by omega));rw[this];simp
 have hlt:=E4 (f:=nI (bT e)) hqb
 have hpl:iV (nI (bT e)) (kZ.take (q+1)) q=uG e q:=by
  have:=lQ (f:=nI (bT e)) (m:=kZ.drop (q+1)) hqb;rw[j5]at this;exact this.symm
 rw[hpl,e1]at hlt;obtain⟨tl,htl⟩:=sE (nI (bT e)) (kZ.take (q+1)) (kZ.drop (q+1));rw[j5]at htl
 have hg2:(bL (nI (bT e)) (kZ.take (q+1)))[k]? =some c:=by
  have h0:(aZ e)=bL (nI (bT e)) (kZ.take (q+1))++tl:=htl;rw[h0,qS hlt]at hg;exact hg
 have h5:=kW (jx hg2)
 have h6:kZ.take (q+1)=List.range (q+1):=by
  unfold kZ;rw[List.take_range,show min (q+1) 256=q+1 by omega]
 rw[h6,a6]at h5;omega
def uI(e:List (List Ed))(c:Nat)(l:List Nat):Prop:=l.length=(aZ e).length/\∀k,k<l.length->l.getD k 0<256/\∀q,c<=q->q<256->uG e q=k->(∀p,c<=p->p<q->uG e p≠k)->l.getD k 0=q
theorem z7(e:List (List Ed)):uI e 256 (List.replicate (aZ e).length 0):=by
 refine⟨qL,fun k hk=>⟨?_,fun q h1 h2 _ _=>absurd h2 (by omega)⟩⟩;rw[qq,jQ];split<;>decide
theorem q74(e:List (List Ed)){c:Nat}(h:c<256):uG e c<(aZ e).length:=pD _ h
theorem q1E{e:List (List Ed)}{c:Nat}{l:List Nat}(h:uI e (c+1) l)(hc:c<256):uI e c (l.set (uG e c) c):=by
 refine⟨by rw[j8];exact h.1,fun k hk=>?_⟩;rw[j8]at hk;obtain⟨h1,h2⟩:=h.2 k hk;by_cases hkc:uG e c=k
 ·rw[hkc,d8 hk]
  refine⟨hc,fun q hq hq2 hqk hall=>?_⟩;rcases Nat.lt_or_eq_of_le hq with h3|h3
  ·exact absurd hkc (hall c (qb _) h3)
  exact h3
 rw[dC hkc];refine⟨h1,fun q hq hq2 hqk hall=>h2 q ?_ hq2 hqk fun p hp hp2=>hall p (by omega) hp2⟩;rcases Nat.lt_or_eq_of_le hq with h3|h3
 ·exact h3
 rw[h3]at hkc;exact absurd hqk hkc
theorem q37{e:List (List Ed)}{l:List Nat}(h:uI e 0 l):l=aZ e:=by
 refine jS h.1 fun k h1 h2=>?_;obtain⟨h3,h4,h5⟩:=q1D h2;have h6:=(h.2 k h1).2 _ (qd _) h4 h3 (fun p _ hp=>h5 p hp);simpa[List.getD,h1,h2]using h6
def OkL(n:Nat)(L:List Nat):Prop:=L.length<=n/\∀s∈L,s<n
theorem q0v(n:Nat)(P:Nat->Prop):OkL n (nO n P):=⟨q0a n P,fun _ hs=>(gC.1 hs).1⟩
theorem q0w(e:List (List Ed))(F:Int)(r st:List Int)(c:Nat):OkL e.length (mL e F r st c):=by
 unfold mL pQ;split
 ·exact q0v _ _
 exact⟨qd _,fun _ hs=>by cases hs⟩
theorem q38(e:List (List Ed))(F:Int)(r st:List Int):OkL e.length (O0 e F r st):=by
 unfold O0;split
 ·exact q0v _ _
 exact⟨qd _,fun _ hs=>by cases hs⟩
theorem q39(e:List (List Ed))(F:Int)(r:List Int)(L:List Nat):∀x∈bW e F r L,OkL e.length x:=by
 intro x hx;obtain⟨c,-,rfl⟩:=List.mem_map.1 hx;exact q0w _ _ _ _ _
theorem q0x{n:Nat}{l R:List (List Nat)}(hR:∀x∈R,OkL n x)(hl:∀x∈l,OkL n x):∀x∈l.foldl aW R,OkL n x:=by
 induction l generalizing R with
 |nil=>exact hR
 |cons a l ih=>
  rw[qH];refine ih (fun x hx=>?_) (fun x hx=>hl x (qU _ hx));rcases cN.1 hx with h|rfl
  ·exact hR x h
  exact hl x je
theorem X0{n:Nat}(hn:n<=3000){R:List (List Nat)}(h:∀x∈R,OkL n x):q2R R:=fun L hL=>⟨by have:=(h L hL).1;omega,fun _ hs=>by have:=(h L hL).2 _ hs;omega⟩
structure q4v(e:List (List Ed))(F:Int)(r:List Int)(i:Nat)(R:List (List Nat)):Prop where
 le:i<=R.length
 len:R.length<=1000
 go:goS (bW e F r) [] (1001-i) i R=lI e F r
 ok:∀x∈R,OkL e.length x
 mem:∀k,k<i->∀x∈bW e F r (R.getD k []),x∈R
noncomputable def nK(e:List (List Ed))(F:Int)(r:List Int)(R:List (List Nat))(i:Nat):List (List Int):=(R.take i).map (fF e F r R)
def fP(r:List Int)(R:List (List Nat))(i:Nat):List Int:=(R.take i).map (lJ r)
theorem q3a(e:List (List Ed))(F:Int)(r:List Int):q4v e F r 0 [O0 e F r [F]]:=
 ⟨qd _,by simp,rfl,fun x hx=>by rw[List.mem_singleton.1 hx];exact q38 _ _ _ _,fun k hk=>absurd hk (qz k)⟩
noncomputable def oG(e:List (List Ed))(F:Int)(r:List Int)(i:Nat)(R:List (List Nat)):List (List Nat):=(bW e F r (R.getD i [])).foldl aW R
theorem q4v.big{e:List (List Ed)}{F:Int}{r:List Int}{i:Nat}{R:List (List Nat)}(h:q4v e F r i R)(hi:i<R.length)(hb:1000<(oG e F r i R).length):lI e F r=none:=by
 have h1:=h.go;have h2:=h.len;rw[show 1001-i=(1000-i)+1 by omega]at h1;unfold goS at h1;rw[qt hi]at h1;have h3:1000<((bW e F r (R.getD i [])).foldl aW R).length:=hb;rw[qt h3]at h1;exact h1.symm
theorem q4v.next{e:List (List Ed)}{F:Int}{r:List Int}{i:Nat}{R:List (List Nat)}(h:q4v e F r i R)(hi:i<R.length)(hb:(oG e F r i R).length<=1000):
  q4v e F r (i+1) (oG e F r i R)/\nK e F r (oG e F r i R) (i+1)=nK e F r R i++[fF e F r (oG e F r i R) (R.getD i [])]/\fP r (oG e F r i R) (i+1)=fP r R i++[lJ r (R.getD i [])]:=by
 obtain⟨k,hk⟩:=cR (bW e F r (R.getD i [])) R;have hk':oG e F r i R=R++k:=hk;have qfy:∀j,j<R.length->(oG e F r i R).getD j []=R.getD j []:=fun j hj=>by rw[hk',bS hj]
 have htk:(oG e F r i R).take (i+1)=R.take i++[R.getD i []]:=by
  rw[hk',List.take_append_of_le_length (by omega)];exact aY R i [] hi
 refine⟨⟨by rw[hk',qi];omega,hb,?_,q0x h.ok (q39 _ _ _ _),fun j hj x hx=>?_⟩,?_,?_⟩
 ·have h1:=h.go
  have h2:=h.len;rw[show 1001-i=(1000-i)+1 by omega]at h1;unfold goS at h1;have h3:¬1000<((bW e F r (R.getD i [])).foldl aW R).length:=by have:(oG e F r i R).length<=1000:=hb;unfold oG at this;omega
  rw[qt hi,qr h3]at h1;rw[show 1001-(i+1)=1000-i by omega];exact h1
 ·rw[qfy j (by omega)]at hx
  rcases Nat.lt_succ_iff_lt_or_eq.1 hj with h1|rfl
  ·rw[hk'];exact qZ _ (h.mem j h1 x hx)
  exact oF hx
 ·unfold nK
  rw[htk,qD,qF,jq];refine qW (· ++[fF e F r (oG e F r i R) (R.getD i [])]) (List.map_congr_left fun L hL=>?_);obtain⟨j,hj,rfl⟩:=List.mem_iff_getElem.1 hL;rw[qT]at hj;unfold fF;refine List.map_congr_left fun x hx=>?_
  have hxR:x∈R:=h.mem j (by omega) x (by
   have:R.getD j []=(R.take i)[j]:=by simp[List.getD,show j<R.length by omega]
   rw[this];exact hx)
  rw[hk',cV hxR]
 unfold fP;rw[htk,qD,qF,jq]
theorem q4v.done{e:List (List Ed)}{F:Int}{r:List Int}{i:Nat}{R:List (List Nat)}(h:q4v e F r i R)(hi:¬i<R.length):lI e F r=some R/\nK e F r R i=(rS e F r R).next/\fP r R i=(rS e F r R).rules:=by
 have h1:=h.go;have h2:=h.len;have h3:=h.le;rw[show 1001-i=(1000-i)+1 by omega]at h1;unfold goS at h1;rw[qr hi]at h1;have htk:R.take i=R:=qC (by omega);exact⟨h1.symm,by unfold nK;rw[htk];rfl,by unfold fP;rw[htk];rfl⟩
noncomputable def rO(e:List (List Ed))(F:Int)(r:List Int)(i:Nat)(R:List (List Nat))(j:Nat):List (List Nat):=((bW e F r (R.getD i [])).take j).foldl aW R
noncomputable def lS(e:List (List Ed))(F:Int)(r:List Int)(i:Nat)(R:List (List Nat))(j:Nat):List Int:=((bW e F r (R.getD i [])).take j).map (fun x=>(idx (rO e F r i R j) x:Int))++List.replicate ((aZ e).length-j) 0
theorem q0y(e:List (List Ed))(F:Int)(r:List Int)(i:Nat)(R:List (List Nat)):rO e F r i R 0=R/\lS e F r i R 0=List.replicate (aZ e).length 0:=⟨by simp[rO],by simp[lS]⟩
theorem q1F(e:List (List Ed))(F:Int)(r:List Int)(i:Nat)(R:List (List Nat)){j:Nat}(hj:j<=(aZ e).length):(lS e F r i R j).length=(aZ e).length:=by
 unfold lS;rw[qi,qy,qT,sO,qL];omega
theorem q59(e:List (List Ed))(F:Int)(r:List Int)(i:Nat)(R:List (List Nat)){j:Nat}(hj:j<(aZ e).length):
  rO e F r i R (j+1)=aW (rO e F r i R j) (mL e F r (nz (R.getD i [])) ((aZ e).getD j 0))/\
  lS e F r i R (j+1)=(lS e F r i R j).set j (idx (aW (rO e F r i R j) (mL e F r (nz (R.getD i [])) ((aZ e).getD j 0))) (mL e F r (nz (R.getD i [])) ((aZ e).getD j 0)):Nat):=by
 have hl:j<(bW e F r (R.getD i [])).length:=by rw[sO];exact hj
 have hx:(bW e F r (R.getD i [])).getD j []=mL e F r (nz (R.getD i [])) ((aZ e).getD j 0):=by
  unfold bW;simp[List.getD,hj]
 have htk:(bW e F r (R.getD i [])).take (j+1)=(bW e F r (R.getD i [])).take j++[mL e F r (nz (R.getD i [])) ((aZ e).getD j 0)]:=by
  rw[<-hx];exact aY _ j [] hl
 have h1:rO e F r i R (j+1)=aW (rO e F r i R j) (mL e F r (nz (R.getD i [])) ((aZ e).getD j 0)):=by
  unfold rO;rw[htk,qV]
  rfl
 refine⟨h1,?_⟩;unfold lS;rw[<-h1,htk,qD,qF,jq];have hml:(((bW e F r (R.getD i [])).take j).map (fun x=>(idx (rO e F r i R j) x:Int))).length=j:=by rw[qy,qT];omega
 have hmap:((bW e F r (R.getD i [])).take j).map (fun x=>(idx (rO e F r i R (j+1)) x:Int))=((bW e F r (R.getD i [])).take j).map (fun x=>(idx (rO e F r i R j) x:Int)):=by
  refine List.map_congr_left fun x hx=>?_;have hxm:x∈rO e F r i R j:=oF hx;rw[h1,uZ hxm]
 rw[hmap,List.set_append_right _ _ (by omega),hml,Nat.sub_self,qj];refine qW _ ?_;rw[show(aZ e).length-j=((aZ e).length-(j+1))+1 by omega,List.replicate_succ]
 rfl
theorem q75(e:List (List Ed))(F:Int)(r:List Int)(i:Nat)(R:List (List Nat)):rO e F r i R (aZ e).length=oG e F r i R/\lS e F r i R (aZ e).length=fF e F r (oG e F r i R) (R.getD i []):=by
 have htk:(bW e F r (R.getD i [])).take (aZ e).length=bW e F r (R.getD i []):=qC (by rw[sO];exact qb _);have h1:rO e F r i R (aZ e).length=oG e F r i R:=by unfold rO oG;rw[htk]
 refine⟨h1,?_⟩;unfold lS fF;rw[htk,h1,Nat.sub_self];simp
theorem q8D{e:List (List Ed)}{F:Int}{r:List Int}{i:Nat}{R:List (List Nat)}(h:∀x∈R,OkL e.length x)(j:Nat):∀x∈rO e F r i R j,OkL e.length x:=
 q0x h fun x hx=>q39 e F r (R.getD i []) x (List.mem_of_mem_take hx)
theorem q76(e:List (List Ed))(F:Int)(r:List Int)(i:Nat)(R:List (List Nat))(j:Nat):∃k,rO e F r i R j=R++k:=cR _ _
theorem q3b(e:List (List Ed))(F:Int)(r:List Int)(i:Nat)(R:List (List Nat))(j:Nat)(hj:j<=256):(rO e F r i R j).length<=R.length+256:=by
 unfold rO
 have:∀(l ks:List (List Nat)),(l.foldl aW ks).length<=ks.length+l.length:=by
  intro l
  induction l with
  |nil=>intro ks;simp
  |cons a l ih=>
   intro ks;have:=ih (aW ks a);simp only[qH,qx];have h2:(aW ks a).length<=ks.length+1:=by unfold aW;split<;>simp
   omega
 have h1:=this ((bW e F r (R.getD i [])).take j) R;rw[qT]at h1;omega
end Go.Cm
namespace Go.Cm
theorem oH{α:Type} [DecidableEq α]:∀{l m:List α},l.Nodup->(∀x∈l,x∈m)->l.length<=m.length
 |[],_,_,_=>qd _
 |a::l,m,h1,h2=>by
  have h3:=List.nodup_cons.1 h1;have ha:=h2 a je;have ih:=oH (l:=l) (m:=m.erase a) h3.2 (fun x hx=>(List.mem_erase_of_ne (fun e=>h3.1 (by rw[<-e];exact hx))).2 (h2 x (qU _ hx)));rw[List.length_erase_of_mem ha]at ih;have:=List.length_pos_of_mem ha;rw[qx];omega
theorem A8{α:Type} [DecidableEq α]:∀{l ks:List α},ks.Nodup->(l.foldl aW ks).Nodup
 |[],_,h=>h
 |_::l,_,h=>A8 (l:=l) (uY h)
theorem q0z{α:Type} [DecidableEq α]{P:α->Prop}:∀{l ks:List α},(∀x∈l,P x)->(∀x∈ks,P x)->∀x∈l.foldl aW ks,P x
 |[],_,_,h=>h
 |a::l,_,hl,h=>q0z (l:=l) (fun x hx=>hl x (qU _ hx)) (fun x hx=>(cN.1 hx).elim (h x) (fun e=>e▸hl a je))
theorem q5a{α:Type} [DecidableEq α](nx:α->List α)(z:α)(M:List α)(hM:M.length<=1000)(hnx:∀L x,x∈nx L->x∈M):∀f i ls,i+f=1001->i<=ls.length->ls.Nodup->(∀x∈ls,x∈M)->∃R,goS nx z f i ls=some R:=by
 intro f
 induction f with
 |zero=>intro i ls h1 h2 h3 h4;have:=oH h3 h4;omega
 |succ f ih=>
  intro i ls h1 h2 h3 h4;unfold goS;by_cases hlt:i<ls.length
  ·rw[qt hlt]
   have h5:=A8 (l:=nx (ls.getD i z)) h3;have h6:=q0z (P:=(· ∈M)) (l:=nx (ls.getD i z)) (hnx _) h4;have h7:=oH h5 h6;rw[qr (by omega)];obtain⟨k,hk⟩:=cR (nx (ls.getD i z)) ls;exact ih (i+1) _ (by omega) (by rw[hk,qi];omega) h5 h6
  exact⟨ls,qr hlt⟩
def sB(d:Dfa)(s:Nat)(b:UInt8):Nat:=aM d s (d.cls.getD b.toNat 0).toNat
theorem q3c{d:Dfa}(hv:bZ d)(hl:d.cls.length=256)(b:UInt8):∃c:Nat,d.cls.getD b.toNat 0=c/\c<bQ d:=by
 have hb:b.toNat<256:=b.toNat_lt;have hm:d.cls.getD b.toNat 0∈d.cls:=dH _ _ _ (by omega);have hr:=wU hv hm;exact⟨(d.cls.getD b.toNat 0).toNat,by omega,by omega⟩
theorem q5b{d:Dfa}(hv:bZ d)(hl:d.cls.length=256){s:Nat}(hs:s∈dW d)(b:UInt8):sB d s b∈dW d:=by
 obtain⟨c,hc,hk⟩:=q3c hv hl b;unfold sB;rw[hc,qA];exact rE hv hs hk
theorem q3e{d:Dfa}(hv:bZ d)(hl:d.cls.length=256):∀(t:List UInt8) (s:Nat),s∈dW d->eD d (s:Nat) t=(t.foldl (sB d) s:Nat)/\t.foldl (sB d) s∈dW d
 |[],s,hs=>⟨rfl,hs⟩
 |b::t,s,hs=>by
  obtain⟨c,hc,hk⟩:=q3c hv hl b;have hr:=q5b hv hl hs b;have ih:=q3e hv hl t _ hr;refine⟨?_,ih.2⟩;rw[qH,<-ih.1];unfold eD;rw[qA]
  have e:(d.next.getD s []).getD (d.cls.getD b.toNat 0).toNat 0=(sB d s b:Nat):=by
   unfold sB;rw[hc,qA];have hcl:c<(d.next.getD s []).length:=by rw[f8 hv (iS hv hs)];exact hk
   obtain⟨_,_,_,k,hk2,hrr⟩:=id hv;have:=(hrr s (iS hv hs)).2.2.2 c hcl
   have e2:aM d s c=((d.next.getD s []).getD c 0).toNat:=by
    unfold aM aS;simp only[qq,qQ]at hcl⊢;rw[qv hcl];rfl
   omega
  rw[e];cases t<;>rfl
theorem q5c{d:Dfa}(hv:bZ d)(hl:d.cls.length=256)(t:List UInt8):iI d t=fW d (t.foldl (sB d) 0):=by
 have h:=(q3e hv hl t 0 (mC hv)).1;unfold iI;rw[qt hv];change eD d 0 t=_ at h;rw[h,qA]
 rfl
theorem q0A{d:Dfa}(hv:bZ d)(hl:d.cls.length=256){c:Nat}(hc:c<bQ d):∃b:UInt8,∀s,sB d s b=aM d s c:=by
 obtain⟨i,hi,hx⟩:=jg (mT hv hc);refine⟨UInt8.ofNat i,fun s=>?_⟩;unfold sB;have e:(UInt8.ofNat i).toNat=i:=by rw[UInt8.toNat_ofNat'];exact Nat.mod_eq_of_lt (by omega)
 rw[e,qq,qv hi,qJ,hx,qA]
theorem B0{d:Dfa}(hv:bZ d)(hl:d.cls.length=256):∀s,s∈dW d->∃t:List UInt8,t.foldl (sB d) 0=s:=by
 obtain⟨hm,hlt,-⟩:=gM hv
 have key:∀j,j<(dW d).length->∃t:List UInt8,t.foldl (sB d) 0=(dW d).getD j 0:=by
  intro j
  induction j using Nat.strongRecOn with
  |ind j ih=>
   intro hj;have h1:=hm.take hj
   have h2:(dW d).getD j 0∈T8 (aS d) ((dW d).take j):=by
    have h3:(dW d).getD j 0∈(dW d).take (j+1):=by
     rw[aY (dW d) j 0 hj];simp
    rw[h1]at h3;exact List.mem_of_mem_take h3
   unfold T8 at h2;rw[dP]at h2;rcases List.mem_cons.1 h2 with h0|h2
   ·exact⟨[],h0.symm⟩
   obtain⟨x,hx,hr⟩:=List.mem_flatMap.1 h2;obtain⟨i,hi,he⟩:=jg hx;rw[qT]at hi;obtain⟨t,ht⟩:=ih i (by omega) (by omega);rw[List.getElem_take]at he;have hxi:(dW d).getD i 0=x:=by rw[qq,qv (by omega),qJ,he]
   have hxr:x∈dW d:=by rw[<-he];exact ji _
   obtain⟨c,hc,hce⟩:=jg hr;rw[n4,f8 hv (iS hv hxr)]at hc;obtain⟨b,hb⟩:=q0A hv hl hc;refine⟨t++[b],?_⟩;rw[qV,ht,hxi,qH,List.foldl_nil,hb,<-hce];unfold aM;rw[qq,qv,qJ]
 intro s hs;obtain⟨i,hi,he⟩:=jg hs;obtain⟨t,ht⟩:=key i hi;exact⟨t,by rw[ht,qq,qv hi,qJ,he]⟩
theorem q5d{d:Dfa}(hv:bZ d)(hl:d.cls.length=256){a b:Nat}:Eqv d a b↔∀u:List UInt8,fW d (u.foldl (sB d) a)=fW d (u.foldl (sB d) b):=by
 constructor
 ·intro h u
  have e:∀(u:List UInt8) (s:Nat),u.foldl (sB d) s=q9x d s (u.map fun b=>(d.cls.getD b.toNat 0).toNat):=by
   intro u
   induction u with
   |nil=>intro s;rfl
   |cons b u ih=>intro s;rw[qH,ih];rfl
  rw[e,e];refine h _ fun c hc=>?_;obtain⟨b,-,rfl⟩:=List.mem_map.1 hc;obtain⟨c,hc,hk⟩:=q3c hv hl b;rw[hc,qA];exact hk
 intro h cs hcs
 have e:∀cs:List Nat,(∀c∈cs,c<bQ d)->∃u:List UInt8,∀s,u.foldl (sB d) s=q9x d s cs:=by
  intro cs
  induction cs with
  |nil=>intro _;exact⟨[],fun s=>rfl⟩
  |cons c cs ih=>
   intro hcs;obtain⟨u,hu⟩:=ih (fun x hx=>hcs x (qU _ hx));obtain⟨b,hb⟩:=q0A hv hl (hcs c je);exact⟨b::u,fun s=>by rw[qH,hb,hu];rfl⟩
 obtain⟨u,hu⟩:=e cs hcs;rw[<-hu,<-hu];exact h u
theorem X1{d:Dfa}(hv:bZ d)(hl:d.cls.length=256)(n:Nat)(δ:Nat->UInt8->Nat)(out:Nat->Int)(h:∀t,iI d t=out (t.foldl δ 0))(hlt:∀t:List UInt8,t.foldl δ 0<n)
  (hall:∀q,q<n->∃t:List UInt8,t.foldl δ 0=q) (hap:∀p q,p<n->q<n->(∀u:List UInt8,out (u.foldl δ p)=out (u.foldl δ q))->p=q):(heads d).length=n:=by
 obtain⟨τ,hτ⟩:∃τ:Nat->List UInt8,∀s,s∈dW d->(τ s).foldl (sB d) 0=s:=
  ⟨fun s=>if h:s∈dW d then(B0 hv hl s h).choose else [],fun s hs=>by simp only[dif_pos hs];exact(B0 hv hl s hs).choose_spec⟩
 have hgo:∀t u:List UInt8,fW d (u.foldl (sB d) (t.foldl (sB d) 0))=out (u.foldl δ (t.foldl δ 0)):=fun t u=>by
  rw[<-qV,<-qV,<-q5c hv hl,h]
 have hq:∀s,s∈dW d->∀u:List UInt8,fW d (u.foldl (sB d) s)=out (u.foldl δ ((τ s).foldl δ 0)):=fun s hs u=>by rw[<-hgo,hτ s hs]
 have qiR:∀a∈dW d,∀b∈dW d,fM d a=fM d b↔(τ a).foldl δ 0=(τ b).foldl δ 0:=fun a ha b hb=>by
  rw[E0,q5d hv hl]
  constructor
  ·intro h;exact hap _ _ (hlt _) (hlt _) fun u=>by rw[<-hq a ha,<-hq b hb];exact h u
  intro h u;rw[hq a ha,hq b hb,h]
 have h1:=(i8 qiR).1;have h2:=bV (fun s=>(τ s).foldl δ 0) (dW d)
 have h3:(heads d).length=(eW ((dW d).map fun s=>(τ s).foldl δ 0)).length:=by
  rw[<-h2,qy,<-h1];rfl
 rw[h3];refine Nat.le_antisymm ?_ ?_
 ·refine qc (oH (m:=List.range n) (tN _) fun x hx=>?_) (by rw[List.length_range];exact qb _)
  rw[dP]at hx;obtain⟨s,-,rfl⟩:=List.mem_map.1 hx;exact List.mem_range.2 (hlt _)
 refine qc (by rw[List.length_range];exact qb _) (oH (l:=List.range n) List.nodup_range fun q hqn=>?_);rw[a6]at hqn;rw[dP,jy];obtain⟨t,ht⟩:=hall q hqn;have hs:=(q3e hv hl t 0 (mC hv)).2;refine⟨t.foldl (sB d) 0,hs,?_⟩;rw[<-ht];exact hap _ _ (hlt _) (hlt _) fun u=>by rw[<-hq _ hs,hgo]
end Go.Cm
namespace Go.Cm
open Go.RowKit Go.Proofs Go.Maps
def MkF(q m:Nat)(lv:Value)(vs:List Value)(k:Nat):Prop:=k=q\/k=m\/¬dV.free lv vs (some k)
def DbF(g:Nat)(nv:Value)(nvs:List Value)(rv:Value)(k:Nat):Prop:=k=g\/rv.ownBlock=some k\/¬dV.free nv nvs (some k)
section
variable {S S' : Nat → Prop} {w w1 : World} {B E E' : Nat} {v : Value} {vs : List Value} {ll : List (List Value)}
theorem dV.gw(h:dV w B E E' v vs ll)(hg:Gw S w S' w1)(hs:∀k,S k->dV.free v vs (some k)):dV w1 B E E' v vs ll:=
 ⟨hg.own h.outer (fun k hk hS=>(hs k hS).1 k hk rfl),h.len,fun i hi=>hg.own (h.rows i hi) (fun k hk hS=>(hs k hS).2 i (by rw[h.len];exact hi) k hk rfl),h.apart,h.off⟩
theorem dV.blkF(h:dV w B E E' v vs ll){k:Nat}(hk:¬dV.free v vs (some k)):B<=k/\k<w.heap.size:=by
 refine⟨qh fun h1=>hk (h.free_below (by omega)),qh fun h1=>hk (h.free_new (by omega))⟩
theorem eG.gw{α:Type} [DecidableEq α]{P:Program}{K T:TypeId}{lit:α->Lit}{b:Nat}{ks:List α}(h:eG P K T lit w b ks)(hg:Gw S w S' w1)(hn:¬S b):eG P K T lit w1 b ks:=by
 obtain⟨D,h1,h2⟩:=h;have hlt:=h1.lt;obtain⟨es,clock,hb,rest⟩:=h1;exact⟨D,⟨es,clock,(hg.blk hlt hn).trans hb,rest⟩,h2⟩
theorem nG{k:Nat}{P:Prop}(h:P->False)(hf:¬dV.free v vs (some k)->P):dV.free v vs (some k):=qh fun h1=>h (hf h1)
end
section
variable {S S' : Nat → Prop} {w w1 w2 : World} {B q m : Nat} {ve vr : Value} {F : Int} {lv : Value} {vs : List Value} {R : List (List Nat)}
theorem MkN.gw(h:MkN w B q m ve vr F lv vs R)(hg:Gw S w S' w1)(hs:∀k,S k->¬MkF q m lv vs k):MkN w1 B q m ve vr F lv vs R:=
 ⟨hg.own h.box (fun k hk hS=>hs k hS (.inl (by injection hk with hk;exact hk.symm))),h.lists.gw hg (fun k hS=>nG (hs k hS) fun hf=>.inr (.inr hf)),h.map.gw hg (fun hS=>hs m hS (.inr (.inl rfl))),h.mB,h.qm,h.offQ,h.offM⟩
theorem MkN.ltF(h:MkN w B q m ve vr F lv vs R):∀k,MkF q m lv vs k->B<=k/\k<w.heap.size:=fun k hk=>by
 rcases hk with rfl|rfl|hk
 ·exact h.box.lt _ rfl
 ·exact⟨h.mB,h.map.lt⟩
 exact h.lists.blkF hk
theorem q3R{k:Nat}(h:U1 q m lv k):MkF q m lv vs k:=by
 rcases h with rfl|rfl|h
 ·exact .inl rfl
 ·exact .inr (.inl rfl)
 exact .inr (.inr fun hf=>hf.1 k h rfl)
end
structure DbN(w:World)(B g:Nat)(nv:Value)(nvs:List Value)(rv:Value)(cl:List Int)(rows:List (List Int))(rules:List Int):Prop where
 box:lA w g nv rv cl
 gB:B<=g
 rows:dV w B 39 3 nv nvs (rows.map ints)
 rls:Own w B 3 rv (ints rules)
 fg:dV.free nv nvs (some g)
 rg:rv.ownBlock≠some g
 fr:dV.free nv nvs rv.ownBlock
section
variable {S S' : Nat → Prop} {w w1 w2 : World} {B g : Nat} {nv rv v' : Value} {nvs : List Value} {cl : List Int} {rows : List (List Int)} {rules : List Int}
theorem DbN.gw(h:DbN w B g nv nvs rv cl rows rules)(hg:Gw S w S' w1)(hs:∀k,S k->¬DbF g nv nvs rv k):DbN w1 B g nv nvs rv cl rows rules:=
 ⟨⟨hg.own h.box.own (fun k hk hS=>hs k hS (.inl (by injection hk with hk;exact hk.symm))),h.box.len⟩,h.gB,h.rows.gw hg (fun k hS=>nG (hs k hS) fun hf=>.inr (.inr hf)),hg.own h.rls (fun k hk hS=>hs k hS (.inr (.inl hk))),h.fg,h.rg,h.fr⟩
theorem DbN.up(h:DbN w B g nv nvs rv cl rows rules)(hb:Below w.heap.size w w1):DbN w1 B g nv nvs rv cl rows rules:=h.gw (dD (fun _=>False) hb) (fun _ hf=>hf.elim)
theorem DbN.ltF(h:DbN w B g nv nvs rv cl rows rules):∀k,DbF g nv nvs rv k->B<=k/\k<w.heap.size:=fun k hk=>by
 rcases hk with rfl|hk|hk
 ·exact⟨h.gB,h.box.lt⟩
 ·exact h.rls.lt k hk
 exact h.rows.blkF hk
theorem free_push{x:Value}{k n:Nat}(h:dV.free nv nvs (some k))(hx:x.ownBlock≠some k)(hk:∀j,v'.ownBlock=some j->nv.ownBlock=some j\/n<=j)(hn:k<n):dV.free v' (nvs++[x]) (some k):=sQ h hx hk hn
theorem DbN.pushRow(h:DbN w B g nv nvs rv cl rows rules){row:Value}{x:List Int}(hr:Own w B 3 row (ints x))(hf:∀k,row.ownBlock=some k->¬DbF g nv nvs rv k)(hb:Below w.heap.size w w1)(ho:Own w2 B 39 v' (nvs++[row]))(hg:w1.grownBy w2 nv.ownBlock)(hk:∀k,v'.ownBlock=some k->nv.ownBlock=some k\/w1.heap.size<=k):
  DbN (w2.setCell ⟨g,256,none⟩ v') B g v' (nvs++[row]) rv cl (rows++[x]) rules/\Gw (fun k=>DbF g nv nvs rv k\/row.ownBlock=some k) w (DbF g v' (nvs++[row]) rv) (w2.setCell ⟨g,256,none⟩ v'):=by
 have hgl:=h.box.lt;have hs1:=hb.size
 have hrow:dV.free nv nvs row.ownBlock:=by
  cases hro:row.ownBlock with
  |none=>exact dV.free_none
  |some k=>exact nG (hf k hro) fun hf=>.inr (.inr hf)
 have hp:=h.rows.push hr hrow (aE hb none) ho hg hk;have hrg:row.ownBlock≠some g:=fun e=>hf g e (.inl rfl);have hng:nv.ownBlock≠some g:=fun e=>h.fg.1 g e rfl;have hgf:=free_push h.fg hrg hk (by omega);have hbx:=(h.box.up hb).keep hg hng;have hst:=hbx.setN v'
 have qiy:=(h.rls.up hb).keep hg (by
  cases hro:rv.ownBlock with
  |none=>exact .inl rfl
  |some k=>exact .inr (fun e=>by have:=h.fr.1 k e.symm;exact this hro))
 have qiw:∀k,rv.ownBlock=some k->k<w.heap.size:=fun k hk=>(h.rls.lt k hk).2
 refine⟨⟨hst.1,h.gB,?_,qiy.keep hst.2 (by
  cases hro:rv.ownBlock with
  |none=>exact .inl rfl
  |some k=>exact .inr (fun e=>h.rg (by rw[hro];exact e))),hgf,h.rg,?_⟩,?_⟩
 ·rw[qD]
  exact hp.keep' hst.2 hgf
 ·cases hro:rv.ownBlock with
  |none=>exact dV.free_none
  |some k=>
   have h1:=h.fr;rw[hro]at h1;exact free_push h1 (fun e=>hf k e (.inr (.inl hro))) hk (by have:=qiw k hro;omega)
 have g1:Gw (fun k=>DbF g nv nvs rv k\/row.ownBlock=some k) w (fun k=>DbF g nv nvs rv k\/row.ownBlock=some k) w1:=dD _ hb
 have g2:Gw (fun k=>DbF g nv nvs rv k\/row.ownBlock=some k) w1 (DbF g v' (nvs++[row]) rv) w2:=eM hg (fun k hk=>.inl (.inr (.inr (fun e=>e.1 k hk rfl)))) (fun k hk2=>by
  rcases hk2 with h2|h2|h2
  ·exact .inl (.inl (.inl h2))
  ·exact .inl (.inl (.inr (.inl h2)))
  by_cases hlt:k<w1.heap.size
  ·refine .inl (qh fun h3=>h2 (free_push ?_ (fun e=>h3 (.inr e)) hk hlt))
   exact qh fun h4=>h3 (.inl (.inr (.inr h4)))
  exact .inr (by omega))
 exact(g1.trans g2).trans (eM hst.2 (fun k hk=>.inl (by injection hk with hk;exact hk.symm)) (fun k hk=>.inl hk))
theorem DbN.pushRule(h:DbN w B g nv nvs rv cl rows rules){x:Int}(hb:Below w.heap.size w w1)(ho:Own w2 B 3 v' (ints (rules++[x])))(hg:w1.grownBy w2 rv.ownBlock)(hk:∀k,v'.ownBlock=some k->rv.ownBlock=some k\/w1.heap.size<=k):
  DbN (w2.setCell ⟨g,257,none⟩ v') B g nv nvs v' cl rows (rules++[x])/\Gw (DbF g nv nvs rv) w (DbF g nv nvs v') (w2.setCell ⟨g,257,none⟩ v'):=by
 have hgl:=h.box.lt;have hs1:=hb.size
 have hvg:v'.ownBlock≠some g:=fun e=>by
  rcases hk g e with h1|h1
  ·exact h.rg h1
  omega
 have hbx:=(h.box.up hb).keep hg h.rg;have hst:=hbx.setR v'
 have hfv:dV.free nv nvs v'.ownBlock:=by
  cases hro:v'.ownBlock with
  |none=>exact dV.free_none
  |some k=>
   rcases hk k hro with h1|h1
   ·have:=h.fr;rwa [h1]at this
   exact h.rows.free_new (by omega)
 refine⟨⟨hst.1,h.gB,((h.rows.up hb).keep' hg h.fr).keep' hst.2 h.fg,ho.keep hst.2 (by
  cases hro:v'.ownBlock with
  |none=>exact .inl rfl
  |some k=>exact .inr (fun e=>hvg (by rw[hro];exact e))),h.fg,hvg,hfv⟩,?_⟩
 have g1:Gw (DbF g nv nvs rv) w (DbF g nv nvs rv) w1:=dD _ hb
 have g2:Gw (DbF g nv nvs rv) w1 (DbF g nv nvs v') w2:=eM hg (fun k hk=>.inr (.inl hk)) (fun k hk2=>by
  rcases hk2 with h2|h2|h2
  ·exact .inl (.inl h2)
  ·rcases hk k h2 with h3|h3
   ·exact .inl (.inr (.inl h3))
   exact .inr h3
  exact .inl (.inr (.inr h2)))
 exact(g1.trans g2).trans (eM hst.2 (fun k hk=>.inl (by injection hk with hk;exact hk.symm)) (fun k hk=>.inl hk))
end
end Go.Cm
namespace Go.Cm
open Go.RowKit Go.Proofs Go.Maps
structure lX(w:World)(B q m:Nat)(ve vr:Value)(F:Int)(lv:Value)(vs:List Value)(R:List (List Nat))(g:Nat)(nv:Value)(nvs:List Value)(rv:Value)(cl:List Int)(rows:List (List Int))(rules:List Int):Prop where
 mkr:MkN w B q m ve vr F lv vs R
 db:DbN w B g nv nvs rv cl rows rules
 ap:∀k,MkF q m lv vs k->¬DbF g nv nvs rv k
section
variable {w w1 w2 w7 w8 : World} {B q m g : Nat} {ve vr lv lv' nv rv v' : Value} {F : Int} {vs vs' nvs : List Value} {R R' : List (List Nat)} {cl : List Int} {rows : List (List Int)} {rules : List Int}
theorem lX.up(h:lX w B q m ve vr F lv vs R g nv nvs rv cl rows rules)(hb:Below w.heap.size w w1):lX w1 B q m ve vr F lv vs R g nv nvs rv cl rows rules:=⟨h.mkr.up hb,h.db.up hb,h.ap⟩
theorem lX.gw{S S':Nat->Prop}(h:lX w B q m ve vr F lv vs R g nv nvs rv cl rows rules)(hg:Gw S w S' w1)(h1:∀k,S k->¬MkF q m lv vs k)(h2:∀k,S k->¬DbF g nv nvs rv k):lX w1 B q m ve vr F lv vs R g nv nvs rv cl rows rules:=⟨h.mkr.gw hg h1,h.db.gw hg h2,h.ap⟩
theorem lX.num(h:lX w B q m ve vr F lv vs R g nv nvs rv cl rows rules)(hb:Below w.heap.size w w7)(hm:MkN w8 B q m ve vr F lv' vs' R')(hg:Gw (U1 q m lv) w7 (U1 q m lv') w8)(hf:∀k,k<w.heap.size->dV.free lv vs (some k)->dV.free lv' vs' (some k)):
  lX w8 B q m ve vr F lv' vs' R' g nv nvs rv cl rows rules/\∀k,k<w.heap.size->¬MkF q m lv vs k->¬MkF q m lv' vs' k:=by
 have hk:∀k,k<w.heap.size->¬MkF q m lv vs k->¬MkF q m lv' vs' k:=fun k hk hn h1=>by
  rcases h1 with rfl|rfl|h1
  ·exact hn (.inl rfl)
  ·exact hn (.inr (.inl rfl))
  exact h1 (hf k hk (nG hn fun hf=>.inr (.inr hf)))
 exact⟨⟨hm,(h.db.up hb).gw hg (fun k hk=>h.ap k (q3R hk)),fun k h1 h2=>hk k (h.db.ltF k h2).2 (fun h3=>h.ap k h3 h2) h1⟩,hk⟩
theorem lX.pushRow(h:lX w B q m ve vr F lv vs R g nv nvs rv cl rows rules){row:Value}{x:List Int}(hr:Own w B 3 row (ints x))(hf:∀k,row.ownBlock=some k->¬DbF g nv nvs rv k/\¬MkF q m lv vs k)(hb:Below w.heap.size w w1)(ho:Own w2 B 39 v' (nvs++[row]))(hg:w1.grownBy w2 nv.ownBlock)(hk:∀k,v'.ownBlock=some k->nv.ownBlock=some k\/w1.heap.size<=k):
  lX (w2.setCell ⟨g,256,none⟩ v') B q m ve vr F lv vs R g v' (nvs++[row]) rv cl (rows++[x]) rules/\Below B w (w2.setCell ⟨g,256,none⟩ v'):=by
 obtain⟨h1,h2⟩:=h.db.pushRow hr (fun k hk=>(hf k hk).1) hb ho hg hk;have hB:∀k,(DbF g nv nvs rv k\/row.ownBlock=some k)->B<=k/\k<w.heap.size:=fun k hk=>hk.elim (h.db.ltF k) (hr.lt k);refine⟨⟨h.mkr.gw h2 (fun k hk hm=>hk.elim (h.ap k hm) (fun e=>(hf k e).2 hm)),h1,fun k hm hd=>?_⟩,h2.below (by have:=(h.db.ltF g (.inl rfl));omega) fun k hk=>(hB k hk).1⟩;rcases h2.sub k hd with h3|h3
 ·rcases h3 with h3|h3
  ·exact h.ap k hm h3
  exact(hf k h3).2 hm
 have:=(h.mkr.ltF k hm).2;omega
theorem lX.pushRule(h:lX w B q m ve vr F lv vs R g nv nvs rv cl rows rules){x:Int}(hb:Below w.heap.size w w1)(ho:Own w2 B 3 v' (ints (rules++[x])))(hg:w1.grownBy w2 rv.ownBlock)(hk:∀k,v'.ownBlock=some k->rv.ownBlock=some k\/w1.heap.size<=k):
  lX (w2.setCell ⟨g,257,none⟩ v') B q m ve vr F lv vs R g nv nvs v' cl rows (rules++[x])/\Below B w (w2.setCell ⟨g,257,none⟩ v'):=by
 obtain⟨h1,h2⟩:=h.db.pushRule hb ho hg hk;refine⟨⟨h.mkr.gw h2 (fun k hk hm=>h.ap k hm hk),h1,fun k hm hd=>?_⟩,h2.below (by have:=(h.db.ltF g (.inl rfl));omega) fun k hk=>(h.db.ltF k hk).1⟩;rcases h2.sub k hd with h3|h3
 ·exact h.ap k hm h3
 have:=(h.mkr.ltF k hm).2;omega
theorem lX.row(h:lX w B q m ve vr F lv vs R g nv nvs rv cl rows rules){br:Nat}(h1:¬MkF q m lv vs br)(h2:¬DbF g nv nvs rv br)(i:Nat)(u:Value)(hg:w.grownBy (w.setCell ⟨br,i,none⟩ u) (some br)):lX (w.setCell ⟨br,i,none⟩ u) B q m ve vr F lv vs R g nv nvs rv cl rows rules:=
 h.gw (eM (S:=fun k=>k=br) (S':=fun k=>k=br) hg (fun k hk=>by injection hk with hk;exact hk.symm) (fun _ hk=>.inl hk)) (fun _ hk=>hk▸h1) (fun _ hk=>hk▸h2)
end
theorem q0V(c:List Value):∀(k:Nat) (A:Array Value),k+c.length<=A.size->((c.zipIdx k).foldl (fun cs x=>cs.setIfInBounds (0+x.2) x.1) A).toList=A.toList.take k++c++A.toList.drop (k+c.length):=by
 induction c with
 |nil=>intro k A _;simp
 |cons a c ih=>
  intro k A h;rw[qx]at h;rw[List.zipIdx_cons,qH,ih (k+1) _ (by simp;omega)];rw[qE,Array.toList_setIfInBounds];have hk:k<A.toList.length:=by simp;omega
  have h1:(A.toList.set k a).take (k+1)=A.toList.take k++[a]:=by
   rw[qI (by simpa using hk),List.take_set_of_le (qb _)];simp
  have h2:(A.toList.set k a).drop (k+1+c.length)=A.toList.drop (k+(a::c).length):=by
   rw[List.drop_set_of_lt (by omega),qx,show k+1+c.length=k+(c.length+1) by omega]
  rw[h1,h2];simp
theorem q3S(v:Value):prog.built 41 [(0,v)]=Instr.fill (fun i=>#[(0,256),(256,1),(257,1)][i]?) rN [(0,v)]:=by kernel_rfl
theorem q3T(cl:List Int)(hl:cl.length=256):∃D:Array Value,(∀W:World,(Instr.build 41 #[(0,.agg (ints cl).toArray)]).run prog W=.ok (.agg D) W)/\D.toList=ints cl++[.slice none 0 0,.slice none 0 0]:=by
 obtain⟨D,hD⟩:∃D,D=(((ints cl).toArray.zipIdx).foldl (fun cs x=>cs.setIfInBounds (0+x.2) x.1) rN):=⟨_,rfl⟩;have hs:(ints cl).toArray.size=256:=by simp[hl]
 refine⟨D,fun W=>run_build W 41 _ D ?_,?_⟩
 ·show prog.built 41 [(0,.agg (ints cl).toArray)]=some D
  rw[q3S];have hz:=gN;generalize rN=Z at*;unfold Instr.fill;have hc:(Value.agg (ints cl).toArray).cells=(ints cl).toArray:=rfl;simp only[hc,hs,hz,hD]
  rfl
 have h1:=q0V (ints cl) 0 rN (by rw[gN,aV,hl];decide);rw[hD]
 have e1:(((ints cl).toArray.zipIdx).foldl (fun cs x=>cs.setIfInBounds (0+x.2) x.1) rN)=((ints cl).zipIdx 0).foldl (fun cs x=>cs.setIfInBounds (0+x.2) x.1) rN:=by
  generalize rN=Z;simp
 rw[e1,h1,iE,qE,aV,hl];have h3:(ints (List.replicate 256 0)).length=256:=by rw[aV,qL]
 rw[List.drop_append_of_le_length (by rw[h3];exact qb _),jm (by rw[h3];exact qb _)]
 rfl
theorem iO{P:Program}{ops:Array Oper}{rest:List Oper}{o:Oper}{a:Act}{w:World}{Q:Exit->Act->World->Prop}(hgd:o.guard=none)(t:TypeId)(F:Array (Nat×Operand))(ho:o.op=.build t F)
  (G:Array (Nat×Value)) (hG:(F.map fun(i,x)=>(i,a.eval x))=G) (C:Array Value) (hb:∀W,(Instr.build t G).run P W=.ok (.agg C) W)
  (h:wpList P ops Q rest (a.put o.dst (.agg C)) w):wpList P ops Q (o::rest) a w:=by
 subst hG;refine wpList_plain hgd fun K hK=>?_;unfold Oper.wp execOp;simp only[ho,Sem.run_bind,hb,Result.andThen_ok];exact hK _ _ h
end Go.Cm
namespace Go.Cm
open Go.RowKit Go.Proofs
theorem vJ{w:World}{A:Array Value}{d:Dfa}(h:yU w A d):∃vn vr,A.toList=ints d.cls++[vn,vr]/\vn.oneCell'=true/\vr.oneCell'=true:=by
 obtain⟨hs,hl,hc,⟨vn,hn,hrw⟩,⟨vr,hr,hru⟩⟩:=h;obtain⟨oa,cap,b,off,rfl,-,-⟩:=hrw.open;obtain⟨oq,capq,bq,offq,rfl,-,-⟩:=hru.open;refine⟨.slice oa d.next.length cap,.slice oq d.rules.length capq,?_,rfl,rfl⟩;apply List.ext_getElem?;intro i;have qfI:(ints d.cls).length=256:=by rw[aV,hl]
 rw[j6];rcases jO i 256 with h|h
 ·rw[hc i h,qS (by omega)]
  simp[ints,List.getD,hl,h]
 rw[jf (by omega),qfI];rcases jO i 258 with h2|h2
 ·obtain rfl|rfl:i=256\/i=257:=by omega
  ·rw[hn];rfl
  rw[hr];rfl
 rw[qM (by simp;omega),jr (by omega)]
theorem fL{ops:Array Oper}{rest:List Oper}{o:Oper}{a:Act}{w w0:World}{Q:Exit->Act->World->Prop}(hgd:o.guard=none)(x y:Operand)(ho:o.op=.store 41 x y)
  (g:Nat) (hx:a.eval x=.pointer (some ⟨g,0,none⟩)) (C:Array Value) (hy:a.eval y=.agg C) {d:Dfa} (hC:yU w0 C d) {nv rv:Value} {cl:List Int} (hB:lA w g nv rv cl)
  (h:∀w',w'.heap[g]? =some (.cells C 41 (0,0))->w.grownBy w' (some g)->wpList prog ops Q rest (a.put o.dst undef) w'):wpList prog ops Q (o::rest) a w:=by
 obtain⟨vn,vr,hl,h1,h2⟩:=vJ hC;refine iX hgd x y ho g hx C hy hl hC.hlen h1 h2 hB fun w' hb hg=>h w' ?_ hg;obtain⟨A,hA,-,hAl⟩:=hb.open;rw[hA]
 have:A=C:=by
  cases A;cases C;simp only at hAl hl;rw[hAl,hl]
 rw[this]
theorem q7A{w:World}{A:Array Value}{d:Dfa}(h:yU w A d):∃oa cap,A[256]? =some (.slice oa d.next.length cap):=by
 obtain⟨hs,hl,hc,⟨vn,hn,hrw⟩,-⟩:=h;obtain⟨oa,cap,b,off,rfl,-,-⟩:=hrw.open;exact⟨oa,cap,hn⟩
theorem rR{o:Oper}{a:Act}{w:World}{K:Act->World->Prop}{Q:Exit->Act->World->Prop}(x:Operand)(ho:o.op=.load 41 x)(g:Nat)(hx:a.eval x=.pointer (some ⟨g,0,none⟩))(A:Array Value)(hs:A.size=258)
  (hg:w.heap[g]? =some (.cells A 41 (0,0))) (h:K (a.put o.dst (.agg A)) w):o.wp prog a w K Q:=by
 have hl:=cQ (P:=prog) w g 0 258 41 41 A (0,0) _ hg underlying41 rfl (by kernel_rfl) (by rw[hs];decide);have e:A.extract 0 (0+258)=A:=by rw[qE,<-hs];simp
 rw[e]at hl;unfold Oper.wp execOp;simp only[ho,hx,Instr.loadAt,Instr.sureAddr,Sem.run_bind,Sem.run_pure,Result.andThen_ok,hl];exact h
theorem lA.at{w:World}{g g':Nat}{nv rv:Value}{cl:List Int}(h:lA w g nv rv cl)(e:g=g'):lA w g' nv rv cl:=e▸h
def pU(w:World)(g:Nat)(A:Array Value)(d:Dfa):Prop:=w.heap[g]? =some (.cells A 41 (0,0))/\yU w A d
theorem pU.up{w w':World}{g:Nat}{A:Array Value}{d:Dfa}(h:pU w g A d)(hb:Below w.heap.size w w'):pU w' g A d:=⟨(hb.block g (lt_of_block h.1)).trans h.1,h.2.up hb⟩
theorem pU.lt{w:World}{g:Nat}{A:Array Value}{d:Dfa}(h:pU w g A d):g<w.heap.size:=lt_of_block h.1
theorem pU.new{w w':World}{A Z:Array Value}{d:Dfa}(h:yU w A d)(hg:w'.heap[w.heap.size]? =some (.cells A 41 (0,0)))(hgr:(w.alloc (.cells Z 41)).grownBy w' (some w.heap.size)):pU w' w.heap.size A d/\Below w.heap.size w w':=by
 have hb:Below w.heap.size w w':=(aA w (.cells Z 41)).grown hgr (by simp) (fun j hj=>by cases hj;exact qb _);exact⟨⟨hg,h.up hb⟩,hb⟩
end Go.Cm
