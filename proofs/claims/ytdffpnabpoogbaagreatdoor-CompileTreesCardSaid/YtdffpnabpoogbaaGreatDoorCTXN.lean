/- Walks of functions and plain facts, joined and squeezed by a program. Conditions: as each says. -/
import Derived.Test.YtdffpnabpoogbaaGreatDoorCTXK
set_option maxHeartbeats 8000000
set_option maxRecDepth 100000
set_option linter.unusedSimpArgs false
namespace Go.Cm
open Go.RowKit Go.Proofs
theorem Own.of_blk{w w':World}{B E:Nat}{v:Value}{xs:List Value}(h:Own w B E v xs)(hb:∀k,v.ownBlock=some k->w'.heap[k]? =w.heap[k]?):Own w' B E v xs:=by
 refine⟨⟨h.1.1,h.1.2.imp id ?_⟩,h.2⟩;rintro⟨g,cap,cur,rfl,h2,h3,h4⟩;exact⟨g,cap,cur,rfl,h2,by rw[hb g rfl];exact h3,h4⟩
structure Fx(S:Nat->Prop)(w w':World):Prop where
 os:w'.os=w.os
 tape:w'.tape=w.tape
 output:w'.output=w.output
 size:w.heap.size<=w'.heap.size
 block:∀k,k<w.heap.size->¬S k->w'.heap[k]? =w.heap[k]?
section
variable {S : Nat → Prop} {n : Nat} {w w1 w2 : World}
theorem Fx.refl(S:Nat->Prop)(w:World):Fx S w w:=⟨rfl,rfl,rfl,qb _,fun _ _ _=>rfl⟩
theorem Fx.trans(h:Fx S w w1)(k:Fx S w1 w2):Fx S w w2:=⟨k.os.trans h.os,k.tape.trans h.tape,k.output.trans h.output,qc h.size k.size,fun i hi h1=>by rw[k.block i (qe hi h.size) h1,h.block i hi h1]⟩
theorem Fx.mono{S':Nat->Prop}(h:Fx S w w1)(hS:∀k,S k->S' k):Fx S' w w1:=⟨h.os,h.tape,h.output,h.size,fun k hk h1=>h.block k hk (fun e=>h1 (hS k e))⟩
theorem sY{row:Option Nat}(h:w.grownBy w1 row)(hr:∀k,row=some k->S k):Fx S w w1:=⟨h.os,h.tape,h.output,h.size,fun k hk h1=>h.block k hk (fun e=>h1 (hr k e.symm))⟩
theorem q5o(h:Below w.heap.size w w1):Fx S w w1:=⟨h.os,h.tape,h.output,h.size,fun k hk _=>h.block k hk⟩
theorem Fx.grown{row:Option Nat}(h:Fx S w w1)(hg:w1.grownBy w2 row)(hr:∀k,row=some k->S k\/w.heap.size<=k):Fx S w w2:=
 ⟨hg.os.trans h.os,hg.tape.trans h.tape,hg.output.trans h.output,qc h.size hg.size,fun k hk h1=>by
  rw[hg.block k (qe hk h.size) (fun e=>(hr k e.symm).elim h1 (fun z=>by omega)),h.block k hk h1]⟩
theorem Fx.below(h:Fx S w1 w2)(hb:Below n w w1)(hn:n<=w1.heap.size)(hS:∀k,S k->n<=k):Below n w w2:=hb.trans ⟨h.os,h.tape,h.output,h.size,fun k hk=>h.block k (by omega) (fun e=>by have:=hS k e;omega)⟩
theorem Fx.own{B E:Nat}{v:Value}{xs:List Value}(h:Fx S w w1)(ho:Own w B E v xs)(hv:∀k,v.ownBlock=some k->¬S k):Own w1 B E v xs:=
 ho.of_blk fun k hk=>h.block k (ho.lt k hk).2 (hv k hk)
theorem Fx.cell{b o:Nat}(h:Fx S w w1)(hb:b<w.heap.size)(hv:¬S b):w1.cell? ⟨b,o,none⟩=w.cell? ⟨b,o,none⟩:=World.cell?_of_block (w:=w) (h.block b hb hv)
end
end Go.Cm
namespace Go.Cm
open Go.RowKit Go.Proofs
theorem Fx.far{S S':Nat->Prop}{w w1 w2:World}(h:Fx S w w1)(hg:Fx S' w1 w2)(hr:∀k,S' k->S k\/w.heap.size<=k):Fx S w w2:=
 ⟨hg.os.trans h.os,hg.tape.trans h.tape,hg.output.trans h.output,qc h.size hg.size,fun k hk h1=>by
  rw[hg.block k (qe hk h.size) (fun e=>(hr k e).elim h1 (fun z=>by omega)),h.block k hk h1]⟩
theorem q7p{P:Program}(t E:TypeId)(ht:P.underlying t=some (.slice E))(hE:(P.info? E).map (·.size)=some 1):P.underlying t=some (.slice (P.elem t))/\∀W:World,(sizeOf (P.elem t)).run P W=.ok 1 W:=by
 have he:P.elem t=E:=by simp[Program.elem,ht]
 refine⟨by rw[he];exact ht,fun W=>?_⟩;rw[he];cases hq:P.info? E with
 |none=>simp[hq]at hE
 |some inf=>
  have:inf.size=1:=by simpa[hq]using hE
  simp[sizeOf,typeInfo,hq,this]
theorem Sl.high{P:Program}{w:World}{v:Value}{l:List Value}(h:Sl w v l)(t E:TypeId)(ht:P.underlying t=some (.slice E))(hE:(P.info? E).map (·.size)=some 1)(n:Nat)(hn:n<=l.length):
  ∃u,(∀W:World,(Instr.sliceAt t v (some (.int .i64 (n:Int))) none none).run P W=.ok u W)/\Sl w u (l.drop n):=by
 obtain⟨oa,cap,b,off,rfl,hd,hc⟩:=h;obtain⟨h1,h2⟩:=q7p t E ht hE;have hcap:=hd.hcap;have hl:(l.drop n).length=l.length-n:=by rw[qY]
 refine⟨sliced oa n l.length cap 1,fun W=>?_,?_⟩
 ·rw[run_sliceAt_slice (P:=P) (t:=t) (h:=h1),run_slice_l (t:=t) (ht:=h1) (h0:=by omega) (h1:=by omega),h2]
  simp[Result.andThen]
 refine⟨if cap=n then oa else oa.map (·.add (n*1)),cap-n,b,off+n,by rw[hl];simp[sliced],⟨fun h0=>?_,by omega,by have:=hd.hmax;omega,by have:=hd.hsml;omega,fun h0=>hd.hblk (by omega)⟩,fun i hi=>?_⟩
 ·rw[hl]at h0
  rw[qr (by omega),hd.hat (by omega)];simp[kF]
 rw[hl]at hi;rw[jI,hc (n+i) (by omega)];simp[List.getD]
end Go.Cm
