/- Walks of functions and plain facts, joined and squeezed by a program. Conditions: as each says. -/
import Derived.Test.YtcdaljipemapbaaDoorRXTA
set_option maxHeartbeats 8000000
set_option maxRecDepth 100000
set_option linter.unusedSimpArgs false
namespace Go.Cm
open Go.RowKit Go.Proofs
def rG(N T p n:Nat):Nat×Nat×Nat:=if p+n<=T then(uU N p n,0,p+n)else(0,2,p)
end Go.Cm
namespace Go.Cm
structure sV where
 fin:Bool
 kind:Nat
 size:Nat
 lits:List Nat
 dists:List Nat
def sV.zero:sV:=⟨false,0,0,[],[]⟩
def xb(N T n:Nat)(st:Nat×Nat):Nat×(Nat×Nat):=if st.1=0 then((rG N T st.2 n).1,(rG N T st.2 n).2.1,(rG N T st.2 n).2.2)else(0,st)
end Go.Cm
namespace Go.Cm
open Go.RowKit Go.Proofs
theorem Own.of_blk{w w':World}{B E:Nat}{v:Value}{xs:List Value}(h:Own w B E v xs)(hb:∀k,v.ownBlock=some k->w'.heap[k]? =w.heap[k]?):Own w' B E v xs:=by
 refine⟨⟨h.1.1,h.1.2.imp id ?_⟩,h.2⟩;rintro⟨g,cap,cur,rfl,h2,h3,h4⟩
 exact⟨g,cap,cur,rfl,h2,by rw[hb g rfl];exact h3,h4⟩
structure Fx(S:Nat->Prop)(w w':World):Prop where
 os:w'.os=w.os
 tape:w'.tape=w.tape
 output:w'.output=w.output
 size:w.heap.size<=w'.heap.size
 block:∀k,k<w.heap.size->¬S k->w'.heap[k]? =w.heap[k]?
section
variable {S : Nat → Prop} {n : Nat} {w w1 w2 : World}
theorem Fx.refl(S:Nat->Prop)(w:World):Fx S w w:=⟨rfl,rfl,rfl,qa _,fun _ _ _=>rfl⟩
theorem Fx.trans(h:Fx S w w1)(k:Fx S w1 w2):Fx S w w2:=⟨k.os.trans h.os,k.tape.trans h.tape,k.output.trans h.output,qb h.size k.size,fun i hi h1=>by rw[k.block i (qd hi h.size) h1,h.block i hi h1]⟩
theorem Fx.mono{S':Nat->Prop}(h:Fx S w w1)(hS:∀k,S k->S' k):Fx S' w w1:=⟨h.os,h.tape,h.output,h.size,fun k hk h1=>h.block k hk (fun e=>h1 (hS k e))⟩
theorem bP{row:Option Nat}(h:w.grownBy w1 row)(hr:∀k,row=some k->S k):Fx S w w1:=⟨h.os,h.tape,h.output,h.size,fun k hk h1=>h.block k hk (fun e=>h1 (hr k e.symm))⟩
theorem o7(h:Below w.heap.size w w1):Fx S w w1:=⟨h.os,h.tape,h.output,h.size,fun k hk _=>h.block k hk⟩
theorem Fx.grown{row:Option Nat}(h:Fx S w w1)(hg:w1.grownBy w2 row)(hr:∀k,row=some k->S k\/w.heap.size<=k):Fx S w w2:=
 ⟨hg.os.trans h.os,hg.tape.trans h.tape,hg.output.trans h.output,qb h.size hg.size,fun k hk h1=>by
  rw[hg.block k (qd hk h.size) (fun e=>(hr k e.symm).elim h1 (fun z=>by omega)),h.block k hk h1]⟩
theorem Fx.below(h:Fx S w1 w2)(hb:Below n w w1)(hn:n<=w1.heap.size)(hS:∀k,S k->n<=k):Below n w w2:=hb.trans ⟨h.os,h.tape,h.output,h.size,fun k hk=>h.block k (by omega) (fun e=>by have:=hS k e;omega)⟩
theorem Fx.own{B E:Nat}{v:Value}{xs:List Value}(h:Fx S w w1)(ho:Own w B E v xs)(hv:∀k,v.ownBlock=some k->¬S k):Own w1 B E v xs:=
 ho.of_blk fun k hk=>h.block k (ho.lt k hk).2 (hv k hk)
theorem Fx.cell{b o:Nat}(h:Fx S w w1)(hb:b<w.heap.size)(hv:¬S b):w1.cell? ⟨b,o,none⟩=w.cell? ⟨b,o,none⟩:=World.cell?_of_block (w:=w) (h.block b hb hv)
end
section
variable {w : World} {q g e : Nat}
end
end Go.Cm
