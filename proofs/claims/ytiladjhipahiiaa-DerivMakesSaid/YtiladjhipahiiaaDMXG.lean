/- Walks of functions and plain facts, joined and squeezed by a program. Conditions: as each says. -/
import Derived.Test.YtiladjhipahiiaaDMXB
import Derived.Test.YtiladjhipahiiaaDMXD
set_option maxHeartbeats 8000000
set_option maxRecDepth 100000
set_option linter.unusedSimpArgs false
open Go.Proofs.Try
namespace Go.Cm
open Go.RowKit Go.Proofs
theorem q1N:zC<2^256:=tW _ _
theorem q3G:iD 97 122<2^256:=tW _ _
theorem q4H:iD 65 90<2^256:=tW _ _
theorem fP.heap{w:World}{g x:Nat}(h:fP w g x):w.heap[g]? =some (.cells (wsV x).toArray 54 (0,0)):=by
 obtain⟨A,hg,-,hA⟩:=h.own.whole;rw[hg,<-hA]
theorem bR{C:World->Prop}{o:Oper}{a:Act}{K:Act->Prop}(x:Operand)(ho:o.op=.load 54 x)(g:Nat)(hx:a.eval x=.pointer (some ⟨g,0,none⟩))(s:Nat)
  (hg:∀w',C w'->fP w' g s) (h:K (a.put o.dst (dU s))):o.quiet prog a C K:=
 sY 54 4 x ho g hx (wsV s).toArray rfl (fun w' hw=>(hg w' hw).heap) _ underlying54 rfl (by kernel_rfl) h
theorem fP.keepP{w w':World}{g b x:Nat}(h:fP w b x)(hg:w.grownBy w' (some g))(hne:g≠b):fP w' b x:=h.keep hg (fun e=>hne (by injection e))
theorem q4V:(0:Nat)<2^256:=Nat.two_pow_pos 256
theorem q2M{s:dG}{z:PS}(h:(tV s z).2.e=0)(hk:(tV s z).1.2=false):∃c,(tV s z).1.1=gG c:=by
 unfold tV at h hk⊢;cases hn:nxR s (bA z)with
 |none=>rw[hn]at h;exact absurd h (bN _ (by decide))
 |some c=>
  rw[hn]at h hk;simp only at h hk⊢;cases hk2:q3A c with
  |some a=>rw[hk2]at hk;cases hk
  |none=>
   rw[hk2]at h;simp only at h⊢;cases hm:q3B c with
   |some b=>exact⟨b,by dsimp only⟩
   |none=>
    rw[hm]at h;simp only at h⊢;by_cases hx:c=120
    ·rw[qv hx]at h⊢
     cases hq:q1K s (z.p+1)with
     |some b=>exact⟨b,by dsimp only⟩
     |none=>rw[hq]at h;exact absurd h (bN _ (by decide))
    rw[qu hx]at h;exact absurd h (bN _ (by decide))
theorem Z1{s:dG}{z:PS}(h:(fO s z).2.e=0)(hk:(fO s z).1.2=false):∃c,(fO s z).1.1=gG c:=by
 unfold fO at h hk⊢;cases hn:nxR s z with
 |none=>rw[hn]at h;exact absurd h (bN _ (by decide))
 |some c=>
  rw[hn]at h hk;simp only at h hk⊢;by_cases hc:c=92
  ·rw[qv hc]at h hk⊢
   exact q2M h hk
  rw[qu hc]at h⊢;by_cases hd:c=45
  ·rw[qv hd]at h;exact absurd h (bN _ (by decide))
  rw[qu hd];refine⟨c,?_⟩;generalize gG c=x;rfl
theorem Z2(c:UInt8):Nat.log2 (gG c)=c.toNat:=by
 rw[U9];exact Nat.log2_two_pow
theorem y8(a:UInt8)(W:World):(Instr.index 9 (.string ⟨#[a]⟩) (.int .i64 0)).run prog W=.ok (.int .u8 (a.toNat:Nat)) W:=
 eY (P:=prog) 9 underlying9 (s:=⟨#[a]⟩) (i:=0) (by decide:0<1) W
def q2R(N T p n:Nat):Nat×Nat×Nat:=if p+n<=T then(q5D N p n,0,p+n)else(0,2,p)
end Go.Cm
namespace Go.Cm
structure q4d where
 fin:Bool
 kind:Nat
 size:Nat
 lits:List Nat
 dists:List Nat
def q4d.zero:q4d:=⟨false,0,0,[],[]⟩
def xb(N T n:Nat)(st:Nat×Nat):Nat×(Nat×Nat):=if st.1=0 then((q2R N T st.2 n).1,(q2R N T st.2 n).2.1,(q2R N T st.2 n).2.2)else(0,st)
end Go.Cm
