/- Walks of functions and plain facts, joined and squeezed by a program. Conditions: as each says. -/
import Derived.Test.YtcdaljipemapbaaDoorRXTB
set_option maxHeartbeats 8000000
set_option maxRecDepth 100000
set_option linter.unusedSimpArgs false
namespace Go.Cm
theorem iF{p:UInt8->Bool}{s:qM}(h:qK p s=s.length):∀c∈s,p c=true:=by
 have e:s.takeWhile p=s:=(List.takeWhile_prefix p).eq_of_length h;intro c hc;rw[<-e]at hc
 exact lK hc
theorem aK{p:UInt8->Bool}{a b:qM}(ha:∀c∈a,p c=true)(hb:∀c,b.head?=some c->p c=false):qK p (a++b)=a.length:=by
 unfold qK;rw[List.takeWhile_append_of_pos ha]
 cases b with
 |nil=>simp
 |cons c b=>rw[List.takeWhile_cons_of_neg (by simp[hb c rfl])];simp
end Go.Cm
