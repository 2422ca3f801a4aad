/- Walks of functions and plain facts, joined and squeezed by a program. Conditions: as each says. -/
import Derived.LaidEql
import Derived.Stop.Asserts
import Derived.RowKitTokens
import Derived.Deep.DeepCutAuto
import Derived.LaidLaws
import Derived.LaidHandle
import Derived.Stop.Joined
import Derived.Test.YtnelgjehpbjloaaGreatDoorGXA
set_option maxHeartbeats 8000000
set_option maxRecDepth 100000
set_option linter.unusedSimpArgs false
namespace Go.Cm
open Go.RowKit Go.Extern.Stop Go.Stop Go.Extern Go.Proofs
theorem Ea.valueOf27(t:Addr)(w:World):(ReflectliteValue.unpack (.iface 144 (.pointer (some t)))).run Tryz.prog w
  =.ok (.agg #[.pointer (some ⟨6,144,none⟩),.pointer (some ⟨w.heap.size,0,none⟩),.int .u64 150]) (w.alloc (.cells #[.pointer (some t)] 144)):=by kernel_rfl
theorem Ea.type27(a:Addr)(w:World):(ReflectliteValue.methodAny (ReflectliteValue.valueError "reflectlite.Value.Type" 0) (fun t _ _ _=>ReflectliteType.toType t) #[.agg #[.pointer (some ⟨6,144,none⟩),.pointer (some a),.int .u64 150]]).run Tryz.prog w
  =.ok (.iface 239 (.agg #[.pointer (some ⟨6,144,none⟩)])) w:=by kernel_rfl
theorem Ea.methodKind(h:Value)(w:World):(Go.method 421 239 (.agg #[h]) "Kind").run Tryz.prog w=.ok (228,h) w:=by kernel_rfl
theorem Ea.kind27(w:World):((ReflectliteType.abiMethod fun t=>Functor.map (fun a:Nat=>Value.int IntKind.u8 (a:Int)) (Rtype.kind t)) #[.pointer (some ⟨6,144,none⟩)]).run Tryz.prog w=.ok (.int .u8 22) w:=by kernel_rfl
theorem Ea.kind25(w:World):((ReflectliteType.abiMethod fun t=>Functor.map (fun a:Nat=>Value.int IntKind.u8 (a:Int)) (Rtype.kind t)) #[.pointer (some ⟨6,86,none⟩)]).run Tryz.prog w=.ok (.int .u8 22) w:=by kernel_rfl
theorem rlm(z:Sem Value)(f:TypeId->Addr->Nat->Nat->Sem Value)(v:Value):
  ReflectliteValue.method z f #[v]=(do match<-ReflectliteValue.parts v with|none=>z|some (t,a,fl)=>f t a fl (fl%32)):=rfl
theorem Ea.parts27(a:Addr)(w:World):(ReflectliteValue.parts (.agg #[.pointer (some ⟨6,144,none⟩),.pointer (some a),.int .u64 150])).run Tryz.prog w=.ok (some (144,a,150)) w:=by kernel_rfl
theorem Ea.isNil27(a p:Addr)(W:World)(ha:W.cell? a=some (.pointer (some p))):
  (ReflectliteValue.method (ReflectliteValue.valueError "reflectlite.Value.IsNil" 0) ReflectliteValue.isNil #[.agg #[.pointer (some ⟨6,144,none⟩),.pointer (some a),.int .u64 150]]).run Tryz.prog W=.ok (.bool false) W:=by
 rw[rlm];simp only[Sem.run_bind,Ea.parts27,Result.andThen]
 simp[ReflectliteValue.isNil,loadVar,isAgg,underlying,Tryz.underlying144,ha,Result.andThen]
theorem Ea.methodElem(h:Value)(w:World):(Go.method 421 239 (.agg #[h]) "Elem").run Tryz.prog w=.ok (240,.agg #[h]) w:=by kernel_rfl
theorem Ea.methodImplements(h:Value)(w:World):(Go.method 421 239 (.agg #[h]) "Implements").run Tryz.prog w=.ok (241,.agg #[h]) w:=by kernel_rfl
theorem Ea.methodAssignableTo(h:Value)(w:World):(Go.method 421 239 (.agg #[h]) "AssignableTo").run Tryz.prog w=.ok (238,.agg #[h]) w:=by kernel_rfl
theorem Ea.elem27(w:World):(ReflectliteType.method ReflectliteType.elem #[.agg #[.pointer (some ⟨6,144,none⟩)]]).run Tryz.prog w=.ok (.iface 239 (.agg #[.pointer (some ⟨6,86,none⟩)])) w:=by kernel_rfl
theorem Ea.implements25(w:World):(ReflectliteType.relation "Implements" ReflectliteType.implements_ #[.agg #[.pointer (some ⟨6,86,none⟩)],.iface 239 (.agg #[.pointer (some ⟨6,40,none⟩)])]).run Tryz.prog w=.ok (.bool true) w:=by kernel_rfl
theorem Ea.typeOf25(v:Value)(w:World):(ReflectliteType.typeOf #[.iface 86 v]).run Tryz.prog w=.ok (.iface 239 (.agg #[.pointer (some ⟨6,86,none⟩)])) w:=by kernel_rfl
theorem Ea.assignable25(w:World):(ReflectliteType.relation "AssignableTo" ReflectliteType.assignableTo #[.agg #[.pointer (some ⟨6,86,none⟩)],.iface 239 (.agg #[.pointer (some ⟨6,86,none⟩)])]).run Tryz.prog w=.ok (.bool true) w:=by kernel_rfl
theorem Ea.valueOf25(e:Addr)(w:World):(ReflectliteValue.unpack (.iface 86 (.pointer (some e)))).run Tryz.prog w
  =.ok (.agg #[.pointer (some ⟨6,86,none⟩),.pointer (some ⟨w.heap.size,0,none⟩),.int .u64 150]) (w.alloc (.cells #[.pointer (some e)] 86)):=by kernel_rfl
theorem Ea.elemOf27(w:World):(Rtype.elem? 144).run Tryz.prog w=.ok (some 86) w:=by kernel_rfl
theorem Ea.mk25(p:Addr)(w:World):(ReflectliteValue.mk 86 p ReflectliteValue.flagAddr).run Tryz.prog w=.ok (.agg #[.pointer (some ⟨6,86,none⟩),.pointer (some p),.int .u64 406]) w:=by kernel_rfl
theorem Ea.elemV27(a p:Addr)(W:World)(ha:W.cell? a=some (.pointer (some p))):
  (ReflectliteValue.method (ReflectliteValue.valueError "reflectlite.Value.Elem" 0) ReflectliteValue.elem #[.agg #[.pointer (some ⟨6,144,none⟩),.pointer (some a),.int .u64 150]]).run Tryz.prog W
   =.ok (.agg #[.pointer (some ⟨6,86,none⟩),.pointer (some p),.int .u64 406]) W:=by
 rw[rlm];simp only[Sem.run_bind,Ea.parts27,Result.andThen]
 simp[ReflectliteValue.elem,loadVar,isAgg,underlying,Tryz.underlying144,ha,Result.andThen,Ea.elemOf27,Ea.mk25]
theorem rls(v x:Value):ReflectliteValue.set #[v,x]=(do
  let (some (dst,a,fl),some (src,b,_)):=(<-ReflectliteValue.parts v,<-ReflectliteValue.parts x)
   |unsupported (.noEntry "extern/(internal/reflectlite.Value).Set.zeroValue")
  if fl/ReflectliteValue.flagAddr%2==0 then unsupported (.noEntry "extern/(internal/reflectlite.Value).Set.unaddressable")
  let val<-loadVar src b
  if<-Rtype.directlyAssignable dst src then storeVar dst a val
  else if<-Rtype.implements dst src then
   if(<-Rtype.kind src)==20 then
    match val with
    |.nilIface=>unsupported (.noEntry "extern/reflectlite: a nil value of one interface type handed on as a value of another")
    |_=>storeVar dst a val
   else storeVar dst a (.iface src val)
  else panicString ("reflectlite.Set: value of type " ++(<-Rtype.spelt src)++ " is not assignable to type " ++(<-Rtype.spelt dst))
  pure (.tuple #[])):=rfl
theorem Ea.parts25a(a:Addr)(w:World):(ReflectliteValue.parts (.agg #[.pointer (some ⟨6,86,none⟩),.pointer (some a),.int .u64 406])).run Tryz.prog w=.ok (some (86,a,406)) w:=by kernel_rfl
theorem Ea.parts25(a:Addr)(w:World):(ReflectliteValue.parts (.agg #[.pointer (some ⟨6,86,none⟩),.pointer (some a),.int .u64 150])).run Tryz.prog w=.ok (some (86,a,150)) w:=by kernel_rfl
theorem Ea.direct25(w:World):(Rtype.directlyAssignable 86 86).run Tryz.prog w=.ok true w:=by kernel_rfl
theorem Ea.set25(ta b e:Addr)(old:Value)(W:World)(hb:W.cell? b=some (.pointer (some e)))(ht:W.cell? ta=some old)(hf:W.frozen? ta=false):
  (ReflectliteValue.set #[.agg #[.pointer (some ⟨6,86,none⟩),.pointer (some ta),.int .u64 406],.agg #[.pointer (some ⟨6,86,none⟩),.pointer (some b),.int .u64 150]]).run Tryz.prog W
   =.ok (.tuple #[]) (W.setCell ta (.pointer (some e))):=by
 rw[rls];simp only[Sem.run_bind,Ea.parts25a,Ea.parts25,Result.andThen]
 simp[ReflectliteValue.flagAddr,loadVar,isAgg,underlying,Tryz.underlying86,hb,Result.andThen,Ea.direct25,storeVar,Value.cells,storeCells,Addr.add]
 rw[run_store Tryz.prog W ta _ _ (by rfl)]
 simp[ht,hf]
theorem Ea.typeOf29(v:Value)(w:World):(ReflectliteType.typeOf #[.iface 290 v]).run Tryz.prog w=.ok (.iface 239 (.agg #[.pointer (some ⟨6,290,none⟩)])) w:=by kernel_rfl
theorem Ea.assignable29(w:World):(ReflectliteType.relation "AssignableTo" ReflectliteType.assignableTo #[.agg #[.pointer (some ⟨6,290,none⟩)],.iface 239 (.agg #[.pointer (some ⟨6,86,none⟩)])]).run Tryz.prog w=.ok (.bool false) w:=by kernel_rfl
theorem Ea.noAs(v:Value)(xT:TypeId)(w:World):(Instr.typeAssert (.iface 290 v) xT 244 true).run Tryz.prog w=.ok (.tuple #[.nilIface,.bool false]) w:=run_typeAssert_lacksB Tryz.underlying244 (by kernel_rfl) (by kernel_rfl) v xT w
theorem Ea.noUn(v:Value)(xT:TypeId)(w:World):(Instr.typeAssert (.iface 290 v) xT 247 true).run Tryz.prog w=.ok (.tuple #[.nilIface,.bool false]) w:=run_typeAssert_lacksB Tryz.underlying247 (by kernel_rfl) (by kernel_rfl) v xT w
theorem Ea.noUns(v:Value)(xT:TypeId)(w:World):(Instr.typeAssert (.iface 290 v) xT 249 true).run Tryz.prog w=.ok (.tuple #[.nilIface,.bool false]) w:=run_typeAssert_lacksB Tryz.underlying249 (by kernel_rfl) (by kernel_rfl) v xT w
theorem q4Q(e:Value)(t:Addr)(w:World)(hg:w.cell? ⟨0,0,none⟩=some (.iface 239 (.agg #[.pointer (some ⟨6,40,none⟩)]))):
  Calls Tryz.prog 84 #[.iface 290 e,.iface 144 (.pointer (some t))] w fun ev w'=>ev=.returned (.bool false)/\w'=(((w.alloc (.cells #[.pointer (some t)] 144)).alloc (.cells #[.pointer (some ⟨6,144,none⟩),.pointer (some ⟨w.heap.size,0,none⟩),.int .u64 150] 205)).alloc (.cells #[.pointer (some ⟨6,144,none⟩),.pointer (some ⟨w.heap.size,0,none⟩),.int .u64 150] 205)):=by
 have h6:=@run_callFunc_extern Tryz.prog 128 _ (fun args=>ReflectliteValue.unpack (args.getD 0 (.tuple #[]))) Tryz.func128 (by kernel_rfl) (by kernel_rfl) (by kernel_rfl) (by kernel_rfl)
 have h7:=@run_callFunc_extern Tryz.prog 129 _ (ReflectliteValue.methodAny (ReflectliteValue.valueError "reflectlite.Value.Type" 0) (fun t _ _ _=>ReflectliteType.toType t)) Tryz.func129 (by kernel_rfl) (by kernel_rfl) (by kernel_rfl) (by kernel_rfl)
 have h8:=@run_callFunc_extern Tryz.prog 130 _ (ReflectliteValue.method (ReflectliteValue.valueError "reflectlite.Value.IsNil" 0) ReflectliteValue.isNil) Tryz.func130 (by kernel_rfl) (by kernel_rfl) (by kernel_rfl) (by kernel_rfl)
 have h27:=@run_callFunc_extern Tryz.prog 228 _ (ReflectliteType.abiMethod fun t=>do pure (.int .u8 (<-Rtype.kind t))) Tryz.func228 (by kernel_rfl) (by kernel_rfl) (by kernel_rfl) (by kernel_rfl)
 have h37:=@run_callFunc_extern Tryz.prog 240 _ (ReflectliteType.method ReflectliteType.elem) Tryz.func240 (by kernel_rfl) (by kernel_rfl) (by kernel_rfl) (by kernel_rfl)
 have h38:=@run_callFunc_extern Tryz.prog 241 _ (ReflectliteType.relation "Implements" ReflectliteType.implements_) Tryz.func241 (by kernel_rfl) (by kernel_rfl) (by kernel_rfl) (by kernel_rfl)
 have h10:=@run_callFunc_extern Tryz.prog 159 _ ReflectliteType.typeOf Tryz.func159 (by kernel_rfl) (by kernel_rfl) (by kernel_rfl) (by kernel_rfl)
 have h35:=@run_callFunc_extern Tryz.prog 238 _ (ReflectliteType.relation "AssignableTo" ReflectliteType.assignableTo) Tryz.func238 (by kernel_rfl) (by kernel_rfl) (by kernel_rfl) (by kernel_rfl)
 have tO:=Ea.typeOf29;have a25:=Ea.assignable29;have x1:=Ea.noAs;have x2:=Ea.noUn;have x3:=Ea.noUns;have f6:=Ea.valueOf27;have f7:=Ea.type27;have mK:=Ea.methodKind;have mE:=Ea.methodElem;have mI:=Ea.methodImplements;have k27:=Ea.kind27;have k25:=Ea.kind25;have e27:=Ea.elem27;have i25:=Ea.implements25;have mA:=Ea.methodAssignableTo;have n8:=Ea.isNil27 ⟨w.heap.size,0,none⟩ t ((w.alloc (.cells #[.pointer (some t)] 144)).alloc (.cells #[.pointer (some ⟨6,144,none⟩),.pointer (some ⟨w.heap.size,0,none⟩),.int .u64 150] 205)) (by simp)
 have hlt:0<w.heap.size:=by
  rcases Nat.lt_or_ge 0 w.heap.size with h|h
  ·exact h
  ·simp[World.cell?,Array.getElem?_eq_none h]at hg
 have hg2:((w.alloc (.cells #[.pointer (some t)] 144)).alloc (.cells #[.pointer (some ⟨6,144,none⟩),.pointer (some ⟨w.heap.size,0,none⟩),.int .u64 150] 205)).cell? ⟨0,0,none⟩=some (.iface 239 (.agg #[.pointer (some ⟨6,40,none⟩)])):=by
  rw[World.cell?_alloc_lt _ _ ⟨0,0,none⟩ (by first|(simp;done)|(simp;omega)),World.cell?_alloc_lt _ _ ⟨0,0,none⟩ hlt];exact hg
 go_enter Tryz.func84,Tryz.ntmps84
 go_wp2;refine wp_loop_rounds 1 ?_;rw[rounds_succ];go_wp2;go_ret
 exact⟨rfl,rfl⟩
theorem q6z(e t:Addr)(old:Value)(w:World)(hg:w.cell? ⟨0,0,none⟩=some (.iface 239 (.agg #[.pointer (some ⟨6,40,none⟩)])))(ht0:w.cell? t=some old)(hf0:w.frozen? t=false):
  Calls Tryz.prog 84 #[.iface 86 (.pointer (some e)),.iface 144 (.pointer (some t))] w fun ev w'=>ev=.returned (.bool true)/\w'=((((w.alloc (.cells #[.pointer (some t)] 144)).alloc (.cells #[.pointer (some ⟨6,144,none⟩),.pointer (some ⟨w.heap.size,0,none⟩),.int .u64 150] 205)).alloc (.cells #[.pointer (some ⟨6,144,none⟩),.pointer (some ⟨w.heap.size,0,none⟩),.int .u64 150] 205)).alloc (.cells #[.pointer (some e)] 86)).setCell t (.pointer (some e)):=by
 have h6:=@run_callFunc_extern Tryz.prog 128 _ (fun args=>ReflectliteValue.unpack (args.getD 0 (.tuple #[]))) Tryz.func128 (by kernel_rfl) (by kernel_rfl) (by kernel_rfl) (by kernel_rfl)
 have h7:=@run_callFunc_extern Tryz.prog 129 _ (ReflectliteValue.methodAny (ReflectliteValue.valueError "reflectlite.Value.Type" 0) (fun t _ _ _=>ReflectliteType.toType t)) Tryz.func129 (by kernel_rfl) (by kernel_rfl) (by kernel_rfl) (by kernel_rfl)
 have h8:=@run_callFunc_extern Tryz.prog 130 _ (ReflectliteValue.method (ReflectliteValue.valueError "reflectlite.Value.IsNil" 0) ReflectliteValue.isNil) Tryz.func130 (by kernel_rfl) (by kernel_rfl) (by kernel_rfl) (by kernel_rfl)
 have h27:=@run_callFunc_extern Tryz.prog 228 _ (ReflectliteType.abiMethod fun t=>do pure (.int .u8 (<-Rtype.kind t))) Tryz.func228 (by kernel_rfl) (by kernel_rfl) (by kernel_rfl) (by kernel_rfl)
 have h37:=@run_callFunc_extern Tryz.prog 240 _ (ReflectliteType.method ReflectliteType.elem) Tryz.func240 (by kernel_rfl) (by kernel_rfl) (by kernel_rfl) (by kernel_rfl)
 have h38:=@run_callFunc_extern Tryz.prog 241 _ (ReflectliteType.relation "Implements" ReflectliteType.implements_) Tryz.func241 (by kernel_rfl) (by kernel_rfl) (by kernel_rfl) (by kernel_rfl)
 have h10:=@run_callFunc_extern Tryz.prog 159 _ ReflectliteType.typeOf Tryz.func159 (by kernel_rfl) (by kernel_rfl) (by kernel_rfl) (by kernel_rfl)
 have h35:=@run_callFunc_extern Tryz.prog 238 _ (ReflectliteType.relation "AssignableTo" ReflectliteType.assignableTo) Tryz.func238 (by kernel_rfl) (by kernel_rfl) (by kernel_rfl) (by kernel_rfl)
 have h11:=@run_callFunc_extern Tryz.prog 160 _ (ReflectliteValue.method (ReflectliteValue.valueError "reflectlite.Value.Elem" 0) ReflectliteValue.elem) Tryz.func160 (by kernel_rfl) (by kernel_rfl) (by kernel_rfl) (by kernel_rfl)
 have h12:=@run_callFunc_extern Tryz.prog 161 _ ReflectliteValue.set Tryz.func161 (by kernel_rfl) (by kernel_rfl) (by kernel_rfl) (by kernel_rfl)
 have tO:=Ea.typeOf25;have a25:=Ea.assignable25;have v25:=Ea.valueOf25;have f6:=Ea.valueOf27;have f7:=Ea.type27;have mK:=Ea.methodKind;have mE:=Ea.methodElem;have mI:=Ea.methodImplements;have k27:=Ea.kind27;have k25:=Ea.kind25;have e27:=Ea.elem27;have i25:=Ea.implements25;have mA:=Ea.methodAssignableTo;have n8:=Ea.isNil27 ⟨w.heap.size,0,none⟩ t ((w.alloc (.cells #[.pointer (some t)] 144)).alloc (.cells #[.pointer (some ⟨6,144,none⟩),.pointer (some ⟨w.heap.size,0,none⟩),.int .u64 150] 205)) (by simp)
 have hlt:0<w.heap.size:=by
  rcases Nat.lt_or_ge 0 w.heap.size with h|h
  ·exact h
  ·simp[World.cell?,Array.getElem?_eq_none h]at hg
 have hg2:((w.alloc (.cells #[.pointer (some t)] 144)).alloc (.cells #[.pointer (some ⟨6,144,none⟩),.pointer (some ⟨w.heap.size,0,none⟩),.int .u64 150] 205)).cell? ⟨0,0,none⟩=some (.iface 239 (.agg #[.pointer (some ⟨6,40,none⟩)])):=by
  rw[World.cell?_alloc_lt _ _ ⟨0,0,none⟩ (by first|(simp;done)|(simp;omega)),World.cell?_alloc_lt _ _ ⟨0,0,none⟩ hlt];exact hg
 have htl:t.block<w.heap.size:=by
  rcases Nat.lt_or_ge t.block w.heap.size with h|h
  ·exact h
  ·simp[World.cell?,Array.getElem?_eq_none h]at ht0
 have el:=Ea.elemV27 ⟨w.heap.size,0,none⟩ t (((w.alloc (.cells #[.pointer (some t)] 144)).alloc (.cells #[.pointer (some ⟨6,144,none⟩),.pointer (some ⟨w.heap.size,0,none⟩),.int .u64 150] 205)).alloc (.cells #[.pointer (some ⟨6,144,none⟩),.pointer (some ⟨w.heap.size,0,none⟩),.int .u64 150] 205)) (by rw[World.cell?_alloc_lt _ _ ⟨w.heap.size,0,none⟩ (by simp;omega)];simp)
 have st:=Ea.set25 t ⟨w.heap.size+1+1+1,0,none⟩ e old ((((w.alloc (.cells #[.pointer (some t)] 144)).alloc (.cells #[.pointer (some ⟨6,144,none⟩),.pointer (some ⟨w.heap.size,0,none⟩),.int .u64 150] 205)).alloc (.cells #[.pointer (some ⟨6,144,none⟩),.pointer (some ⟨w.heap.size,0,none⟩),.int .u64 150] 205)).alloc (.cells #[.pointer (some e)] 86))
  (by rw[World.cell?_alloc_at _ _ _ _ (by simp)];rfl)
  (by rw[World.cell?_alloc_lt _ _ t (by simp;omega),World.cell?_alloc_lt _ _ t (by simp;omega),World.cell?_alloc_lt _ _ t (by simp;omega),World.cell?_alloc_lt _ _ t htl];exact ht0)
  (by rw[World.frozen?_alloc_old _ _ t (by simp;omega),World.frozen?_alloc_old _ _ t (by simp;omega),World.frozen?_alloc_old _ _ t (by simp;omega),World.frozen?_alloc_old _ _ t (Nat.ne_of_lt htl)];exact hf0)
 go_enter Tryz.func84,Tryz.ntmps84
 go_wp2;refine wp_loop_rounds 1 ?_;rw[rounds_succ];go_wp2;go_ret
 exact⟨rfl,rfl⟩
end Go.Cm
namespace Go.Cm
open Go.RowKit Go.Proofs
structure jK(w:World):Prop where
 et:w.cell? ⟨0,0,none⟩=some (.iface 239 (.agg #[.pointer (some ⟨6,40,none⟩)]))
 fam:∀g,g=1\/g=2\/g=3\/g=4\/g=5->∃q,w.cell? ⟨g,0,none⟩=some (.iface 290 (.pointer (some q)))
theorem jK.lt{w:World}(h:jK w):∀g,g=0\/g=1\/g=2\/g=3\/g=4\/g=5->g<w.heap.size:=by
 intro g hg
 rcases Nat.lt_or_ge g w.heap.size with h1|h1
 ·exact h1
 ·rcases hg with rfl|hg
  ·have:=h.et;simp[World.cell?,Array.getElem?_eq_none h1]at this
  ·obtain⟨q,hq⟩:=h.fam g hg
   simp[World.cell?,Array.getElem?_eq_none h1]at hq
theorem jK.up{w w':World}(h:jK w)(hb:Below w.heap.size w w'):jK w' where
 et:=by rw[hb.cell (p:=⟨0,0,none⟩) (h.lt _ (.inl rfl))];exact h.et
 fam g hg:=by
  obtain⟨q,hq⟩:=h.fam g hg
  exact⟨q,by rw[hb.cell (p:=⟨g,0,none⟩) (h.lt _ (.inr hg))];exact hq⟩
def bK(w:World):List (Nat×Nat)->Value->Prop
 |[],v=>∃q,v=.iface 290 (.pointer (some q))
 |x::l,v=>∃p u,v=.iface 86 (.pointer (some ⟨p,0,none⟩))/\p<w.heap.size/\w.cell? ⟨p,0,none⟩=some (.int .i64 (x.1:Nat))/\w.cell? ⟨p,1,none⟩=some (.int .i64 (x.2:Nat))/\w.cell? ⟨p,2,none⟩=some u/\bK w l u
theorem bK.up{w w':World}(hb:Below w.heap.size w w'):∀{l:List (Nat×Nat)} {v:Value},bK w l v->bK w' l v
 |[],_,h=>h
 |x::l,v,⟨p,u,h1,h2,h3,h4,h5,h6⟩=>⟨p,u,h1,qd h2 hb.size,by rw[hb.cell (p:=⟨p,0,none⟩) h2];exact h3,by rw[hb.cell (p:=⟨p,1,none⟩) h2];exact h4,by rw[hb.cell (p:=⟨p,2,none⟩) h2];exact h5,bK.up hb h6⟩
def cH(w:World)(l:List (Nat×Nat))(v:Value):Prop:=if l=[]then v=.nilIface else bK w l v
def bX(w:World)(l:List (Nat×Nat))(v:Value):Prop:=∃e,v=.agg #[e]/\cH w l e
theorem cH.up{w w':World}{l:List (Nat×Nat)}{v:Value}(hb:Below w.heap.size w w')(h:cH w l v):cH w' l v:=by
 unfold cH at h⊢;split at h
 ·rename_i h0;rw[if_pos h0];exact h
 ·rename_i h0;rw[if_neg h0];exact h.up hb
theorem bX.up{w w':World}{l:List (Nat×Nat)}{v:Value}(hb:Below w.heap.size w w')(h:bX w l v):bX w' l v:=by
 obtain⟨e,rfl,he⟩:=h;exact⟨e,rfl,he.up hb⟩
theorem bK.one{w:World}:∀{l:List (Nat×Nat)} {v:Value},bK w l v->v.oneCell'=true
 |[],_,⟨_,h⟩=>by rw[h];rfl
 |_::_,_,⟨_,_,h,_⟩=>by rw[h];rfl
theorem cH.one{w:World}{l:List (Nat×Nat)}{v:Value}(h:cH w l v):v.oneCell'=true:=by
 unfold cH at h;split at h
 ·rw[h];rfl
 ·exact h.one
def H7:Value->Value
 |.iface t (.pointer p)=>if t=86 then .pointer p else .pointer none
 |_=>.pointer none
theorem rK(w:World):Calls Tryz.prog 40 #[.nilIface] w fun e w'=>e=.returned (.pointer none)/\∃x,w'=ext w x:=by
 go_enter Tryz.func40,Tryz.ntmps40
 go_wp2;go_ret
 exact⟨rfl,(qt (by repeat(first|exact qj _ _|assumption|refine qw ?_ _|refine qk ?_|refine qA ?_ _|refine qs ?_ _)))⟩
theorem O6{w:World}{v:Value}(hL:jK w)(h:bK w [] v):Calls Tryz.prog 40 #[v] w fun e w'=>e=.returned (.pointer none)/\∃x,w'=ext w x:=by
 obtain⟨q,rfl⟩:=h
 have hg:(w.alloc (.cells #[.pointer none] 86)).cell? ⟨0,0,none⟩=some (.iface 239 (.agg #[.pointer (some ⟨6,40,none⟩)])):=by
  rw[World.cell?_alloc_lt _ _ ⟨0,0,none⟩ (hL.lt _ (.inl rfl))];exact hL.et
 go_enter Tryz.func40,Tryz.ntmps40
 go_wp2_with((with_reducible go_at_call 84);refine(q4Q _ _ _ hg).mono ?_;rintro en w2 ⟨rfl,rfl⟩)
 go_ret
 exact⟨rfl,(qt (by repeat(first|exact qj _ _|assumption|refine qw ?_ _|refine qk ?_|refine qA ?_ _|refine qs ?_ _)))⟩
theorem q0S{w:World}{x:Nat×Nat}{l:List (Nat×Nat)}{v:Value}(hL:jK w)(h:bK w (x::l) v):Calls Tryz.prog 40 #[v] w fun e w'=>e=.returned (H7 v)/\∃x,w'=ext w x:=by
 obtain⟨p,u,rfl,h1,h2,h3,h4,h5⟩:=h
 have hg:(w.alloc (.cells #[.pointer none] 86)).cell? ⟨0,0,none⟩=some (.iface 239 (.agg #[.pointer (some ⟨6,40,none⟩)])):=by
  rw[World.cell?_alloc_lt _ _ ⟨0,0,none⟩ (hL.lt _ (.inl rfl))];exact hL.et
 have ht:(w.alloc (.cells #[.pointer none] 86)).cell? ⟨w.heap.size,0,none⟩=some (.pointer none):=by simp
 have hf:(w.alloc (.cells #[.pointer none] 86)).frozen? ⟨w.heap.size,0,none⟩=false:=by simp
 have hlp:H7 (.iface 86 (.pointer (some ⟨p,0,none⟩)))=.pointer (some ⟨p,0,none⟩):=rfl;rw[hlp];clear h1 h2 h3 h4 h5 hlp
 go_enter Tryz.func40,Tryz.ntmps40
 go_wp2_with((with_reducible go_at_call 84);refine(q6z _ _ (.pointer none) _ hg ht hf).mono ?_;rintro en w2 ⟨rfl,rfl⟩)
 go_ret
 exact⟨rfl,(qt (by repeat(first|exact qj _ _|assumption|refine qw ?_ _|refine qk ?_|refine qA ?_ _|refine qs ?_ _)))⟩
theorem q3X{c:Nat}(hc:c<=27)(w:World):Calls Tryz.prog 137 #[.int .i64 c] w fun e w'=>e=.returned (.bool true)/\∃x,w'=ext w x:=by
 go_enter Tryz.func137,Tryz.ntmps137
 go_wp2;go_ret
 exact⟨by simp;omega,(qt (by repeat(first|exact qj _ _|assumption|refine qw ?_ _|refine qk ?_|refine qA ?_ _|refine qs ?_ _)))⟩
theorem q0T{c:Nat}(hc:c<=27)(w:World):Calls Tryz.prog 118 #[.int .i64 c] w fun e w'=>e=.returned (.int .i64 c)/\∃x,w'=ext w x:=by
 go_enter Tryz.func118,Tryz.ntmps118
 go_wp2_with((with_reducible go_at_call 137);refine(q3X hc _).mono ?_;rintro en w2 ⟨rfl,x2,rfl⟩)
 go_ret
 exact⟨rfl,(qt (by repeat(first|exact qj _ _|assumption|refine qw ?_ _|refine qk ?_|refine qA ?_ _|refine qs ?_ _)))⟩
theorem q4T{c:Nat}{w:World}(hL:jK w):Calls Tryz.prog 119 #[.int .i64 c] w fun e w'=>∃v,e=.returned v/\bK w [] v/\∃x,w'=ext w x:=by
 obtain⟨q1,h1⟩:=hL.fam 1 (.inl rfl);obtain⟨q2,h2⟩:=hL.fam 2 (.inr (.inl rfl));obtain⟨q3,h3⟩:=hL.fam 3 (.inr (.inr (.inl rfl)));obtain⟨q4,h4⟩:=hL.fam 4 (.inr (.inr (.inr (.inl rfl))));obtain⟨q5,h5⟩:=hL.fam 5 (.inr (.inr (.inr (.inr rfl))))
 go_enter Tryz.func119,Tryz.ntmps119
 go_wp2
 all_goals
  go_ret
  exact⟨_,rfl,⟨_,rfl⟩,(qt (by repeat(first|exact qj _ _|assumption|refine qw ?_ _|refine qk ?_|refine qA ?_ _|refine qs ?_ _)))⟩
theorem cH.some{w:World}{x:Nat×Nat}{l:List (Nat×Nat)}{v:Value}(h:cH w (x::l) v):bK w (x::l) v:=by unfold cH at h;rwa [if_neg (by simp)]at h
theorem cH.of{w:World}{x:Nat×Nat}{l:List (Nat×Nat)}{v:Value}(h:bK w (x::l) v):cH w (x::l) v:=by unfold cH;rwa [if_neg (by simp)]
def cU(l:List (Nat×Nat))(w:World)(e:Ending)(w':World):Prop:=∃v,e=.returned v/\bX w' l v/\∃x,w'=ext w x
theorem zN(w:World)(x y:Value)(T:TypeId):∃w1,(w.alloc (.cells #[x] T)).alloc (.cells #[y] T)=w1/\Own w1 w.heap.size T (.slice (some ⟨w.heap.size,0,none⟩) 1 1) [x]/\Own w1 w.heap.size T (.slice (some ⟨w.heap.size+1,0,none⟩) 1 1) [y]/\Below w.heap.size w w1:=
 ⟨_,rfl,(qE w w.heap.size #[x] T (by simp) (q9 _)).up (qn _ _),by
  have h:=qE (w.alloc (.cells #[x] T)) w.heap.size #[y] T (by simp) (by simp)
  simpa using h,qs (qn w _) _⟩
theorem mF{W:World}{n o:Nat}{c:Array Value}{t:TypeId}(h:W.heap.size=n):(W.alloc (.cells c t)).cell? ⟨n,o,none⟩=c[o]? :=by subst h;exact World.cell?_alloc_new _ _ _ _
theorem zO{w w3:World}{g6 c at_:Nat}{l:List (Nat×Nat)}{u:Value}{x0:Value}(h6:Own w3 w.heap.size 42 (.slice (some ⟨g6,0,none⟩) 1 1) [x0])(hb:Below w.heap.size w w3)(hu:∀W,(w3.setCell ⟨g6,0,none⟩ (.iface 86 (.pointer (some ⟨w3.heap.size,0,none⟩)))).heap.size<=W.heap.size->(∀k,k≠g6->k<w3.heap.size->W.heap[k]? =w3.heap[k]?)->bK W l u):
  (loadVar 42 ⟨g6,0,none⟩).run Tryz.prog ((w3.setCell ⟨g6,0,none⟩ (.iface 86 (.pointer (some ⟨w3.heap.size,0,none⟩)))).alloc (.cells #[.int .i64 c,.int .i64 at_,u] 90))=.ok (.agg #[.iface 86 (.pointer (some ⟨w3.heap.size,0,none⟩))]) ((w3.setCell ⟨g6,0,none⟩ (.iface 86 (.pointer (some ⟨w3.heap.size,0,none⟩)))).alloc (.cells #[.int .i64 c,.int .i64 at_,u] 90))
  /\cU ((c,at_)::l) w (.returned (.agg #[.iface 86 (.pointer (some ⟨w3.heap.size,0,none⟩))])) ((w3.setCell ⟨g6,0,none⟩ (.iface 86 (.pointer (some ⟨w3.heap.size,0,none⟩)))).alloc (.cells #[.int .i64 c,.int .i64 at_,u] 90)):=by
 obtain⟨hs,hgr⟩:=h6.store 0 (.iface 86 (.pointer (some ⟨w3.heap.size,0,none⟩)));have hblk:=h6.blk;have hsz:(w3.setCell ⟨g6,0,none⟩ (.iface 86 (.pointer (some ⟨w3.heap.size,0,none⟩)))).heap.size=w3.heap.size:=by simp
 have hb2:Below w.heap.size w (w3.setCell ⟨g6,0,none⟩ (.iface 86 (.pointer (some ⟨w3.heap.size,0,none⟩)))):=hb.setCell hblk.1 _
 have hk:∀k,k≠g6->k<w3.heap.size->((w3.setCell ⟨g6,0,none⟩ (.iface 86 (.pointer (some ⟨w3.heap.size,0,none⟩)))).alloc (.cells #[.int .i64 c,.int .i64 at_,u] 90)).heap[k]? =w3.heap[k]? :=fun k h1 h2=>by
  rw[Below.heap_alloc _ _ _ (by rw[hsz];exact h2),hgr.block k h2 (by simpa using h1)]
 refine⟨?_,⟨_,rfl,⟨_,rfl,cH.of ⟨w3.heap.size,u,rfl,by simp,?_,?_,?_,hu _ (by simp) hk⟩⟩,qt (qs hb2 _)⟩⟩
 ·have:=bD (P:=Tryz.prog) (T:=42) (hs.up (qn _ (.cells #[.int .i64 c,.int .i64 at_,u] 90))) _ Tryz.underlying42 rfl (by kernel_rfl)
  simpa using this
 ·rw[mF hsz];rfl
 ·rw[mF hsz];rfl
 ·rw[mF hsz];rfl
theorem q3Y{c at_:Nat}{w:World}(hL:jK w)(hc:c<=27)(hc0:c≠0):Calls Tryz.prog 73 #[.int .i64 c,.int .i64 at_,.agg #[.nilIface]] w (cU [(c,at_)] w):=by
 have hne:((c:Int)==0)=false:=by simpa using hc0
 have HL:=q7 hL;clear hL
 go_enter Tryz.func73,Tryz.ntmps73
 go_upto_region 1 with(fail)
 obtain⟨w1,he,h5,h6,hb1⟩:=zN w .nilIface .nilIface 42;rw[he];clear he;have H6:=q7 h6;have H5:=q7 h5;have HB:=q7 hb1;clear h5 h6 hb1
 go_wp2_with(first
  |((with_reducible go_at_call 118);refine(q0T hc _).mono ?_;rintro en w2 ⟨rfl,hx⟩;have hb2:=qr hx;clear hx;have K5:=H5.out.up hb2;have K6:=H6.out.up hb2;have HL2:=q7 (HL.out.up (qq HB.out hb2));have HB2:=q7 (qq HB.out hb2);have c5:w2.cell? ⟨w.heap.size,0,none⟩=some .nilIface:=K5.cell (i:=0) (by simp);have H5b:=q7 K5;have H6b:=q7 K6;clear hb2 K5 K6)
  |((with_reducible go_at_call 119);refine(q4T HL2.out).mono ?_;rintro en w3 ⟨vf,rfl,⟨q,rfl⟩,hx⟩;have hb3:=qr hx;clear hx c5;have K6:=H6b.out.up hb3;have HB3:=q7 (qq HB2.out hb3);have c6:w3.cell? ⟨w.heap.size+1,0,none⟩=some .nilIface:=K6.cell (i:=0) (by simp);have f6:w3.frozen? ⟨w.heap.size+1,0,none⟩=false:=K6.free 0;have l6:w.heap.size+1<w3.heap.size:=K6.blk.2;have H6c:=q7 K6;clear hb3 K6))
 obtain⟨hl,hr⟩:=zO (c:=c) (at_:=at_) (l:=[]) (u:=.iface 290 (.pointer (some q))) H6c.out HB3.out (fun _ _ _=>⟨q,rfl⟩)
 exact bC rfl rfl rfl hl hr
theorem bK.same{w w':World}(hs:w.heap.size<=w'.heap.size){w3:World}{g:Nat}(hk:∀k,k<w.heap.size->w'.heap[k]? =w.heap[k]?):∀{l:List (Nat×Nat)} {v:Value},bK w l v->bK w' l v
 |[],_,h=>h
 |x::l,v,⟨p,u,h1,h2,h3,h4,h5,h6⟩=>⟨p,u,h1,qd h2 hs,by rw[World.cell?_of_block (w:=w) (hk p h2)];exact h3,by rw[World.cell?_of_block (w:=w) (hk p h2)];exact h4,by rw[World.cell?_of_block (w:=w) (hk p h2)];exact h5,bK.same hs (w3:=w3) (g:=g) hk h6⟩
theorem q6A{c at_:Nat}{w:World}{y:Nat×Nat}{l:List (Nat×Nat)}{u:Value}(hc:c<=27)(hc0:c≠0)(h:bK w (y::l) u):Calls Tryz.prog 73 #[.int .i64 c,.int .i64 at_,.agg #[u]] w (cU ((c,at_)::y::l) w):=by
 have hne:((c:Int)==0)=false:=by simpa using hc0
 have HE:=q7 h;obtain⟨p,-,rfl,-⟩:=h
 go_enter Tryz.func73,Tryz.ntmps73
 go_upto_region 1 with(fail)
 obtain⟨w1,he,h5,h6,hb1⟩:=zN w (.iface 86 (.pointer (some ⟨p,0,none⟩))) .nilIface 42;rw[he];clear he;have H6:=q7 h6;have H5:=q7 h5;have HB:=q7 hb1;clear h5 h6 hb1
 go_wp2_with((with_reducible go_at_call 118);refine(q0T hc _).mono ?_;rintro en w2 ⟨rfl,hx⟩;have hb2:=qr hx;clear hx;have K5:=H5.out.up hb2;have K6:=H6.out.up hb2;have HB2:=q7 (qq HB.out hb2);have c5:w2.cell? ⟨w.heap.size,0,none⟩=some (.iface 86 (.pointer (some ⟨p,0,none⟩))):=K5.cell (i:=0) (by simp);have c6:w2.cell? ⟨w.heap.size+1,0,none⟩=some .nilIface:=K6.cell (i:=0) (by simp);have f6:w2.frozen? ⟨w.heap.size+1,0,none⟩=false:=K6.free 0;have l6:w.heap.size+1<w2.heap.size:=K6.blk.2;have H6b:=q7 K6;clear hb2 K5 K6)
 obtain⟨hl,hr⟩:=zO (c:=c) (at_:=at_) (l:=y::l) (u:=.iface 86 (.pointer (some ⟨p,0,none⟩))) H6b.out HB2.out (fun W h1 h2=>bK.same (by have:=HB2.out.size;simp at h1;omega) (w3:=w) (g:=0) (fun k hk=>by rw[h2 k (by omega) (qd hk HB2.out.size),HB2.out.block k hk]) HE.out)
 exact bC rfl rfl rfl hl hr
theorem q3Z{c at_:Nat}{w:World}{l:List (Nat×Nat)}{v:Value}(hL:jK w)(hc:c<=27)(hc0:c≠0)(h:bX w l v):Calls Tryz.prog 73 #[.int .i64 c,.int .i64 at_,v] w (cU ((c,at_)::l) w):=by
 obtain⟨e,rfl,he⟩:=h
 cases l with
 |nil=>
  have:e=.nilIface:=by unfold cH at he;rwa [if_pos rfl]at he
  subst this
  exact q3Y hL hc hc0
 |cons y l=>exact q6A hc hc0 he.some
theorem q7o{c at_:Nat}{w:World}(hL:jK w)(hc:c<=27)(hc0:c≠0):Calls Tryz.prog 34 #[.int .i64 c,.int .i64 at_] w (cU [(c,at_)] w):=by
 have HL:=q7 (hL.up (qn w (.cells #[.nilIface] 42)));clear hL
 go_enter Tryz.func34,Tryz.ntmps34
 go_upto_region 1 with(fail)
 have h4:=qE w w.heap.size #[.nilIface] 42 (by simp) (q9 _)
 have H4:=q7 h4;have HB:=q7 (qn w (.cells #[.nilIface] 42));clear h4;generalize w.alloc (.cells #[.nilIface] 42)=w1 at*
 go_wp2_with((with_reducible go_at_call 73);refine(q3Y HL.out hc hc0).mono ?_;rintro en w2 ⟨v,rfl,⟨e,rfl,he⟩,hx⟩;have hb2:=qr hx;clear hx;have hc1:=he.some;have K4:=H4.out.up hb2;have HB2:=q7 (qq HB.out hb2);have c4:w2.cell? ⟨w.heap.size,0,none⟩=some .nilIface:=K4.cell (i:=0) (by simp);have f4:w2.frozen? ⟨w.heap.size,0,none⟩=false:=K4.free 0;obtain⟨p,u,rfl,-⟩:=id hc1;have H4b:=q7 K4;have HC:=q7 hc1;have HB3:=q7 hb2;clear hb2 K4 he hc1)
 have hs:=(H4b.out.store 0 (.iface 86 (.pointer (some ⟨p,0,none⟩)))).1;have hb4:Below w.heap.size w (w2.setCell ⟨w.heap.size,0,none⟩ (.iface 86 (.pointer (some ⟨p,0,none⟩)))):=HB2.out.setCell (q9 _) _;obtain⟨p',q,e1,h1,h2,h3,h4,⟨q',rfl⟩⟩:=HC.out
 cases e1
 have qj2:p≠w.heap.size:=by
  rintro rfl;have:=h2.symm.trans (H4b.out.cell (i:=0) (by simp))
  simp at this
 have hkk:∀o,(w2.setCell ⟨w.heap.size,0,none⟩ (.iface 86 (.pointer (some ⟨p,0,none⟩)))).cell? ⟨p,o,none⟩=w2.cell? ⟨p,o,none⟩:=fun o=>World.cell?_of_block (w:=w2) (Below.heap_setCell _ _ _ _ qj2)
 refine bC rfl rfl rfl (x:=.agg #[.iface 86 (.pointer (some ⟨p,0,none⟩))]) ?_ ⟨_,rfl,⟨_,rfl,cH.of ⟨p,_,rfl,by simpa using h1,by rw[hkk];exact h2,by rw[hkk];exact h3,by rw[hkk];exact h4,⟨_,rfl⟩⟩⟩,qt hb4⟩
 simpa using bD (P:=Tryz.prog) (T:=42) hs _ Tryz.underlying42 rfl (by kernel_rfl)
end Go.Cm
namespace Go.Cm
open Go.RowKit Go.Proofs Go.Proofs.YtnelgjehpbjloaaGreatDoor
def oD:List (String×DataW Unit):=[("errors.errorType",Rows.laid_errors_errorType),("collimator/blame.errBytes",Rows.laid_collimator_blame_errBytes),("collimator/blame.errCodes",Rows.laid_collimator_blame_errCodes),("collimator/blame.errTexts",Rows.laid_collimator_blame_errTexts),("collimator/blame.errRoom",Rows.laid_collimator_blame_errRoom),("collimator/blame.errOther",Rows.laid_collimator_blame_errOther)]
theorem q8f:Tryz.prog.globalNamed "errors.errorType" =some 0:=by kernel_rfl
theorem q8g:(Tryz.prog.cutTypes.find? (·.1== "internal/reflectlite.rtype")).map (·.2)=some 239:=by kernel_rfl
theorem q7e:((List.range Tryz.prog.types.size).filter fun t=>Tryz.prog.rowNamed t [101,114,114,111,114])=[40]:=by kernel_rfl
theorem q1X:typeHandle Tryz.prog 40=.pointer (some ⟨6,40,none⟩):=by kernel_rfl
theorem q1Y: "*" ++ "errors.errorString" = "*errors.errorString" :=by decide
theorem q8h(u:TypeId)(h:Tryz.prog.typeName? 3 u=some "*errors.errorString"):u=290:=
 typeName_ptr_named (nm:= "errors.errorString") (by rw[q1Y];kernel_rfl) (by kernel_rfl) (by decide) u (by rw[q1Y];exact h)
theorem q8i:Tryz.prog.cellsOf 309=1:=by kernel_rfl
theorem q8j:Tryz.prog.cellsOf 9=1:=by kernel_rfl
theorem q3G{W:World}(h:handlesMet Tryz.prog [("errors.errorType",Rows.laid_errors_errorType)] W):W.cell? ⟨0,0,none⟩=some (.iface 239 (.agg #[.pointer (some ⟨6,40,none⟩)])):=by
 obtain⟨name,u,ty,e1,e2,e3,e4,e5⟩:=h _ (List.mem_singleton.2 rfl);have en:name=[101,114,114,111,114]:=(ql e1).symm;subst en;obtain rfl:=ql (q8g.symm.trans e2);have hm:ty∈(List.range Tryz.prog.types.size).filter fun t=>Tryz.prog.rowNamed t [101,114,114,111,114]:=List.mem_filter.2 ⟨List.mem_range.2 e3,e4⟩
 rw[q7e]at hm;obtain rfl:=List.mem_singleton.1 hm;rw[q1X]at e5
 simpa using World.var?_cell q8f e5 0
theorem tJ{W:World}{n:String}{g0 g:Nat}{t:TypeId}{cs:Array Value}{fuel:Nat}{p:List MemPlace}{text:List UInt8}(hg0:Tryz.prog.globalNamed n=some g0)(ht0:(Tryz.prog.globals[g0]?).map (·.type)=some 40)(hg:Tryz.prog.globalNamed n=some g)(ht:(Tryz.prog.globals[g]?).map (·.type)=some t)(hv:W.var? Tryz.prog n=some cs)
  (htr:DataW.trod (fun _=>()) Tryz.prog W 0 (fun _=>true) false fuel t cs.toList=some (.iface "*errors.errorString" (.ptr (.agg [.lit (.string text)])),p)) (hok:∀u v,W.cell? ⟨g,0,none⟩=some (.iface u v)->Value.okWide Tryz.prog W .any 0 u v):
  ∃q,W.cell? ⟨g0,0,none⟩=some (.iface 290 (.pointer (some q))):=by
 obtain rfl:=ql (hg0.symm.trans hg);obtain rfl:=ql (ht0.symm.trans ht)
 obtain⟨a,s,hcs,-⟩:=errorString_of_trod (nm:= "*errors.errorString") Tryz.underlying40 q8h Tryz.underlying290 Tryz.underlying309 rfl rfl Tryz.underlying9 q8i q8j htr (fun u v e=>hok u v (by
  have h0:=World.var?_cell hg0 hv 0;rw[h0,<-Array.getElem?_toList,e];rfl))
 refine⟨a,?_⟩;have h0:=World.var?_cell hg0 hv 0;rw[h0,<-Array.getElem?_toList,hcs];rfl
theorem D7{W:World}{n:String}{g0 g:Nat}{t:TypeId}{cs:Array Value}{fuel:Nat}{p:List MemPlace}{d:DataW Unit}(hg0:Tryz.prog.globalNamed n=some g0)(ht0:(Tryz.prog.globals[g0]?).map (·.type)=some 40)(hg:Tryz.prog.globalNamed n=some g)(ht:(Tryz.prog.globals[g]?).map (·.type)=some t)
  (htr:DataW.trod (fun _=>()) Tryz.prog W 0 (fun _=>true) false fuel t cs.toList=some (.iface "*errors.errorString" d,p)):cs.size≠0:=by
 obtain rfl:=ql (hg0.symm.trans hg);obtain rfl:=ql (ht0.symm.trans ht);obtain⟨_,u,v,e,-⟩:=iface_of_trod Tryz.underlying40 htr;rw[<-Array.length_toList,e];exact Nat.one_ne_zero
theorem jK.of{W:World}(h:laidMetH Tryz.prog oD W):jK W:=by
 have h':laidMet Tryz.prog [("collimator/blame.errBytes",Rows.laid_collimator_blame_errBytes),("collimator/blame.errCodes",Rows.laid_collimator_blame_errCodes),("collimator/blame.errTexts",Rows.laid_collimator_blame_errTexts),("collimator/blame.errRoom",Rows.laid_collimator_blame_errRoom),("collimator/blame.errOther",Rows.laid_collimator_blame_errOther)] W/\handlesMet Tryz.prog [("errors.errorType",Rows.laid_errors_errorType)] W:=h;obtain⟨⟨ps,hl,-,hok⟩,hh⟩:=h';obtain⟨g1,t1,c1,f1,p1,q1,a1,b1,v1,r1,⟨g2,t2,c2,f2,p2,q2,a2,b2,v2,r2,⟨g3,t3,c3,f3,p3,q3,a3,b3,v3,r3,⟨g4,t4,c4,f4,p4,q4,a4,b4,v4,r4,⟨g5,t5,c5,f5,p5,q5,a5,b5,v5,r5,-,e5⟩,e4⟩,e3⟩,e2⟩,e1⟩:=hl
 have hrow:∀(g:Nat) (c:Array Value),c.size≠0->MemPlace.cell g 0∈MemPlace.row ⟨g,0,none⟩ c.size:=fun g c h=>by
  obtain⟨k,hk⟩:=Nat.exists_eq_succ_of_ne_zero h;rw[hk]
  exact List.mem_map.2 ⟨0,List.mem_range.2 (Nat.succ_pos k),rfl⟩
 have i1:=hrow g1 c1 (D7 (g0:=1) (by kernel_rfl) (by kernel_rfl) a1 b1 r1)
 have i2:=hrow g2 c2 (D7 (g0:=2) (by kernel_rfl) (by kernel_rfl) a2 b2 r2)
 have i3:=hrow g3 c3 (D7 (g0:=3) (by kernel_rfl) (by kernel_rfl) a3 b3 r3)
 have i4:=hrow g4 c4 (D7 (g0:=4) (by kernel_rfl) (by kernel_rfl) a4 b4 r4)
 have i5:=hrow g5 c5 (D7 (g0:=5) (by kernel_rfl) (by kernel_rfl) a5 b5 r5)
 subst e5 e4 e3 e2 e1;have s1:=tJ (g0:=1) (by kernel_rfl) (by kernel_rfl) a1 b1 v1 r1 (hok g1 0 (by simp[i1])).2
 have s2:=tJ (g0:=2) (by kernel_rfl) (by kernel_rfl) a2 b2 v2 r2 (hok g2 0 (by simp[i2])).2
 have s3:=tJ (g0:=3) (by kernel_rfl) (by kernel_rfl) a3 b3 v3 r3 (hok g3 0 (by simp[i3])).2
 have s4:=tJ (g0:=4) (by kernel_rfl) (by kernel_rfl) a4 b4 v4 r4 (hok g4 0 (by simp[i4])).2
 have s5:=tJ (g0:=5) (by kernel_rfl) (by kernel_rfl) a5 b5 v5 r5 (hok g5 0 (by simp[i5])).2
 refine⟨q3G hh,fun g hg=>?_⟩
 rcases hg with rfl|rfl|rfl|rfl|rfl
 ·exact s1
 ·exact s2
 ·exact s3
 ·exact s4
 ·exact s5
noncomputable def q1Z:Nat:=(World.holding Tryz.prog default ⟨#[],#[],[]⟩).heap.size
def q20(k:Nat):ByteArray:=if k=0 then⟨#[98,121,116,101,115]⟩else if k=1 then⟨#[99,111,100,101,115]⟩else if k=2 then⟨#[116,101,120,116,115]⟩else if k=3 then⟨#[114,111,111,109]⟩else⟨#[111,116,104,101,114]⟩
def X3(h:Array Obj)(g:Nat)(v:Value):Array Obj:=h.modify g fun
 |.cells _ t frozen=>.cells #[v] t frozen
 |o=>o
noncomputable def tK(os:Os):World:=
 let w0:=World.holding Tryz.prog os ⟨#[.cells #[.string (q20 0)] 309,.cells #[.string (q20 1)] 309,.cells #[.string (q20 2)] 309,.cells #[.string (q20 3)] 309,.cells #[.string (q20 4)] 309],#[],[]⟩
 {w0 with heap:=X3 (X3 (X3 (X3 (X3 (X3 w0.heap 0 (.iface 239 (.agg #[.pointer (some ⟨6,40,none⟩)])))
  1 (.iface 290 (.pointer (some ⟨q1Z,0,none⟩)))) 2 (.iface 290 (.pointer (some ⟨q1Z+1,0,none⟩)))) 3 (.iface 290 (.pointer (some ⟨q1Z+2,0,none⟩))))
  4 (.iface 290 (.pointer (some ⟨q1Z+3,0,none⟩)))) 5 (.iface 290 (.pointer (some ⟨q1Z+4,0,none⟩)))}
theorem iN(os:Os)(args:Array Value):laidMetH Tryz.prog oD ((tK os).forCall (fun _ _=>0) ⟨#[],args,[]⟩).memory:=
 laidMetH_of_parts (laidMet_of_run' 8 (by kernel_rfl) (by kernel_rfl)) (by kernel_rfl)
end Go.Cm
