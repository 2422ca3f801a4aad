/- Walks of functions and plain facts, joined and squeezed by a program. Conditions: as each says. -/
import Derived.Test.YtnelgjehpbjloaaGreatDoorGXN
import Derived.Test.YtnelgjehpbjloaaGreatDoorGXO
set_option maxHeartbeats 8000000
set_option maxRecDepth 100000
set_option linter.unusedSimpArgs false
namespace Go.Cm
open Go.RowKit Go.Proofs
theorem lB(W:World)(A:Array Value)(o:Nat)(v:Int)(h:A[o]? =some (.int .i64 v)):(part 3 A o).run Tryz.prog W=.ok (.int .i64 v) W:=by
 unfold part;have h1:(isAgg 3).run Tryz.prog W=.ok false W:=by unfold isAgg;rw[Sem.run_bind,run_underlying Tryz.underlying3];rfl
 rw[Sem.run_bind,h1];simp only[Result.andThen_ok,h];rfl
theorem xX(W:World)(A:Array Value)(o:Nat)(v:ByteArray)(h:A[o]? =some (.string v)):(part 9 A o).run Tryz.prog W=.ok (.string v) W:=by
 unfold part;have h1:(isAgg 9).run Tryz.prog W=.ok false W:=by unfold isAgg;rw[Sem.run_bind,run_underlying Tryz.underlying9];rfl
 rw[Sem.run_bind,h1];simp only[Result.andThen_ok,h];rfl
theorem D6(W:World)(A:Array Value)(o:Nat)(v:Bool)(h:A[o]? =some (.bool v)):(part 4 A o).run Tryz.prog W=.ok (.bool v) W:=by
 unfold part;have h1:(isAgg 4).run Tryz.prog W=.ok false W:=by unfold isAgg;rw[Sem.run_bind,run_underlying Tryz.underlying4];rfl
 rw[Sem.run_bind,h1];simp only[Result.andThen_ok,h];rfl
theorem lP(W:World)(h:GH):(Op.equalIn 10000 23 (.agg (ghC h)) (.agg (ghC h))).run Tryz.prog W=.ok true W:=by
 have hu:Tryz.prog.underlying 23=some (.struct (Tryz.prog.fieldsOf 23)):=by simp only[Program.fieldsOf,Tryz.underlying23]
 rw[run_equalIn_struct W 9999 23 _ _ hu (by kernel_rfl)]
 simp only[Program.fieldsOf,Tryz.underlying23];have p0:=fun(W:World)=>lB W (ghC h) 0 h.time rfl
 have p1:=fun(W:World)=>xX W (ghC h) 1 h.extra rfl
 have p2:=fun(W:World)=>xX W (ghC h) 2 h.name rfl
 have p3:=fun(W:World)=>xX W (ghC h) 3 h.note rfl
 have p4:=fun(W:World)=>lB W (ghC h) 4 h.level rfl
 have p5:=fun(W:World)=>lB W (ghC h) 5 h.os rfl
 have p6:=fun(W:World)=>D6 W (ghC h) 6 h.text rfl
 have p7:=fun(W:World)=>D6 W (ghC h) 7 h.sum rfl
 have p8:=fun(W:World)=>lB W (ghC h) 8 h.flags rfl
 have ei:∀(a:Int) (W:World),(Op.equalIn 9999 3 (.int .i64 a) (.int .i64 a)).run Tryz.prog W=.ok true W:=fun a W=>by
  rw[run_equalIn_int W 9998 3 .i64 .i64 a a Tryz.underlying3];simp
 have es:∀(a:ByteArray) (W:World),(Op.equalIn 9999 9 (.string a) (.string a)).run Tryz.prog W=.ok true W:=fun a W=>by
  rw[run_equalIn_string W 9998 9 a a Tryz.underlying9];simp
 have eb:∀(a:Bool) (W:World),(Op.equalIn 9999 4 (.bool a) (.bool a)).run Tryz.prog W=.ok true W:=fun a W=>by
  rw[run_equalIn_bool W 9998 4 a a Tryz.underlying4];simp
 simp only[Op.eqFields,ne_eq,String.reduceEq,not_false_eq_true,if_true,Sem.run_bind,Sem.run_ite,Sem.run_pure,p0,p1,p2,p3,p4,p5,p6,p7,p8,Result.andThen_ok,ei,es,eb,Bool.not_true,Bool.false_eq_true,if_false]
theorem pP(W:World)(o:BinOp)(x y:Operand)(X Y:Array Value):(eqGuard o 23 x y (.agg X) (.agg Y)).run Tryz.prog W=.ok () W:=run_eqGuard_agg W o 23 x y X Y (by kernel_rfl)
end Go.Cm
