/- PROVED: MiniOrder returns true for every automaton and every list of bytes, and leaves its arguments as they were. Conditions: none. -/
import Derived.Test.YtjeclleophlliaaLawO
import Derived.Test.YtjeclleophlliaaOpen
namespace Go.Cm
open Go.RowKit Go.Proofs Go.WideShapes Go.ChangeShapes Go.Deep
theorem open_bytes {H : Type} {enc : TypeId × Value → H} {w : World} {base : Nat} {held : Bool} {v : Value} {x : DataW H} {p : List MemPlace} {r : Reach} {b0 : Nat} (hv : Value.okWide Try.prog w r b0 38 v) (h : DataW.Trod enc Try.prog w base (fun _ => true) held 38 v x p) (hw : ∀ n ∈ x.weights Try.prog 38, n ≤ reachBytes) : ∃ l, Sl w v (bytesV l) := by
  obtain ⟨a0, len0, cap0, rfl⟩ := okWide_slice Try.underlying38 hv
  obtain ⟨fuel, hf⟩ := h
  have c5 : Try.prog.cellsOf 5 = 1 := by kernel_rfl
  have b5 : Try.prog.bytesOf 5 = 1 := by kernel_rfl
  obtain ⟨oa, len, cap, b, off, V, D, hcs, hd, hx⟩ := open_hd Try.underlying38 c5 (by rw [b5]; decide) hf hw
  have hcs' : Value.slice a0 len0 cap0 = .slice oa len cap := by
    have : [Value.slice a0 len0 cap0] = [Value.slice oa len cap] := hcs
    injection this
  rw [hcs']
  have hV : ∀ i, i < len → ∃ z : UInt8, V i = .int .u8 (z.toNat : Int) := fun i hi => by
    obtain ⟨-, ⟨n, p, h2⟩, -⟩ := hx i hi
    obtain ⟨k, e1, -, hwf⟩ := DataW.trod_int Try.underlying5 h2
    have hk : 0 ≤ k ∧ k ≤ 255 := by
      simp [Lit.wf, IntKind.min, IntKind.max, IntKind.signed, IntKind.bits] at hwf
      omega
    refine ⟨UInt8.ofNat k.toNat, ?_⟩
    have e2 : ((UInt8.ofNat k.toNat).toNat : Int) = k := by
      rw [UInt8.toNat_ofNat']; omega
    rw [e2]
    simpa using e1
  obtain ⟨Z, hZ⟩ := choose_lt hV
  refine ⟨(List.range len).map Z, oa, cap, b, off, by simp [bytesV], by simpa [bytesV] using hd, fun i hi => ?_⟩
  have hi' : i < len := by simpa [bytesV] using hi
  rw [(hx i hi').1, hZ i hi']
  simp [bytesV, List.getD, hi']
end Go.Cm
namespace Go.Proofs.Ytjeclleophlliaa
open Go.ChangeShapes Go.WideShapes Go.ChangeAt Go.RowKit Go.Cm

theorem own : ownKnob Try.prog.godebug = none := by kernel_rfl
theorem laid : laidOutB Try.prog = true := by kernel_rfl

set_option maxRecDepth 100000 in
theorem miniOrder_lifted (os : Os) (started : os.Started) (H : Type) (enc : TypeId × Value → H) :
    ReturnsInHanded {} Try.checked os 6 .any (Rows.miniOrderSpec.pre6 enc Try.prog Try.f6 Rows.miniOrderRow.domain false) (Rows.miniOrderSpec.post enc Try.prog Try.f6 false true false false) := by
  refine returnsInHanded_of_change_sized (C := Try.checked) own started (by kernel_rfl) Try.func6
    (ChangeSpec.witness6 (enc := enc) (C := Try.checked) false ⟨#[], #[.agg zArr, .slice none 0 0], []⟩ 8 (by kernel_rfl) (by kernel_rfl) (by kernel_rfl) (by kernel_rfl)) ?_
  intro W base args ds gs before hval0 hW _ hsz _
  have hval : ∀ (j : Nat) t v, Try.f6.params[j]? = some t → args[j]? = some v → Value.okWide Try.prog W .any base t v := hval0
  have hW' := hW
  obtain ⟨p, q, hA0, hV, rfl, hfz, hnd⟩ := hW
  have hA : DataW.TrodAll enc Try.prog W 0 (fun _ => true) true Try.f6.params.toList args.toList ds p := hA0
  rw [Try.params6] at hA hval
  obtain ⟨v0, v1, d0, d1, p0, p1, rfl, rfl, rfl, h0, h1⟩ := trodAll_two hA
  obtain ⟨rfl, rfl⟩ := trodVars_none hV
  have hw0 : ∀ n ∈ d0.weights Try.prog 26, n ≤ reachBytes := fun n hn => by
    have := List.all_eq_true.1 hsz n (DataW.weights_mem_each (j := 0) (t := 26) (by rw [Try.params6]; rfl) rfl n hn)
    simpa using this
  have hw1 : ∀ n ∈ d1.weights Try.prog 38, n ≤ reachBytes := fun n hn => by
    have := List.all_eq_true.1 hsz n (DataW.weights_mem_each (j := 1) (t := 38) (by rw [Try.params6]; rfl) rfl n hn)
    simpa using this
  obtain ⟨d, hd⟩ := open_dfa (hval 0 26 v0 rfl rfl) h0 hw0
  obtain ⟨sw, hsw⟩ := open_bytes (hval 1 38 v1 rfl rfl) h1 hw1
  clear hA0 hval0
  simp only [List.append_nil] at hW'
  have hlt : ∀ x ∈ p0 ++ p1, x.block < W.heap.size := fun x hx => hW'.lt x (by simpa using hx)
  refine (miniOrder v0 v1 d sw W hd hsw).mono fun e W' ⟨he, x, hw⟩ => ?_
  subst he
  have hb : Below W.heap.size W W' := hw ▸ ext_below W x
  have hstay0 : ∀ sp : Nat → Bool, (∀ x ∈ p0, sp x.block = true) → DataW.Trod enc Try.prog W' 0 sp true 26 v0 d0 p0 := fun sp hsp =>
    WideElems.Trod_stays laid (by kernel_rfl) (of_decide_eq_true (by kernel_rfl)) h0 (fun x hx => hb.same (hlt x (by simp [hx]))) hsp
  have hstay1 : ∀ sp : Nat → Bool, (∀ x ∈ p1, sp x.block = true) → DataW.Trod enc Try.prog W' 0 sp true 38 v1 d1 p1 := fun sp hsp =>
    WideElems.Trod_stays laid (by kernel_rfl) (of_decide_eq_true (by kernel_rfl)) h1 (fun x hx => hb.same (hlt x (by simp [hx]))) hsp
  exact ⟨_, rfl, post_of_below (pa := p0 ++ p1) (pv := []) hW' (fun _ _ _ => trodAll_mk1 (shut_bool Try.underlying4 _)) (fun sp hsp => trodAll_mk2 (hstay0 sp (fun x hx => hsp x (by simp [hx]))) (hstay1 sp (fun x hx => hsp x (by simp [hx])))) (fun _ _ => rfl) (by simp) hb (ok_one (by kernel_rfl) rfl (okWide_bool_mk Try.underlying4 _))⟩

theorem miniOrder_holds : Rows.MiniOrderSaid :=
  OpenClaim.holds_of_wide 6 Try.f6 rfl rfl rfl rfl rfl rfl rfl ⟨rfl, rfl, rfl, rfl, rfl⟩ rfl rfl rfl rfl rfl (by kernel_rfl) Try.func6 (by kernel_rfl)
    (of_decide_eq_true (by kernel_rfl)) (by unfold Func.isWrapper; first | (rw [if_pos (by decide +kernel)]; kernel_rfl) | (rw [if_neg (by decide +kernel)]; exact ⟨rfl, rfl⟩))
    (fun os started H enc _ => miniOrder_lifted os started H enc)
#print axioms miniOrder_holds
end Go.Proofs.Ytjeclleophlliaa
