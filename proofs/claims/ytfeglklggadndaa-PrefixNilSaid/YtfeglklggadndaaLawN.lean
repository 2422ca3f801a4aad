/- The walk of the law PrefixNil. Conditions: the text is not too long. -/
import Derived.Test.YtfeglklggadndaaLawK
namespace Go.Cm
open Go.RowKit Go.Proofs

theorem thereNil (w : World) : Calls Try.prog 39 #[.pointer none] w fun e w' => e = .returned (.bool false) ∧ w' = w := by
  go_enter Try.func39, Try.ntmps39
  go_wp2
  go_ret
  exact ⟨rfl, rfl⟩
theorem thereZ {w : World} {g : Nat} (h : w.cell? ⟨g, 0, none⟩ = some (.bool false)) (hg : g < w.heap.size) : Calls Try.prog 39 #[.pointer (some ⟨g, 0, none⟩)] w fun e w' => e = .returned (.bool false) ∧ w' = w := by
  go_enter Try.func39, Try.ntmps39
  go_wp2
  go_ret
  exact ⟨rfl, rfl⟩
theorem copyNil (w : World) : Calls Try.prog 30 #[.pointer none] w fun e w' => e = .returned (.pointer none) ∧ w' = w := by
  go_enter Try.func30, Try.ntmps30
  go_wp2_with (go_at_call 39; refine (thereNil _).mono ?_; rintro e w' ⟨rfl, hw'⟩; rw [hw']; clear hw')
  go_ret
  exact ⟨rfl, rfl⟩
theorem copyZ {w : World} {g : Nat} (h : w.cell? ⟨g, 0, none⟩ = some (.bool false)) (hg : g < w.heap.size) : Calls Try.prog 30 #[.pointer (some ⟨g, 0, none⟩)] w fun e w' => e = .returned (.pointer none) ∧ w' = w := by
  have HT := Lib.hid (thereZ h hg)
  go_enter Try.func30, Try.ntmps30
  go_wp2_with (go_at_call 39; refine HT.out.mono ?_; rintro e w' ⟨rfl, hw'⟩; rw [hw']; clear hw')
  go_ret
  exact ⟨rfl, rfl⟩
def RetNil (w : World) (e : Ending) (w' : World) : Prop := e = .returned (.tuple #[.int .i64 0, .int .i64 25]) ∧ w' = w
theorem readNilT (v : Value) (w : World) : Calls Try.prog 16 #[.pointer none, v] w (RetNil w) := by
  go_enter Try.func16, Try.ntmps16
  go_wp2
  go_ret2
  exact ⟨rfl, rfl⟩
theorem readZT {w : World} {gt : Nat} (v : Value) (h : w.cell? ⟨gt, 0, none⟩ = some (.bool false)) (hg : gt < w.heap.size) : Calls Try.prog 16 #[.pointer (some ⟨gt, 0, none⟩), v] w (RetNil w) := by
  go_enter Try.func16, Try.ntmps16
  go_wp2
  go_ret2
  exact ⟨rfl, rfl⟩
theorem readNilR {w : World} {gt : Nat} (h : w.cell? ⟨gt, 0, none⟩ = some (.bool true)) (hg : gt < w.heap.size) : Calls Try.prog 16 #[.pointer (some ⟨gt, 0, none⟩), .pointer none] w (RetNil w) := by
  go_enter Try.func16, Try.ntmps16
  go_wp2_with (go_at_call 30; refine (copyNil _).mono ?_; rintro e w' ⟨rfl, hw'⟩; rw [hw']; clear hw')
  go_ret2
  exact ⟨rfl, rfl⟩
theorem readZR {w : World} {gt g : Nat} (h : w.cell? ⟨gt, 0, none⟩ = some (.bool true)) (hg : gt < w.heap.size) (h2 : w.cell? ⟨g, 0, none⟩ = some (.bool false)) (hg2 : g < w.heap.size) : Calls Try.prog 16 #[.pointer (some ⟨gt, 0, none⟩), .pointer (some ⟨g, 0, none⟩)] w (RetNil w) := by
  have HT := Lib.hid (copyZ h2 hg2)
  go_enter Try.func16, Try.ntmps16
  go_wp2_with (go_at_call 30; refine HT.out.mono ?_; rintro e w' ⟨rfl, hw'⟩; rw [hw']; clear hw')
  go_ret2
  exact ⟨rfl, rfl⟩
theorem symNil (w : World) : Calls Try.prog 17 #[.pointer none] w fun e w' => e = .returned (.int .i64 0) ∧ w' = w := by
  go_enter Try.func17, Try.ntmps17
  go_wp2
  go_ret
  exact ⟨rfl, rfl⟩
theorem symZ {w : World} {gt : Nat} (h : w.cell? ⟨gt, 1, none⟩ = some (.int .i64 0)) (hg : gt < w.heap.size) : Calls Try.prog 17 #[.pointer (some ⟨gt, 0, none⟩)] w fun e w' => e = .returned (.int .i64 0) ∧ w' = w := by
  go_enter Try.func17, Try.ntmps17
  go_wp2
  go_ret
  exact ⟨rfl, rfl⟩
theorem thereNilW (w : World) : Calls Try.prog 27 #[.pointer none] w fun e w' => e = .returned (.bool false) ∧ w' = w := by
  go_enter Try.func27, Try.ntmps27
  go_wp2
  go_ret
  exact ⟨rfl, rfl⟩
theorem putNil (a b : Int) (w : World) : Calls Try.prog 23 #[.pointer none, .int .i64 a, .int .i64 b] w fun e w' => e = .returned (.int .i64 25) ∧ w' = w := by
  go_enter Try.func23, Try.ntmps23
  go_wp2_with (go_at_call 27; refine (thereNilW _).mono ?_; rintro e w' ⟨rfl, hw'⟩; rw [hw']; clear hw')
  go_ret
  exact ⟨rfl, rfl⟩
theorem writeNil (v : Value) (n : Int) (w : World) : Calls Try.prog 9 #[.pointer none, v, .int .i64 n] w fun e w' => e = .returned (.int .i64 25) ∧ w' = w := by
  go_enter Try.func9, Try.ntmps9
  go_wp2_with (go_at_call 23; refine (putNil 0 0 _).mono ?_; rintro e w' ⟨rfl, hw'⟩; rw [hw']; clear hw')
  go_ret
  exact ⟨rfl, rfl⟩

def tab0 : Array Value := ([Value.bool false, .int .i64 0] ++ List.replicate 1536 (Value.int .i64 0) ++ [Value.slice none 0 0]).toArray
theorem build_tab0 (W : World) : (Instr.build 42 #[]).run Try.prog W = .ok (.agg tab0) W := by kernel_rfl
theorem tab0_size : tab0.size = 1539 := by
  show ([Value.bool false, .int .i64 0] ++ List.replicate 1536 (Value.int .i64 0) ++ [Value.slice none 0 0]).toArray.size = 1539
  rw [List.size_toArray, List.length_append, List.length_append, List.length_replicate]; rfl
theorem tab0_at : tab0[0]? = some (.bool false) ∧ tab0[1]? = some (.int .i64 0) := by
  unfold tab0
  rw [List.getElem?_toArray, List.getElem?_toArray, List.append_assoc]
  exact ⟨rfl, rfl⟩
theorem wpList_build0 {P : Program} {ops : Array Oper} {rest : List Oper} {o : Oper} {a : Act} {w : World} {Q : Exit → Act → World → Prop} (hgd : o.guard = none) (t : TypeId) (ho : o.op = .build t #[])
    (C : Array Value) (hb : ∀ W, (Instr.build t #[]).run P W = .ok (.agg C) W)
    (h : wpList P ops Q rest (a.put o.dst (.agg C)) w) : wpList P ops Q (o :: rest) a w := by
  refine wpList_plain hgd fun K hK => ?_
  unfold Oper.wp execOp
  simp only [ho, List.map_toArray, List.map_nil, Sem.run_bind, hb, Result.andThen_ok]
  exact hK _ _ h
theorem e11 : errI [1, 1] = 0 := by decide
theorem n11 : ([1, 1] : List Int).map Int.toNat = [1, 1] := by decide

set_option maxRecDepth 100000 in
set_option maxHeartbeats 1000000 in
theorem prefixNil (s : ByteArray) (n : Int) (w : World) (hs63 : s.size ≤ 140737488351232) : Calls Try.prog 4 #[.string s, .int .i64 n] w fun e w' => e = .returned (.bool true) ∧ ∃ x, w' = ext w x := by
  by_cases hbig : s.size > 1000
  · have hbi : (s.size : Int) > 1000 := by omega
    go_enter Try.func4, Try.ntmps4
    go_wp2_with (go_at_call 7; refine (knownP _).mono ?_; rintro e w1 ⟨rfl, x, rfl⟩)
    go_ret
    exact ⟨rfl, (ex_ext (by repeat (first | exact Below.refl _ _ | assumption | refine b_drewN ?_ _ | refine Below.drew ?_ | refine b_ext' ?_ _ | refine b_alloc' ?_ _)))⟩
  · have hbi : ¬ (s.size : Int) > 1000 := by omega
    have hbd := build_tab0
    obtain ⟨ht0, ht1⟩ := tab0_at
    have hts := tab0_size
    obtain ⟨A, hA⟩ : ∃ A, A = tab0 := ⟨_, rfl⟩
    rw [← hA] at hbd ht0 ht1 hts
    clear hA
    have hnew : ∀ W v, IntsAt W v [1, 1] → Calls Try.prog 15 #[v] W fun e w' => ∃ g, e = .returned (.tuple #[.pointer (some ⟨g, 0, none⟩), .int .i64 0]) ∧ (w'.cell? ⟨g, 0, none⟩ = some (.bool true) ∧ g < w'.heap.size) ∧ Below W.heap.size W w' := fun W v hv => (newP v [1, 1] W hv).mono fun e w' ⟨hb, h⟩ => by
      rcases h with ⟨-, g, he, E, fs, vf, hT, -⟩ | ⟨hne, -⟩
      · exact ⟨g, he, ⟨hT.c0, hT.blk.2⟩, hb⟩
      · exact absurd e11 hne
    have HN := Lib.hid hnew
    clear hnew
    have hc0 : (w.alloc (.cells A 42)).cell? ⟨w.heap.size, 0, none⟩ = some (.bool false) := by rw [World.cell?_alloc_new, ht0]
    have hc1 : (w.alloc (.cells A 42)).cell? ⟨w.heap.size, 1, none⟩ = some (.int .i64 0) := by rw [World.cell?_alloc_new, ht1]
    have HC0 := Lib.hid hc0
    have HC1 := Lib.hid hc1
    have HS1 : Hid (w.heap.size < (w.alloc (.cells A 42)).heap.size) := Lib.hid (by simp)
    have HB1 := Lib.hid (below_alloc w (.cells A 42))
    clear hc0 hc1 ht0 ht1
    go_enter Try.func4, Try.ntmps4
    go_wp2_with (first | (refine wpList_build0 rfl 42 rfl A hbd ?_) | (go_at_call 14; refine (newS s 0 (by omega) (by omega) _).mono ?_; rintro e w2 ⟨gr, rfl, hbx, hge, hb2⟩; have HB2 := Lib.hid (HB1.out.trans (hb2.mono HB1.out.size)); have HX2 := Lib.hid hb2; clear hbx hge hb2))
    have HI2 := Lib.hid (lit_ints w2 [1, 1] (by decide))
    refine (HN.out _ _ HI2.out).mono ?_
    rintro e w3 ⟨gu, rfl, ⟨hu0, hus⟩, hb3⟩
    have hx3 : Below (w.alloc (.cells A 42)).heap.size (w.alloc (.cells A 42)) w3 := (HX2.out.alloc HX2.out.size (.cells (ints [1, 1]).toArray 3)).trans (hb3.mono (Nat.le_trans HX2.out.size (by simp)))
    have hz0 := (hx3.cell (p := ⟨w.heap.size, 0, none⟩) HS1.out).trans HC0.out
    have hz1 := (hx3.cell (p := ⟨w.heap.size, 1, none⟩) HS1.out).trans HC1.out
    have hzs : w.heap.size < w3.heap.size := Nat.lt_of_lt_of_le HS1.out hx3.size
    have HB3 : Hid (Below w.heap.size w w3) := Lib.hid (HB1.out.trans (hx3.mono HB1.out.size))
    clear hx3 hb3 HX2 HB2 HI2 HN HC0 HC1 HS1 HB1 hbd hts
    have HZ := Lib.hid (readZT (.pointer (some ⟨gr, 0, none⟩)) hz0 hzs)
    have HR0 := Lib.hid (readNilR hu0 hus)
    have hq0 : (w3.alloc (.cells #[.bool false, .string ⟨#[]⟩, .int .i64 0] 51)).cell? ⟨w3.heap.size, 0, none⟩ = some (.bool false) := by rw [World.cell?_alloc_new]; rfl
    have hqs : w3.heap.size < (w3.alloc (.cells #[.bool false, .string ⟨#[]⟩, .int .i64 0] 51)).heap.size := by simp
    have HR1 := Lib.hid (readZR (w := w3.alloc (.cells #[.bool false, .string ⟨#[]⟩, .int .i64 0] 51)) (gt := gu) (g := w3.heap.size) (by rw [World.cell?_alloc_past _ _ _ hus]; exact hu0) (by simp; omega) hq0 hqs)
    have HSZ : Hid (Calls Try.prog 17 #[.pointer (some ⟨w.heap.size, 0, none⟩)] (w3.alloc (.cells #[.bool false, .string ⟨#[]⟩, .int .i64 0] 51)) fun e w' => e = .returned (.int .i64 0) ∧ w' = w3.alloc (.cells #[.bool false, .string ⟨#[]⟩, .int .i64 0] 51)) := Lib.hid (symZ (by rw [World.cell?_alloc_past _ _ _ hzs]; exact hz1) (by simp; omega))
    have HB4 : Hid (Below w.heap.size w (w3.alloc (.cells #[.bool false, .string ⟨#[]⟩, .int .i64 0] 51))) := Lib.hid (HB3.out.alloc HB3.out.size _)
    clear hq0 hqs
    unfold RetNil at HZ HR0 HR1
    have hrn := fun W => readNilT (.pointer (some ⟨gr, 0, none⟩)) W
    unfold RetNil at hrn
    have HRN := Lib.hid hrn
    clear hrn
    go_wp2_with (first | (go_at_call 16; (with_reducible refine (HRN.out _).mono ?_); rintro e w' ⟨rfl, hw'⟩; rw [hw']; clear hw') | (go_at_call 16; (with_reducible refine HZ.out.mono ?_); rintro e w' ⟨rfl, hw'⟩; rw [hw']; clear hw') | (go_at_call 16; (with_reducible refine HR0.out.mono ?_); rintro e w' ⟨rfl, hw'⟩; rw [hw']; clear hw') | (go_at_call 16; (refine HR1.out.mono ?_); rintro e w' ⟨rfl, hw'⟩; rw [hw']; clear hw') | (go_at_call 17; (with_reducible refine (symNil _).mono ?_); rintro e w' ⟨rfl, hw'⟩; rw [hw']; clear hw') | (go_at_call 17; (refine HSZ.out.mono ?_); rintro e w' ⟨rfl, hw'⟩; rw [hw']; clear hw') | (go_at_call 9; refine (writeNil _ _ _).mono ?_; rintro e w' ⟨rfl, hw'⟩; rw [hw']; clear hw') | (go_at_call 7; refine (knownP _).mono ?_; rintro e w9 ⟨rfl, x9, rfl⟩))
    go_ret
    refine ⟨rfl, ex_ext ?_⟩
    exact (HB4.out.alloc HB4.out.size _).trans ((ext_below _ _).mono (Nat.le_trans HB4.out.size (by simp)))
end Go.Cm
