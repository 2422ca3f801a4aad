/- The walks of the document's Run, After and Same over automata. Conditions: the arguments read as automata. -/
import Derived.Test.YtjeclleophlliaaReachR
namespace Go.Cm
open Go.RowKit Go.Proofs

theorem cls_lt {d : Dfa} (h : Valid d) (hl : d.cls.length = 256) {i : Nat} (hi : i < d.next.length) {c : Nat} (hc : c < 256) : ∃ k : Nat, d.cls.getD c 0 = k ∧ k < (d.next.getD i []).length := by
  obtain ⟨_, _, _, k, hk, hr⟩ := h
  have h1 := classesFrom_lt d.cls 0 k hk _ (getD_mem d.cls c 0 (by omega))
  obtain ⟨-, -, h2, -⟩ := hr i hi
  exact ⟨(d.cls.getD c 0).toNat, by omega, by omega⟩
theorem runFrom_take (d : Dfa) (s : List UInt8) : ∀ (k : Nat) (a : Int), k < s.length → runFrom d a (s.take (k + 1)) = (d.next.getD (runFrom d a (s.take k)).toNat []).getD (d.cls.getD (s.getD k 0).toNat 0).toNat 0 := by
  induction s with
  | nil => intro k a h; simp at h
  | cons c s ih =>
    intro k a h
    cases k with
    | zero => simp [runFrom]
    | succ k => simp only [List.take_succ_cons, runFrom]; rw [ih k _ (by simpa using h)]; simp

set_option maxRecDepth 100000 in
set_option maxHeartbeats 1000000 in
theorem run (v : Value) (d : Dfa) (s : ByteArray) (w : World) (h : DfaAt w v d) (hs63 : s.size ≤ 140737488351232) :
    Calls Try.prog 27 #[v, .string s] w fun e w' => e = .returned (.int .i64 (runI d s.data.toList)) ∧ ∃ x, w' = ext w x := by
  have hL := fun w' (hb : Below w.heap.size w w') => rightR v d w' (h.up hb)
  obtain ⟨A, rfl, hs, hl, hc, ⟨vn, hn, hrow⟩, ⟨vr, hr, hru⟩⟩ := h
  obtain ⟨oa, cap, b, off, rfl, hd, hro⟩ := hrow.open
  have hix := index_any (P := Try.prog) 23 24 Try.underlying23 (by kernel_rfl) hd
  have hm := hd.len
  have HL := Lib.hid hL; clear hL
  have HS := Lib.hid hs; clear hs
  have HC := Lib.hid hc; clear hc
  have HG := Lib.hid (heap_alloc_new w (.cells A 26))
  have HR := Lib.hid hro; clear hro
  have HLC := Lib.hid hl; clear hl
  by_cases hv : Valid d
  · have hrb := rightB_true hv
    have HRI : Hid (runI d s.data.toList = runFrom d 0 s.data.toList) := Lib.hid (by unfold runI; rw [if_pos hv])
    have hn1 := hv.1
    have hn2 := hv.2.1
    have HV := Lib.hid hv; clear hv
    have hb := hd.hblk (by omega)
    go_enter Try.func27, Try.ntmps27
    go_wp2_with (first | (refine load_dfa rfl _ rfl w.heap.size rfl A HS.out HG.out ?_) | (go_at_call 17; refine (HL.out _ (below_alloc _ _)).mono ?_; rintro e w' ⟨rfl, x, rfl⟩; rw [hrb]))
    generalize hw1 : ext (w.alloc (.cells A 26)) x = w1
    have HB := Lib.hid (show Below (w.heap.size + 1) (w.alloc (.cells A 26)) w1 from hw1 ▸ (ext_below _ _).mono (by simp))
    clear hw1
    go_loopw [5, 6] (fun a i wr => ∃ (k t : Nat), k ≤ s.size ∧ t < d.next.length ∧ i = .int .i64 k ∧ a = .int .i64 t ∧ Hid (runFrom d 0 (s.data.toList.take k) = t) ∧ ∃ n, wr = w1.drewN n) (fun _ i _ => s.size - (intOf i).toNat)
    case atStart => exact ⟨0, 0, Nat.zero_le _, by omega, rfl, rfl, Lib.hid rfl, 0, rfl⟩
    case round =>
      obtain ⟨k, t, hk, ht, rfl, rfl, HRF, n, rfl⟩ := hrel
      by_cases hlt : k < s.size
      · obtain ⟨oi, ci, bi, fi, hck, hdk, hcj, -⟩ := HR.out t ht
        have hlt' : k < s.data.toList.length := by simpa using hlt
        have HT := Lib.hid (runFrom_take d s.data.toList k 0 hlt')
        have hch : (s.data.toList.getD k 0) = s[k] := by simp [List.getD, hlt]; rfl
        rw [hch] at HT
        obtain ⟨c, hcc, hcl⟩ := cls_lt HV.out HLC.out ht (c := s[k].toNat) (UInt8.toNat_lt s[k])
        rw [HRF.out, hcc] at HT
        have hAc := HC.out s[k].toNat (UInt8.toNat_lt s[k])
        rw [hcc] at hAc
        obtain ⟨hy1, hy2⟩ := ((valid_row HV.out ht).resolve_right (fun h => h HLC.out)).1 c hcl
        have hbi := hdk.hblk (by omega)
        have hixk := index_any (P := Try.prog) 24 3 Try.underlying24 (by kernel_rfl) hdk
        have hcj1 := hcj c hcl
        simp only [Int.toNat_natCast] at HT
        generalize (d.next.getD t []).getD c 0 = y at *
        generalize (d.next.getD t []).length = rl at *
        obtain ⟨q, rfl⟩ := Int.eq_ofNat_of_zero_le hy1
        have hc8 : s[k].toNat < 256 := UInt8.toNat_lt s[k]
        have hw1 : w1.cell? ⟨b, off + t, none⟩ = some (.slice oi rl ci) := by
          rw [HB.out.cell (p := ⟨b, off + t, none⟩) (Nat.lt_succ_of_lt hb), World.cell?_alloc_past _ _ _ hb]; exact hck
        have hw2 : w1.cell? ⟨bi, fi + c, none⟩ = some (.int .i64 (q : Int)) := by
          rw [HB.out.cell (p := ⟨bi, fi + c, none⟩) (Nat.lt_succ_of_lt hbi), World.cell?_alloc_past _ _ _ hbi]; exact hcj1
        have hw3 : w1.cell? ⟨w.heap.size, 256, none⟩ = some (.slice oa d.next.length cap) := by
          rw [HB.out.cell (p := ⟨w.heap.size, 256, none⟩) (Nat.lt_succ_self _), World.cell?_alloc_new]; exact hn
        have hw4 : w1.cell? ⟨w.heap.size, s[k].toNat, none⟩ = some (.int .i64 (c : Int)) := by
          rw [HB.out.cell (p := ⟨w.heap.size, s[k].toNat, none⟩) (Nat.lt_succ_self _), World.cell?_alloc_new]; exact hAc
        clear hcc hch hAc hck hcj hcj1 hdk hy1
        go_wp2
        go_quiet (fail)
        go_wp2
        go_roundw
        case rel => exact ⟨k + 1, q, by omega, by omega, by go_num, rfl, Lib.hid HT.out, _, rfl⟩
        case measure => simp [intOf]; omega
      · go_wp2
        go_ret
        have h1 := HRF.out
        rw [List.take_of_length_le (by simp; omega)] at h1
        exact ⟨ret_int (by rw [HRI.out, h1]), ex_ext (b_drewN ((below_alloc w _).trans (HB.out.mono (by omega))) _)⟩
  · have hrb := rightB_false hv
    have HRI : Hid (runI d s.data.toList = -1) := Lib.hid (by unfold runI; rw [if_neg hv])
    clear hv
    go_enter Try.func27, Try.ntmps27
    go_wp2_with (first | (refine load_dfa rfl _ rfl w.heap.size rfl A HS.out HG.out ?_) | (go_at_call 17; refine (HL.out _ (below_alloc _ _)).mono ?_; rintro e w' ⟨rfl, x, rfl⟩; rw [hrb]))
    go_ret
    exact ⟨ret_int (by rw [HRI.out]), (ex_ext (by repeat (first | exact Below.refl _ _ | assumption | refine b_drewN ?_ _ | refine Below.drew ?_ | refine b_ext' ?_ _ | refine b_alloc' ?_ _)))⟩

/-- an automaton read out of its variable, in a region that draws its order -/
theorem quiet_load_dfa {o : Oper} {a : Act} {w : World} {K : Act → Prop} (x : Operand) (ho : o.op = .load 26 x) (g : Nat) (hx : a.eval x = .pointer (some ⟨g, 0, none⟩)) (A : Array Value) (hs : A.size = 258)
    (hg : w.heap[g]? = some (.cells A 26 (0, 0))) (h : K (a.put o.dst (.agg A))) : o.quiet Try.prog a (fun w' => ∃ x, w' = ext w x) K := by
  refine ⟨.agg A, fun w' hw' => ?_, h⟩
  obtain ⟨y, rfl⟩ := hw'
  have hlt : g < w.heap.size := lt_of_block hg
  have hg' : (ext w y).heap[g]? = some (.cells A 26 (0, 0)) := by rw [heap_ext w y g hlt]; exact hg
  have hl := run_loadVar_sub (P := Try.prog) (ext w y) g 0 258 26 26 A (0, 0) _ hg' Try.underlying26 rfl (by kernel_rfl) (by rw [hs]; decide)
  unfold Oper.quietAt execOp
  simp only [ho, hx, Instr.loadAt, Instr.sureAddr, Sem.run_bind, Sem.run_pure, Result.andThen_ok, hl, Oper.quietUpon]
  exact ⟨trivial, by rw [← hs]; simp⟩

set_option maxRecDepth 100000 in
set_option maxHeartbeats 1000000 in
theorem after (v : Value) (d : Dfa) (s : ByteArray) (w : World) (h : DfaAt w v d) (hs63 : s.size ≤ 140737488351232) :
    Calls Try.prog 18 #[v, .string s] w fun e w' => e = .returned (.int .i64 (afterI d s.data.toList)) ∧ ∃ x, w' = ext w x := by
  have hL := fun w' (hb : Below w.heap.size w w') => rightR v d w' (h.up hb)
  have hR := fun w' (hb : Below w.heap.size w w') => run v d s w' (h.up hb) hs63
  obtain ⟨A, rfl, hs, hl, hc, ⟨vn, hn, hrow⟩, ⟨vr, hr, hru⟩⟩ := h
  obtain ⟨oa, cap, b, off, rfl, hd, hro⟩ := hru.open
  have hix := index_any (P := Try.prog) 24 3 Try.underlying24 (by kernel_rfl) hd
  have hm := hd.len
  have HL := Lib.hid hL; clear hL
  have HRn := Lib.hid hR; clear hR
  have HS := Lib.hid hs; clear hs hc
  have HG := Lib.hid (heap_alloc_new w (.cells A 26))
  have HR := Lib.hid hro; clear hro
  have HLC := Lib.hid hl; clear hl
  by_cases hv : Valid d
  · have hrb := rightB_true hv
    obtain ⟨t, hrun, ht⟩ : ∃ t : Nat, runI d s.data.toList = t ∧ t < d.next.length := by
      have : ∀ (s : List UInt8) (a : Nat), a < d.next.length → ∃ t : Nat, runFrom d a s = t ∧ t < d.next.length := by
        intro s
        induction s with
        | nil => intro a ha; exact ⟨a, rfl, ha⟩
        | cons c s ih =>
          intro a ha
          obtain ⟨k, hk, hkl⟩ := cls_lt hv HLC.out ha (c := c.toNat) (UInt8.toNat_lt c)
          obtain ⟨h1, h2⟩ := ((valid_row hv ha).resolve_right (fun h => h HLC.out)).1 k hkl
          obtain ⟨q, hq⟩ := Int.eq_ofNat_of_zero_le h1
          simp only [runFrom, hk, Int.toNat_natCast, hq]
          exact ih q (by omega)
      unfold runI; rw [if_pos hv]; exact this _ 0 (by have := hv.1; omega)
    rw [hrun] at HRn
    have HAI : Hid (afterI d s.data.toList = d.rules.getD t 0) := Lib.hid (by
      unfold runI at hrun; rw [if_pos hv] at hrun
      unfold afterI; rw [if_pos hv, hrun]; rfl)
    have ht2 : t < d.rules.length := by rw [hv.2.2.1]; exact ht
    have hb := hd.hblk (by omega)
    have hcell := HR.out t ht2
    generalize d.rules.getD t 0 = y at *
    generalize d.rules.length = rl at *
    clear hrun hv
    go_enter Try.func18, Try.ntmps18
    go_wp2_with (first | (refine load_dfa rfl _ rfl w.heap.size rfl A HS.out HG.out ?_) | (go_at_call 17; refine (HL.out _ (below_alloc _ _)).mono ?_; rintro e w' ⟨rfl, x, rfl⟩; rw [hrb]))
    have hb2 : Below w.heap.size w (ext (w.alloc (.cells A 26)) x) := (by repeat (first | exact Below.refl _ _ | assumption | refine b_drewN ?_ _ | refine Below.drew ?_ | refine b_ext' ?_ _ | refine b_alloc' ?_ _))
    have hg2 : (ext (w.alloc (.cells A 26)) x).heap[w.heap.size]? = some (.cells A 26 (0, 0)) := by rw [heap_ext _ _ _ (by simp)]; exact HG.out
    have hrl : (ext (w.alloc (.cells A 26)) x).cell? ⟨w.heap.size, 257, none⟩ = some (.slice oa rl cap) := by rw [cell?_ext_alloc_new]; exact hr
    have hsz : w.heap.size + 1 ≤ (ext (w.alloc (.cells A 26)) x).heap.size := by have := size_ext (w.alloc (.cells A 26)) x; simpa using this
    have hc2 : (ext (w.alloc (.cells A 26)) x).cell? ⟨b, off + t, none⟩ = some (.int .i64 y) := by rw [cell?_ext_alloc_old _ _ _ _ _ hb]; exact hcell
    generalize ext (w.alloc (.cells A 26)) x = w1 at *
    have HG2 := Lib.hid hg2; clear hg2
    have HB2 := Lib.hid hb2; clear hb2
    have hb3 : w.heap.size < w1.heap.size := hsz
    have hb4 : b < w1.heap.size := by omega
    refine wp_region_ext (by kernel_rfl) (by kernel_rfl) ?_
    repeat (first | (go_big_quiet_want; refine quiet_load_dfa _ rfl w.heap.size rfl A HS.out HG2.out ?_; go_simp; go_big_quiet_on) | go_big_quiet_step ((go_at_call 27; exact calls_in (HRn.out _ (below_up HB2.out (ext_below _ _))))))
    refine wpQuiet_nil ?_
    rintro w' ⟨x2, rfl⟩
    go_wp2
    go_ret
    exact ⟨ret_int (by rw [HAI.out]), ex_ext (HB2.out.trans ((ext_below _ _).mono (by omega)))⟩
  · have hrb := rightB_false hv
    have HRI : Hid (afterI d s.data.toList = -1) := Lib.hid (by unfold afterI; rw [if_neg hv])
    clear hv
    go_enter Try.func18, Try.ntmps18
    go_wp2_with (first | (refine load_dfa rfl _ rfl w.heap.size rfl A HS.out HG.out ?_) | (go_at_call 17; refine (HL.out _ (below_alloc _ _)).mono ?_; rintro e w' ⟨rfl, x, rfl⟩; rw [hrb]))
    go_ret
    exact ⟨ret_int (by rw [HRI.out]), (ex_ext (by repeat (first | exact Below.refl _ _ | assumption | refine b_drewN ?_ _ | refine Below.drew ?_ | refine b_ext' ?_ _ | refine b_alloc' ?_ _)))⟩
end Go.Cm
