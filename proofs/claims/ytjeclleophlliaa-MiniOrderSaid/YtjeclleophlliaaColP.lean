/- The walk of mini.columns. Conditions: all classes lie in all rows, and what lies there takes two bytes. -/
import Derived.Test.YtjeclleophlliaaParts
import Derived.Test.YtjeclleophlliaaBox
import Derived.Test.YtjeclleophlliaaColR
namespace Go.Cm
open Go.RowKit Go.Proofs Go.Maps

/-- a column, as bytes -/
def colB (rows : List (List Int)) (k : Int) : List UInt8 := rows.flatMap fun r => enc2 (r.getD k.toNat 0)
theorem colB_eq {rows : List (List Int)} {a b : Int} (ha : ∀ r ∈ rows, 0 ≤ r.getD a.toNat 0 ∧ r.getD a.toNat 0 < 65536) (hb : ∀ r ∈ rows, 0 ≤ r.getD b.toNat 0 ∧ r.getD b.toNat 0 < 65536) : colB rows a = colB rows b ↔ colI rows a = colI rows b := by
  unfold colB colI
  induction rows with
  | nil => simp
  | cons r rows ih =>
    have ih := ih (fun x hx => ha x (by simp [hx])) (fun x hx => hb x (by simp [hx]))
    simp only [List.flatMap_cons, List.map_cons]
    constructor
    · intro h
      obtain ⟨h1, h2⟩ := enc2_cat_inj (ha r (by simp)) (hb r (by simp)) h
      rw [h1, ih.1 h2]
    · intro h
      injection h with h1 h2
      rw [h1, ih.2 h2]
theorem colB_len (rows : List (List Int)) (k : Int) : (colB rows k).length = 2 * rows.length := by
  unfold colB
  induction rows with
  | nil => rfl
  | cons r rows ih => rw [List.flatMap_cons, List.length_append, ih]; simp [enc2]; omega

/-- the classes of bytes, in a variable of the call's own -/
structure BoxC (w : World) (g : Nat) (cl : List Int) : Prop where
  own : Own w g 22 (.slice (some ⟨g, 0, none⟩) 256 256) (ints cl)
  len : cl.length = 256
def zCls : Array Value := (ints (List.replicate 256 0)).toArray
theorem zero_cls (W : World) : (zeroValue 22).run Try.prog W = .ok (.agg zCls) W := by kernel_rfl
theorem zCls_list : zCls.toList = ints (List.replicate 256 0) := rfl
theorem zCls_size : zCls.size = 256 := by rw [← Array.length_toList, zCls_list, ints_length, List.length_replicate]
theorem boxC_new (w : World) : BoxC (w.alloc (.cells zCls 22)) w.heap.size (List.replicate 256 0) := by
  refine ⟨?_, List.length_replicate⟩
  have h := own_lit w w.heap.size zCls 22 (by rw [zCls_size]; decide) (Nat.le_refl _)
  rw [zCls_list, zCls_size] at h
  exact h
section
variable {w w' : World} {g : Nat} {cl : List Int}
theorem BoxC.keep {row : Option Nat} (h : BoxC w g cl) (hg : w.grownBy w' row) (hne : row ≠ some g) : BoxC w' g cl := ⟨h.own.keep hg (.inr (fun e => hne e.symm)), h.len⟩
theorem BoxC.up (h : BoxC w g cl) (hb : Below w.heap.size w w') : BoxC w' g cl := ⟨h.own.up hb, h.len⟩
theorem BoxC.upB {n : Nat} (h : BoxC w g cl) (hn : w.heap.size ≤ n) (hb : Below n w w') : BoxC w' g cl := ⟨h.own.upB hn hb, h.len⟩
theorem BoxC.lt (h : BoxC w g cl) : g < w.heap.size := (h.own.lt g rfl).2
theorem BoxC.cell (h : BoxC w g cl) {c : Nat} (hc : c < 256) : w.cell? ⟨g, c, none⟩ = some (.int .i64 (cl.getD c 0)) := by
  rw [h.own.cell (by rw [ints_length, h.len]; exact hc), ints_getD _ _ (by rw [h.len]; exact hc)]
theorem BoxC.free (h : BoxC w g cl) (c : Nat) : w.frozen? ⟨g, c, none⟩ = false := h.own.free c
theorem BoxC.set (h : BoxC w g cl) (c : Nat) (k : Int) : BoxC (w.setCell ⟨g, c, none⟩ (.int .i64 k)) g (cl.set c k) ∧ w.grownBy (w.setCell ⟨g, c, none⟩ (.int .i64 k)) (some g) := by
  obtain ⟨h1, h2⟩ := h.own.store c (.int .i64 k)
  rw [ints_set] at h1
  exact ⟨⟨h1, by simp [h.len]⟩, h2⟩
theorem BoxC.open (h : BoxC w g cl) : ∃ A, w.heap[g]? = some (.cells A 22 (0, 0)) ∧ A.size = 256 ∧ A.toList = ints cl := by
  rcases h.own.1.2 with ⟨h1, _⟩ | ⟨g', cap, cur, h1, _, hg, hnc, hcm, hcs, htake⟩
  · cases h1
  · simp only [Value.slice.injEq, Option.some.injEq, Addr.mk.injEq, and_true] at h1
    obtain ⟨rfl, h2, rfl⟩ := h1
    have hs : cur.size = 256 := by omega
    refine ⟨cur, hg, hs, ?_⟩
    rw [← htake, List.take_of_length_le]
    simp [hs, h.len]
end
theorem load_arr {ops : Array Oper} {rest : List Oper} {o : Oper} {a : Act} {w : World} {Q : Exit → Act → World → Prop} (hgd : o.guard = none) (x : Operand) (ho : o.op = .load 22 x)
    (g : Nat) (hx : a.eval x = .pointer (some ⟨g, 0, none⟩)) (A : Array Value) (hs : A.size = 256) (hg : w.heap[g]? = some (.cells A 22 (0, 0)))
    (h : wpList Try.prog ops Q rest (a.put o.dst (.agg A)) w) : wpList Try.prog ops Q (o :: rest) a w :=
  wpList_load_sub hgd 22 x ho g 0 256 hx 22 A A (0, 0) _ hg Try.underlying22 rfl (by kernel_rfl) (by rw [hs]; decide) (by rw [← hs]; simp) h
theorem quiet_load_arr {C : World → Prop} {o : Oper} {a : Act} {K : Act → Prop} (x : Operand) (ho : o.op = .load 22 x) (g : Nat) (hx : a.eval x = .pointer (some ⟨g, 0, none⟩)) (A : Array Value) (hs : A.size = 256)
    (hg : ∀ w', C w' → w'.heap[g]? = some (.cells A 22 (0, 0))) (h : K (a.put o.dst (.agg A))) : o.quiet Try.prog a C K := by
  refine ⟨.agg A, fun w' hw' => ?_, h⟩
  have hl := run_loadVar_sub (P := Try.prog) w' g 0 256 22 22 A (0, 0) _ (hg w' hw') Try.underlying22 rfl (by kernel_rfl) (by rw [hs]; decide)
  unfold Oper.quietAt execOp
  simp only [ho, hx, Instr.loadAt, Instr.sureAddr, Sem.run_bind, Sem.run_pure, Result.andThen_ok, hl, Oper.quietUpon]
  exact ⟨trivial, by rw [← hs]; simp⟩
theorem results_tmp_cell {P : Program} {fn : Func} {tmps : Array Value} {w : World} {a t b : Nat} {ad : Addr} {v : Value} (hf : fn.results = #[.tmp b, .cell a t]) (ha : tmps.getD a undef = .pointer (some ad)) (hl : (loadVar t ad).run P w = .ok v w) :
    (results fn tmps).run P w = .ok (.tuple #[tmps.getD b undef, v]) w := by
  have ha' : tmps[a]?.getD undef = .pointer (some ad) := by simpa using ha
  simp [results, hf, asAddr, ha', hl]

theorem ret_tmp_cell {P : Program} {fn : Func} {tmps : Array Value} {w : World} {ds : List Deferred} {s b t : Nat} {ad : Addr} {x y : Value} {R : Ending → World → Prop} (hf : fn.results = #[.tmp b, .cell s t]) (ha : tmps.getD s undef = .pointer (some ad)) (hb : tmps.getD b undef = y) (hd : ds = [])
    (hl : (loadVar t ad).run P w = .ok x w) (h : R (.returned (.tuple #[y, x])) w) : bodyPost P fn R .ret ⟨tmps, ds⟩ w :=
  bodyPost_ret (v := .tuple #[y, x]) (by rw [results_tmp_cell hf ha hl, hb]) hd h
theorem Own.off {w : World} {B E k : Nat} {v : Value} {xs : List Value} (h : Own w B E v xs) (hk : k < B) : v.ownBlock = none ∨ v.ownBlock ≠ some k := by
  cases hu : v.ownBlock with
  | none => exact .inl rfl
  | some q => exact .inr (fun e => by have := h.lt q hu; injection e with e; omega)
theorem Own.ne_of {w : World} {B E k : Nat} {v : Value} {xs : List Value} (h : Own w B E v xs) (hk : k < B) : some k ≠ v.ownBlock := fun e => by have := h.lt k e.symm; omega
/-- the columns that are left, and each byte's class -/
def RetCols (d : Dfa) (rows : List (List Int)) (w : World) (e : Ending) (w' : World) : Prop := ∃ vl B, e = .returned (.tuple #[vl, .agg B]) ∧ Own w' w.heap.size 3 vl (ints (leftI rows d.cls)) ∧ B.toList = ints (clsI rows d.cls) ∧ Below w.heap.size w w'

set_option maxRecDepth 100000 in
set_option maxHeartbeats 4000000 in
theorem columnsP (v u : Value) (d : Dfa) (rows : List (List Int)) (w : World) (h : DfaAt w v d) (hu : RowsAt w u rows) (hk : ∀ c, c < 256 → 0 ≤ d.cls.getD c 0 ∧ ∀ j, j < rows.length → d.cls.getD c 0 < ((rows.getD j []).length))
    (hx : ∀ j, j < rows.length → ∀ i, 0 ≤ (rows.getD j []).getD i 0 ∧ (rows.getD j []).getD i 0 < 65536) (hn : rows.length ≤ 1000) : Calls Try.prog 23 #[v, u] w (RetCols d rows w) := by
  obtain ⟨A, rfl, hs, hl, hc, -, -⟩ := h
  obtain ⟨oa, cap, b, off, rfl, hd, hro⟩ := hu.open
  have hix := index_any (P := Try.prog) 23 24 Try.underlying23 (by kernel_rfl) hd
  obtain ⟨B, hB⟩ : ∃ B, A.extract 0 256 = B := ⟨_, rfl⟩
  have hBc : ∀ i, i < 256 → B[i]? = some (.int .i64 (d.cls.getD i 0)) := fun i hi => by
    rw [← hB, Array.getElem?_extract, if_pos (by omega)]; simpa using hc i hi
  have HBL := Lib.hid hd.hblk
  have HD := Lib.hid hd; clear hd
  have HRO := Lib.hid hro; clear hro
  have HS := Lib.hid hs; clear hs hc
  have HB := Lib.hid hB; clear hB
  have HC := Lib.hid hBc; clear hBc
  have HL := Lib.hid hl; clear hl
  have HK := Lib.hid hk; clear hk
  have HX := Lib.hid hx; clear hx
  have HG := Lib.hid (heap_alloc_new w (.cells A 26))
  have hz := zero_cls
  obtain ⟨Z, hZ⟩ : ∃ Z, Z = zCls := ⟨_, rfl⟩
  rw [← hZ] at hz
  have hmm := @run_makeMap Try.prog
  have HW4 : Hid (Below (w.heap.size + 2) ((w.alloc (.cells A 26)).alloc (.cells Z 22)) ((((w.alloc (.cells A 26)).alloc (.cells Z 22)).alloc (.cells Z 22)).alloc (.map #[] 0))) := Lib.hid (((Below.refl _ _).alloc (by simp) _).alloc (by simp) _)
  have HG4 : Hid (((((w.alloc (.cells A 26)).alloc (.cells Z 22)).alloc (.cells Z 22)).alloc (.map #[] 0)).heap[w.heap.size]? = some (.cells A 26 (0, 0))) := Lib.hid (by
    rw [HW4.out.block _ (by omega), (below_alloc (w.alloc (.cells A 26)) _).block _ (by simp)]; exact HG.out)
  have HC4 : Hid (BoxC ((((w.alloc (.cells A 26)).alloc (.cells Z 22)).alloc (.cells Z 22)).alloc (.map #[] 0)) (w.heap.size + 2) (List.replicate 256 0)) := Lib.hid (by
    have h1 := (boxC_new ((w.alloc (.cells A 26)).alloc (.cells zCls 22))).up (below_alloc _ (.map #[] 0))
    rw [← hZ] at h1
    simpa using h1)
  have HR4 : Hid (BoxC ((w.alloc (.cells A 26)).alloc (.cells Z 22)) (w.heap.size + 1) (List.replicate 256 0)) := Lib.hid (by
    have h1 := boxC_new (w.alloc (.cells A 26))
    rw [← hZ] at h1
    simpa using h1)
  have HM4 : Hid (OwnMap Try.prog 9 3 (fun s : List UInt8 => Lit.string s) ((((w.alloc (.cells A 26)).alloc (.cells Z 22)).alloc (.cells Z 22)).alloc (.map #[] 0)) (w.heap.size + 3) []) := Lib.hid (by
    have h1 := OwnMap.made (P := Try.prog) (K := 9) (E := 3) (((w.alloc (.cells A 26)).alloc (.cells Z 22)).alloc (.cells Z 22)) (fun s : List UInt8 => Lit.string s)
    simpa using h1)
  clear hZ
  have hPC : ∀ a ∈ d.cls, ∀ b ∈ d.cls, colI rows a = colI rows b ↔ colB rows a = colB rows b := fun a ha b hb => (colB_eq (fun r hr => by
      obtain ⟨j, hj, rfl⟩ := List.mem_iff_getElem.1 hr
      have := HX.out j hj a.toNat
      simpa [List.getD, hj] using this) (fun r hr => by
      obtain ⟨j, hj, rfl⟩ := List.mem_iff_getElem.1 hr
      have := HX.out j hj b.toNat
      simpa [List.getD, hj] using this)).symm
  have HPC := Lib.hid (pickBy_congr hPC); clear hPC
  go_enter Try.func23, Try.ntmps23
  go_wp2_with (refine load_cls rfl _ rfl w.heap.size rfl A B HS.out HB.out HG4.out ?_)
  go_loopg [6, 20] 257 (fun gk vl i wr => ∃ (k : Nat) (cl : List Int), k ≤ 256 ∧ i = .int .i64 k ∧ Own wr (w.heap.size + 4) 3 vl (ints (pickBy (colB rows) (d.cls.take k))) ∧ BoxC wr (w.heap.size + 2) cl ∧ OwnMap Try.prog 9 3 (fun s : List UInt8 => Lit.string s) wr (w.heap.size + 3) (uniq ((d.cls.take k).map (colB rows))) ∧ Hid (∀ i, i < k → cl.getD i 0 = (place (colB rows) d.cls (d.cls.getD i 0) : Nat)) ∧ Below (w.heap.size + 2) ((w.alloc (.cells A 26)).alloc (.cells Z 22)) wr ∧ gk = 257 - k)
  case atStart => exact ⟨0, _, Nat.zero_le _, rfl, Own.nil _ _ _, HC4.out, HM4.out, Lib.hid (fun i hi => absurd hi (Nat.not_lt_zero i)), HW4.out, rfl⟩
  case round =>
    clear HC4 HM4 HW4 HG4 hmm hz
    obtain ⟨k, cl, hk, rfl, how, hbx, hmap, HCL, hbel, rfl⟩ := hrel
    have hsz : w.heap.size + 2 ≤ wr.heap.size := by have := hbel.size; simpa using this
    have HW := Lib.hid hbel; clear hbel
    have HO := Lib.hid how; clear how
    have HBX := Lib.hid hbx; clear hbx
    have HMP := Lib.hid hmap; clear hmap
    by_cases hlt : k < 256
    · have hlc : k < d.cls.length := by rw [HL.out]; exact hlt
      have hix2 := fun W => run_index_cls hlt (HC.out k hlt) W
      obtain ⟨hk0, hkr⟩ := HK.out k hlt
      have HT := Lib.hid (take_succ_getD d.cls k 0 hlc)
      have HKC := Lib.hid hkr; clear hkr
      have HCLK : Hid (d.cls.getD k 0 ∈ d.cls) := Lib.hid (getD_mem _ _ _ hlc)
      have HKV : Hid (d.cls.getD k 0 = d.cls.getD k 0) := Lib.hid rfl
      generalize hkap : d.cls.getD k 0 = kap at HT HKC HCLK HKV hix2 hk0
      have HKAP := Lib.hid hkap; clear hkap
      go_wp2
      obtain ⟨wo, rfl⟩ : ∃ wo : World, wo = wr := ⟨_, rfl⟩
      go_loopg [11, 26] (rows.length + 1) (fun gk vb i wr => ∃ j : Nat, j ≤ rows.length ∧ i = .int .i64 j ∧ Own wr wo.heap.size 5 vb (bytesV (colB (rows.take j) kap)) ∧ Below wo.heap.size wo wr ∧ gk = rows.length + 1 - j)
      case atStart => exact ⟨0, Nat.zero_le _, rfl, Own.nil _ _ _, Below.refl _ _, rfl⟩
      case round =>
        obtain ⟨j, hj, rfl, how, hbel, rfl⟩ := hrel
        have hsz2 := hbel.size
        have HBB := Lib.hid hbel; clear hbel
        have HOB := Lib.hid how; clear how
        by_cases hltj : j < rows.length
        · obtain ⟨oi, ci, bi, fi, hck, hdk, hcj, -⟩ := HRO.out j hltj
          have h1 := HKC.out j hltj
          have hb := HBL.out (by omega)
          have hbi := hdk.hblk (by omega)
          have hixk := index_any (P := Try.prog) 24 3 Try.underlying24 (by kernel_rfl) hdk
          have hcw : ∀ q o, q < w.heap.size → wr.cell? ⟨q, o, none⟩ = w.cell? ⟨q, o, none⟩ := fun q o hq => by
            rw [HBB.out.cell (p := ⟨q, o, none⟩) (show q < wo.heap.size by omega), HW.out.cell (p := ⟨q, o, none⟩) (show q < w.heap.size + 2 by omega), World.cell?_alloc_past _ _ _ (show q < (w.alloc (.cells A 26)).heap.size by simp; omega), World.cell?_alloc_past _ _ _ hq]
          have hcell := (hcw b (off + j) hb).trans hck
          have hcell2 := (hcw bi (fi + kap.toNat) hbi).trans (hcj kap.toNat (by omega))
          have HRT : Hid (bytesV (colB (rows.take (j + 1)) kap) = bytesV (colB (rows.take j) kap) ++ bytesV (enc2 ((rows.getD j []).getD kap.toNat 0))) := Lib.hid (by
            rw [take_succ_getD rows j [] hltj, ← bytesV_append]; simp [colB])
          have hll : ∀ y, (colB (rows.take j) kap).length + (enc2 y).length ≤ 4294967296 := fun y => by rw [colB_len]; simp [enc2]; omega
          have HLL := Lib.hid (hll ((rows.getD j []).getD kap.toNat 0)); clear hll
          clear hck hcj hcw
          have HDK := Lib.hid hdk; clear hdk
          generalize rows.getD j [] = row at *
          generalize row.getD kap.toNat 0 = y at *
          have hs1 : b < wr.heap.size := by omega
          have hs2 : bi < wr.heap.size := by omega
          have hn1 : some b ≠ u11.ownBlock := fun e => by have := HOB.out.lt b e.symm; omega
          have hn2 : some bi ≠ u11.ownBlock := fun e => by have := HOB.out.lt bi e.symm; omega
          go_wp2
          refine wp_region_row u11.ownBlock [0,1,2,3,4,5,6,7,8,9,10,11] [12,13,14] (by kernel_rfl) (by kernel_rfl) ?_
          simp only [pick, List.map_cons, List.map_nil, List.getD_cons_zero, List.getD_cons_succ]
          repeat (go_big_quiet_step (fail))
          refine wpQuiet_nil ?_
          (unfold wpAct; go_wp2; refine ⟨ex_chg (grown_below (by repeat (first | exact Below.refl _ _ | assumption | refine b_drewN ?_ _ | refine Below.drew ?_ | refine b_ext' ?_ _ | refine b_alloc' ?_ _)) _), ?_⟩)
          unfold wpAct
          have hx : Sl (wr.alloc (.cells #[.int .u8 (y % 256), .int .u8 (y / 256 % 256)] 5)).drew (.slice (some ⟨wr.heap.size, 0, none⟩) 2 2) (bytesV (enc2 y)) := by
            have h1 := (sl_lit wr #[.int .u8 (y % 256), .int .u8 (y / 256 % 256)] 5 (by simp)).up (below_drewN _ 1)
            rw [← World.drew_is_drewN] at h1
            rw [bytesV_enc2]; simpa using h1
          have HXX := Lib.hid hx; clear hx
          go_wp2_with (at_builtin; go_loud (refine wpList_app rfl (.tmp 30) (.tmp 42) 38 rfl wo.heap.size 5 (.int .u8 0) 1 Try.underlying38 (by kernel_rfl) rfl (by decide) u11 (bytesV (colB (rows.take j) kap)) rfl (HOB.out.up (by repeat (first | exact Below.refl _ _ | assumption | refine b_drewN ?_ _ | refine Below.drew ?_ | refine b_ext' ?_ _ | refine b_alloc' ?_ _))) (.slice (some ⟨wr.heap.size, 0, none⟩) 2 2) (bytesV (enc2 y)) rfl HXX.out (bytesV_one _) (by rw [bytesV_length, bytesV_length]; exact HLL.out) (Nat.le_trans hsz2 (by simp)) ?_); intro v' w1 hown1 hg1 hk1; have HO1 := Lib.hid hown1; have HG1 := Lib.hid hg1; clear hown1 hg1 hk1)
          refine ⟨ex_chg (grown_trans (grown_below (by repeat (first | exact Below.refl _ _ | assumption | refine b_drewN ?_ _ | refine Below.drew ?_ | refine b_ext' ?_ _ | refine b_alloc' ?_ _)) _) HG1.out), ?_⟩
          unfold wpAct
          go_wp2
          refine ⟨ex_chg (grown_trans (grown_below (by repeat (first | exact Below.refl _ _ | assumption | refine b_drewN ?_ _ | refine Below.drew ?_ | refine b_ext' ?_ _ | refine b_alloc' ?_ _)) _) HG1.out), ?_⟩
          unfold wpAct
          intro _ hz; clear hz
          go_wp2
          go_roundg (rows.length + 1 - (j + 1))
          case measure => omega
          case rel =>
            refine ⟨j + 1, by omega, by go_num, ?_, ?_, rfl⟩
            · rw [HRT.out]; exact HO1.out
            · exact below_grown (B := wo.heap.size) (b_drew1 (HBB.out.alloc hsz2 _)) (by simp; omega) (HOB.out.up (by repeat (first | exact Below.refl _ _ | assumption | refine b_drewN ?_ _ | refine Below.drew ?_ | refine b_ext' ?_ _ | refine b_alloc' ?_ _))) HG1.out
        · have hjn : j = rows.length := by omega
          subst hjn
          rw [List.take_length] at HOB
          have hcv := run_bytes_string (P := Try.prog) wr 38 9 5 Try.underlying38 Try.underlying5 Try.underlying9 u11 _ HOB.out.sl
          have HTL : Hid ((colB rows kap).length ≤ 2000) := Lib.hid (by rw [colB_len]; omega)
          have HTM : Hid (((d.cls.take (k + 1)).map (colB rows)) = (d.cls.take k).map (colB rows) ++ [colB rows kap]) := Lib.hid (by rw [HT.out, List.map_append]; rfl)
          have HOX := Lib.hid (HO.out.up HBB.out)
          have HBXX := Lib.hid (HBX.out.up HBB.out)
          have HMX := Lib.hid (HMP.out.up HBB.out)
          have HWX := Lib.hid (HW.out.trans (HBB.out.mono hsz))
          have HPV : Hid (place (colB rows) d.cls kap = idx (uniq ((d.cls.take (k + 1)).map (colB rows))) (colB rows kap)) := Lib.hid (by
            have h := idxOf_uniq_append ((d.cls.take (k + 1)).map (colB rows)) ((d.cls.drop (k + 1)).map (colB rows)) (x := colB rows kap) (by rw [HTM.out]; simp)
            rw [← List.map_append, List.take_append_drop] at h
            rw [← h, ← pickBy_map]; rfl)
          have HPM := Lib.hid (pickBy_map (colB rows) (d.cls.take k))
          have HPY : Hid (colB rows kap ∈ uniq ((d.cls.take k).map (colB rows)) → pickBy (colB rows) (d.cls.take (k + 1)) = pickBy (colB rows) (d.cls.take k)) := Lib.hid (fun h => by rw [HT.out, pickBy_snoc, if_pos]; rwa [pickBy_map])
          have HPN : Hid (colB rows kap ∉ uniq ((d.cls.take k).map (colB rows)) → pickBy (colB rows) (d.cls.take (k + 1)) = pickBy (colB rows) (d.cls.take k) ++ [kap]) := Lib.hid (fun h => by rw [HT.out, pickBy_snoc, if_neg]; rwa [pickBy_map])
          have HPL : Hid ((pickBy (colB rows) (d.cls.take k)).length ≤ 256) := Lib.hid (by have := pickBy_len (colB rows) (d.cls.take k); simp at this; omega)
          have HUS : Hid (uniq ((d.cls.take (k + 1)).map (colB rows)) = addNew (uniq ((d.cls.take k).map (colB rows))) (colB rows kap)) := Lib.hid (by rw [HTM.out, uniq_snoc])
          clear HTM
          have hszB : w.heap.size + 4 ≤ wr.heap.size := by have := HMX.out.lt; omega
          generalize hL : pickBy (colB rows) (d.cls.take k) = L at *
          clear hL
          obtain ⟨ol, cl0, gl, hvl, -⟩ := HOX.out.cases
          subst hvl
          rw [ints_length] at HOX ⊢
          generalize uniq ((d.cls.take k).map (colB rows)) = ks at *
          generalize colB rows kap = tx at *
          have HKL : Hid (ks.length = L.length) := Lib.hid (by rw [← HPM.out, List.length_map])
          have hkey : keyOf Try.prog 9 (.string ⟨tx.toArray⟩) = some (.string tx) := by
            have := Go.WideMaps.keyOf_string_mk (P := Try.prog) (k := 9) Try.underlying9 (s := ⟨tx.toArray⟩) (by have := HTL.out; show tx.toArray.size ≤ _; simp [maxLen]; omega)
            simpa using this
          have HKEY := Lib.hid hkey; clear hkey
          obtain ⟨D, hD, hM⟩ := HMX.out
          rw [HKL.out] at hD
          have HM := Lib.hid hM; clear hM
          have HDM := Lib.hid hD; clear hD
          have hcn : wr.cell? ⟨w.heap.size + 1 + 1, k, none⟩ = some (.int .i64 (cl.getD k 0)) := HBXX.out.cell hlt
          have hfn : wr.frozen? ⟨w.heap.size + 1 + 1, k, none⟩ = false := HBXX.out.free k
          clear HMX HMP HOB
          generalize hy0 : cl.getD k 0 = y0 at hcn
          clear hy0
          by_cases hmem : tx ∈ ks
          · have HHAS : Hid (Maps.has D (.string tx) = true) := Lib.hid (by rw [HM.out.2.2.1 tx]; simpa using hmem)
            have HMEM := Lib.hid hmem; clear hmem
            go_wp2_with (first | (at_lookup; refine wpList_lookup_own_ok_int _ rfl _ _ 51 rfl 9 3 .i64 keyed_string Try.underlying51 Try.underlying3 (zero_int _) (w.heap.size + 3) _ D rfl HDM.out _ _ rfl HKEY.out ?_; intro c hat hwc; rw [HHAS.out]; clear hat hwc) | (at_lookup; refine wpList_lookup_own_int _ rfl _ _ 51 rfl 9 3 .i64 keyed_string Try.underlying51 Try.underlying3 (zero_int _) (w.heap.size + 3) _ D rfl HDM.out _ _ rfl HKEY.out ?_; intro c hat hwc; have hce := HM.out.at_eq HMEM.out hat; subst hce; clear hat hwc))
            go_roundg (257 - (k + 1))
            case measure => omega
            case rel =>
              obtain ⟨hbs, hgs⟩ := HBXX.out.set k (idx ks tx : Nat)
              refine ⟨k + 1, cl.set k (idx ks tx : Nat), by omega, by go_num, ?_, hbs, ?_, Lib.hid (fun a ha => ?_), HWX.out.setCell (Nat.le_refl _) _, rfl⟩
              · rw [HPY.out HMEM.out]
                exact HOX.out.keep hgs (HOX.out.off (by omega))
              · rw [HUS.out, addNew, if_pos HMEM.out]
                exact OwnMap.keep ⟨D, by rw [HKL.out]; exact HDM.out, HM.out⟩ hgs (by simp)
              · rw [getD_set]
                rcases Nat.lt_succ_iff_lt_or_eq.1 ha with h1 | rfl
                · rw [if_neg (by omega)]; exact HCL.out a h1
                · rw [if_pos ⟨rfl, by rw [HBXX.out.len]; exact hlt⟩, HKAP.out, HPV.out, HUS.out, addNew, if_pos HMEM.out]
          · have HHAS : Hid (Maps.has D (.string tx) = false) := Lib.hid (by rw [HM.out.2.2.1 tx]; simpa using hmem)
            have HMEM := Lib.hid hmem; clear hmem
            have hms := HM.out.snoc litString HMEM.out
            rw [HKL.out] at hms
            have HMS := Lib.hid hms; clear hms
            have HIX : Hid (idx (ks ++ [tx]) tx = L.length) := Lib.hid (by rw [idxOf_append_new HMEM.out, HKL.out])
            clear hcn hfn
            go_wp2_with (first | (at_lookup; refine wpList_lookup_own_ok_int _ rfl _ _ 51 rfl 9 3 .i64 keyed_string Try.underlying51 Try.underlying3 (zero_int _) (w.heap.size + 3) _ D rfl HDM.out _ _ rfl HKEY.out ?_; intro c hat hwc; rw [HHAS.out]; clear hat hwc) | (at_mapUpdate; go_loud (refine wpList_mapUpdate_own _ rfl _ _ _ 51 rfl 9 3 keyed_string Try.underlying51 _ (w.heap.size + 3) _ D rfl HDM.out (by have := HPL.out; unfold maxLen; omega) _ _ _ rfl rfl HKEY.out _ [] (plainElem_int Try.underlying3 (wf64 _ (by have := HPL.out; omega))) ?_; intro w1 hown1 hg1; have HD1 := Lib.hid hown1; have HG1 := Lib.hid hg1; have hs1 := hg1.size; have HO1 := Lib.hid (HOX.out.keep hg1 (HOX.out.off (by omega))); clear hown1 hg1)) | (at_builtin; go_loud (refine wpList_app rfl (.tmp 59) (.tmp 61) 24 rfl (w.heap.size + 4) 3 (.int .i64 0) 8 Try.underlying24 (by kernel_rfl) rfl (by decide) (.slice ol L.length cl0) (ints L) rfl (HO1.out.up (below_alloc _ _)) (.slice (some ⟨w1.heap.size, 0, none⟩) 1 1) (ints [kap]) rfl (sl_lit w1 #[.int .i64 kap] 3 (by simp)) (ints_one _) (by have := HPL.out; simp; omega) (by simp; omega) ?_; intro v' w2 hown2 hg2 hk2; have HO2 := Lib.hid hown2; have HG2 := Lib.hid (grown_trans (grown_below (below_alloc w1 (.cells #[.int .i64 kap] 3)) _) hg2); have HD2 := Lib.hid (HD1.out.kept HG2.out (HO1.out.ne_of (by omega))); have HX2 := Lib.hid ((HBXX.out.keep HG1.out (by simp)).keep HG2.out (fun e => HO1.out.ne_of (by omega) e.symm)); have hcn2 := HX2.out.cell hlt; have hfn2 := HX2.out.free k; clear hown2 hg2 hk2)) | (at_lookup; refine wpList_lookup_own_int _ rfl _ _ 51 rfl 9 3 .i64 keyed_string Try.underlying51 Try.underlying3 (zero_int _) (w.heap.size + 3) _ _ rfl HD2.out _ _ rfl HKEY.out ?_; intro c hat hwc; have hce := (HMS.out.at_eq (k := tx) (by simp) hat).trans (congrArg Int.ofNat HIX.out); subst hce; clear hat hwc))
            go_roundg (257 - (k + 1))
            case measure => omega
            case rel =>
              obtain ⟨hbs, hgs⟩ := HX2.out.set k (L.length : Nat)
              refine ⟨k + 1, cl.set k (L.length : Nat), by omega, by go_num, ?_, hbs, ?_, Lib.hid (fun a ha => ?_), ((HWX.out.grown HG1.out (by omega) (fun j hj => by cases hj; omega)).grown HG2.out (by omega) (fun j hj => by have := (HO1.out.lt j hj).1; omega)).setCell (Nat.le_refl _) _, rfl⟩
              · rw [HPN.out HMEM.out, ints_append]
                exact HO2.out.keep hgs (HO2.out.off (by omega))
              · rw [HUS.out, addNew, if_neg HMEM.out]
                exact OwnMap.keep ⟨_, by rw [List.length_append, List.length_singleton, HKL.out]; exact HD2.out, HMS.out⟩ hgs (by simp)
              · rw [getD_set]
                rcases Nat.lt_succ_iff_lt_or_eq.1 ha with h1 | rfl
                · rw [if_neg (by omega)]; exact HCL.out a h1
                · rw [if_pos ⟨rfl, by rw [HBXX.out.len]; exact hlt⟩, HKAP.out, HPV.out, HUS.out, addNew, if_neg HMEM.out, HIX.out]
    · have hk6 : k = 256 := by omega
      subst hk6
      have hct : d.cls.take 256 = d.cls := List.take_of_length_le (by rw [HL.out]; exact Nat.le_refl _)
      rw [hct] at HO
      have HCE : Hid (cl = clsI rows d.cls) := Lib.hid (ext_getD (by rw [HBX.out.len]; simp [clsI, HL.out]) (fun i hi => by
        have hi' : i < d.cls.length := by rw [HL.out, ← HBX.out.len]; exact hi
        have hm : d.cls.getD i 0 ∈ d.cls := getD_mem _ _ _ hi'
        rw [HCL.out i (by rw [← HBX.out.len]; exact hi), ← HPC.out.2 _ hm, clsI, nl_getD]
        simp [List.getD, hi']))
      clear hct HCL HMP
      obtain ⟨C1, hC1, hC1s, hC1l⟩ := HBX.out.open
      have HC1 := Lib.hid hC1; clear hC1
      have HC1S := Lib.hid hC1s; clear hC1s
      have HR1 := Lib.hid (HR4.out.upB (by simp) HW.out)
      have HQ : Hid (∀ w', (∃ x, w' = chg wr (some (w.heap.size + 1)) x) → w'.heap[w.heap.size + 2]? = some (.cells C1 22 (0, 0))) := Lib.hid (by
        rintro w' ⟨x, rfl⟩
        rw [(chg_grown wr x _).block (w.heap.size + 2) HBX.out.lt (by simp)]
        exact HC1.out)
      have hrl := HR1.out.lt
      go_wp2
      refine wp_region_row (some (w.heap.size + 1)) [0,2,1] [3] (by kernel_rfl) (by kernel_rfl) ?_
      simp only [pick, List.map_cons, List.map_nil, List.getD_cons_zero, List.getD_cons_succ]
      repeat (first | (go_big_quiet_want; refine quiet_load_arr _ rfl (w.heap.size + 2) rfl C1 HC1S.out HQ.out ?_; go_simp; go_big_quiet_on) | go_big_quiet_step (fail))
      refine wpQuiet_nil ?_
      unfold wpAct
      go_wp2_with (refine wpList_store_agg rfl 22 _ _ rfl (w.heap.size + 1) 22 (w.heap.size + 1) 256 256 rfl C1 rfl (by rw [HC1S.out]; kernel_rfl) (ints (List.replicate 256 0)) (HR1.out.own.up (b_drew1 (Below.refl _ _))) (by rw [HC1S.out, ints_length, List.length_replicate]; exact Nat.le_refl _) (by rw [hC1l]; exact ints_one _) ?_; intro w2 hown2 hg2; have HO2 := Lib.hid hown2; have HG2 := Lib.hid hg2; clear hown2 hg2)
      refine ⟨ex_chg (grown_trans (grown_drew _ _) HG2.out), ?_⟩
      unfold wpAct
      intro _ _
      go_wp2
      have hg2 : wr.grownBy w2 (some (w.heap.size + 1)) := grown_trans (grown_drew _ _) HG2.out
      have hbc : BoxC w2 (w.heap.size + 1) cl := ⟨by
        have h := HO2.out
        rw [HC1S.out, List.drop_of_length_le (by rw [ints_length, List.length_replicate]; exact Nat.le_refl _), List.append_nil, hC1l] at h
        exact h, HBX.out.len⟩
      obtain ⟨C2, hC2, hC2s, hC2l⟩ := hbc.open
      have hl2 := run_loadVar_sub (P := Try.prog) w2 (w.heap.size + 1) 0 256 22 22 C2 (0, 0) _ hC2 Try.underlying22 rfl (by kernel_rfl) (by rw [hC2s]; decide)
      have e2 : C2.extract 0 (0 + 256) = C2 := by rw [Nat.zero_add, ← hC2s]; simp
      rw [e2] at hl2
      refine ret_tmp_cell rfl rfl rfl rfl hl2 ⟨u6, C2, rfl, ?_, ?_, ?_⟩
      · have h := (HO.out.keep hg2 (HO.out.off (by omega))).mono (show w.heap.size ≤ w.heap.size + 4 by omega)
        rw [← HPC.out.1] at h
        exact h
      · rw [hC2l, HCE.out]
      · have hb0 : Below w.heap.size w ((w.alloc (.cells A 26)).alloc (.cells Z 22)) := (by repeat (first | exact Below.refl _ _ | assumption | refine b_drewN ?_ _ | refine Below.drew ?_ | refine b_ext' ?_ _ | refine b_alloc' ?_ _))
        exact (hb0.trans (HW.out.mono (by omega))).grown hg2 (by omega) (fun j hj => by cases hj; omega)
end Go.Cm
