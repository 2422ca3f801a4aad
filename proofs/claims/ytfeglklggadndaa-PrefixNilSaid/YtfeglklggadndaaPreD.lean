/- The walks of the reading of a symbol by a table. Conditions: the table and the reader are there. -/
import Derived.Test.YtfeglklggadndaaPreN
namespace Go.Cm
open Go.RowKit Go.Proofs

theorem Own.whole {w : World} {B T g n : Nat} {xs : List Value} (h : Own w B T (.slice (some ⟨g, 0, none⟩) n n) xs) : ∃ A, w.heap[g]? = some (.cells A T (0, 0)) ∧ A.size = n ∧ A.toList = xs := by
  have hl := h.len
  rcases h.1.2 with ⟨h1, _⟩ | ⟨g', cap, cur, h1, _, hg, hnc, hcm, hcs, htake⟩
  · cases h1
  · simp only [Value.slice.injEq, Option.some.injEq, Addr.mk.injEq, and_true] at h1
    obtain ⟨rfl, h2, rfl⟩ := h1
    have hs : cur.size = n := by omega
    refine ⟨cur, hg, hs, ?_⟩
    rw [← htake, List.take_of_length_le]
    rw [Array.length_toList]; omega
theorem ext3 {A : Array Value} {pre post : List Value} {E : Nat → Ent} {n x o : Nat} (hA : A.toList = pre ++ flatE E n ++ post) (ho : pre.length = o) (hx : x < n) : A.extract (o + 3 * x) (o + 3 * x + 3) = entV (E x) := by
  have hs : A.size = pre.length + 3 * n + post.length := by rw [← Array.length_toList, hA]; simp [flatE_length]; omega
  refine Array.ext (by simp [entV]; omega) fun k h1 h2 => ?_
  have hk : k < 3 := by simpa [entV] using h2
  rw [Array.getElem_extract]
  have hg : A[o + 3 * x + k]? = some (.int .i64 (cellE (E x) k : Nat)) := by
    rw [← Array.getElem?_toList, hA, List.append_assoc, List.getElem?_append_right (by omega), List.getElem?_append_left (by rw [flatE_length]; omega), show o + 3 * x + k - pre.length = 3 * x + k by omega]
    exact flatE_at E n x k hx hk
  have hg2 := (Array.getElem?_eq_some_iff.1 hg).2
  rw [hg2]
  rcases (show k = 0 ∨ k = 1 ∨ k = 2 by omega) with rfl | rfl | rfl <;> rfl
theorem results_one_cell {P : Program} {fn : Func} {tmps : Array Value} {w : World} {a t : Nat} {ad : Addr} {v : Value} (hf : fn.results = #[.cell a t]) (ha : tmps.getD a undef = .pointer (some ad)) (hl : (loadVar t ad).run P w = .ok v w) :
    (results fn tmps).run P w = .ok v w := by
  have ha' : tmps[a]?.getD undef = .pointer (some ad) := by simpa using ha
  simp [results, hf, asAddr, ha', hl]
theorem ret_one_cell {P : Program} {fn : Func} {a : Act} {w : World} {s t : Nat} {ad : Addr} {x : Value} {R : Ending → World → Prop} (hf : fn.results = #[.cell s t]) (ha : a.tmps.getD s undef = .pointer (some ad)) (hd : a.defers = [])
    (hl : (loadVar t ad).run P w = .ok x w) (h : R (.returned x) w) : bodyPost P fn R .ret a w :=
  bodyPost_ret (v := x) (results_one_cell hf ha hl) hd h
theorem load_whole {P : Program} {w : World} {B T g n : Nat} {C : Array Value} (h : Own w B T (.slice (some ⟨g, 0, none⟩) n n) C.toList) (d : TypeDesc) (hu : P.underlying T = some d) (hd : (match d with | .struct _ | .array _ _ => true | _ => false) = true) (hi : (P.info? T).map (·.size) = some n) :
    (loadVar T ⟨g, 0, none⟩).run P w = .ok (.agg C) w := by
  obtain ⟨A, hg, hs, hA⟩ := h.whole
  have hl := run_loadVar_sub (P := P) w g 0 n T T A (0, 0) d hg hu hd hi (by omega)
  have e : A.extract 0 (0 + n) = C := by rw [Nat.zero_add, ← hs, Array.extract_size]; exact Array.toList_inj.1 hA
  rw [e] at hl
  exact hl
theorem i64_and (a r : Nat) (hr : r ≤ 15) (ha : a ≤ 65536) : bits .and .i64 (a : Int) (((2 ^ r : Nat) : Int) - 1) = ((a % 2 ^ r : Nat) : Int) := by
  have hp : 2 ^ r ≤ 2 ^ 15 := Nat.pow_le_pow_right (by decide) hr
  have hp1 : 1 ≤ 2 ^ r := Nat.pow_pos (by decide)
  have e : ((2 ^ r : Nat) : Int) - 1 = ((2 ^ r - 1 : Nat) : Int) := by omega
  rw [e, (bits_nat .i64 63 (by decide) (fun n h0 h1 => by rw [IntKind.wrap_i64]; omega) a (2 ^ r - 1) (by omega) (by omega)).1, Nat.and_two_pow_sub_one_eq_mod]

theorem look_zero {E : Nat → Ent} {fs : List Sub} {V : Nat} (h : (E (V % 512)).t = 0) : lookN E fs V = E (V % 512) := by
  unfold lookN; rw [h]
theorem look_succ {E : Nat → Ent} {fs : List Sub} {V k : Nat} {f : Sub} (h : (E (V % 512)).t = k + 1) (hf : fs[k]? = some f) : lookN E fs V = f.F (V / 512 % 2 ^ f.m) := by
  unfold lookN; rw [h]; simp only [hf]
def zE : Array Value := entV Ent.zero
theorem zero_ent (W : World) : (zeroValue 38).run Try.prog W = .ok (.agg zE) W := by kernel_rfl

set_option maxRecDepth 100000 in
set_option maxHeartbeats 1000000 in
theorem findP {w : World} {B g sy : Nat} {E : Nat → Ent} {fs : List Sub} {vf : Value} {L : List Nat} {i : Nat} (h : TabM w B g sy E fs vf) (hok : TabOk L i E fs) (V : Nat) (hV : V < 32768) :
    Calls Try.prog 31 #[.pointer (some ⟨g, 0, none⟩), .int .i64 V] w fun e w' => e = .returned (.agg (entV (lookN E fs V))) ∧ Below w.heap.size w w' := by
  have hz := zero_ent
  obtain ⟨Z, hZ⟩ : ∃ Z, Z = zE := ⟨_, rfl⟩
  have hZl : Z.toList.length = 3 := by rw [hZ]; rfl
  have hZs : Z.size = 3 := by rw [hZ]; rfl
  rw [← hZ] at hz
  clear hZ
  have hx : V % 512 < 512 := by omega
  obtain ⟨A, hA, hAs, hAl⟩ := h.box.whole
  have hext := ext3 hAl rfl hx
  simp only [pre2] at hext
  have hgl := h.blk.2
  have HM := Lib.hid h
  have hmask := i64_and V 9 (by omega) (by omega)
  have hixa := fun W => index_arr g 2 (V % 512) W hx
  have HFAR : Hid (∀ k, (E (V % 512)).t = k + 1 → ∃ f, fs[k]? = some f ∧ f.m ≤ 6) := Lib.hid (fun k hk => by obtain ⟨f, h1, h2, -⟩ := hok.far _ k hx hk; exact ⟨f, h1, h2⟩)
  clear h hok hAl
  have hmask2 : bits .and .i64 (V : Int) 511 = ((V % 512 : Nat) : Int) := hmask
  clear hmask
  obtain ⟨ex, hex⟩ : ∃ ex, ex = E (V % 512) := ⟨_, rfl⟩
  rw [← hex] at hext HFAR
  have HEX := Lib.hid hex
  clear hex
  have hes : (entV ex).size = 3 := rfl
  have he1 := entV_one ex
  have hget : (entV ex).toList.getD 2 undef = .int .i64 (ex.t : Nat) := rfl
  obtain ⟨VX, hVX⟩ : ∃ VX, VX = entV ex := ⟨_, rfl⟩
  rw [← hVX] at hext hes he1 hget
  have HVX := Lib.hid hVX
  clear hVX
  have hA5 : ((w.alloc (.cells Z 38))).heap[g]? = some (.cells A 42 (0, 0)) := ((below_alloc w _).block g hgl).trans hA
  have ho4 := own_lit w w.heap.size Z 38 (by omega) (Nat.le_refl _)
  rw [hZs] at ho4
  have ho5 := own_lit (w.alloc (.cells Z 38)) w.heap.size Z 38 (by omega) (by simp)
  rw [hZs, show (w.alloc (.cells Z 38)).heap.size = w.heap.size + 1 by simp] at ho5
  have HO4 := Lib.hid (ho4.up (below_alloc _ (.cells Z 38)))
  have HO5 := Lib.hid ho5
  clear ho4 ho5 hA
  obtain ⟨x, hxx⟩ : ∃ x, x = V % 512 := ⟨_, rfl⟩
  rw [← hxx] at hext HEX hixa hmask2 hx
  have HX := Lib.hid hxx
  clear hxx
  have HDR : Hid (∀ w2, Own w2 w.heap.size 38 (.slice (some ⟨w.heap.size + 1, 0, none⟩) 3 3) (VX.toList ++ Z.toList.drop VX.size) → Own w2 w.heap.size 38 (.slice (some ⟨w.heap.size + 1, 0, none⟩) 3 3) VX.toList) := Lib.hid (fun w2 h => by
    rw [List.drop_of_length_le (by omega), List.append_nil] at h; exact h)
  have HC5 : Hid (∀ w2, Own w2 w.heap.size 38 (.slice (some ⟨w.heap.size + 1, 0, none⟩) 3 3) VX.toList → w2.cell? ⟨w.heap.size + 1, 2, none⟩ = some (.int .i64 (ex.t : Nat))) := Lib.hid (fun w2 h => by
    rw [h.cell (by rw [Array.length_toList]; omega), hget])
  clear hget
  cases ht : ex.t with
  | zero =>
    rw [ht] at HC5
    have HLK : Hid (lookN E fs V = ex) := Lib.hid (by rw [look_zero (by rw [← HX.out, ← HEX.out]; exact ht), ← HX.out, ← HEX.out])
    go_enter Try.func31, Try.ntmps31
    go_wp2_with (first | (refine wpList_load_sub rfl 38 _ rfl g (2 + 3 * x) 3 rfl 42 A VX (0, 0) _ hA5 Try.underlying38 rfl (by kernel_rfl) (by omega) hext ?_) | (refine wpList_store_agg rfl 38 _ _ rfl w.heap.size 38 (w.heap.size + 1) 3 3 rfl VX rfl (by rw [hes]; kernel_rfl) Z.toList HO5.out (by omega) he1 ?_; intro w2 hown2 hg2; have HO2 := Lib.hid (HDR.out w2 hown2); have HG2 := Lib.hid hg2; have hc5 := HC5.out w2 HO2.out; have hs5 := HO2.out.blk.2; obtain ⟨A5, hA5g, hA5s, hA5l⟩ := HO2.out.whole; obtain rfl : A5 = VX := Array.toList_inj.1 hA5l; clear hown2 hg2 hA5l ) | (refine load_box rfl 38 3 _ rfl (w.heap.size + 1) rfl A5 hA5s hA5g _ Try.underlying38 rfl (by kernel_rfl) ?_) | (refine wpList_store_agg rfl 38 _ _ rfl w.heap.size 38 w.heap.size 3 3 rfl A5 rfl (by rw [hes]; kernel_rfl) Z.toList (HO4.out.keep HG2.out (.inr (by simp [Value.ownBlock]))) (by omega) he1 ?_; intro w6 hown6 hg6; rw [List.drop_of_length_le (by omega), List.append_nil] at hown6; have HO6 := Lib.hid hown6; have HG6 := Lib.hid hg6; clear hown6 hg6))
    refine ret_one_cell (s := 4) (ad := ⟨w.heap.size, 0, none⟩) (x := .agg A5) rfl rfl rfl (load_whole (n := 3) HO6.out _ Try.underlying38 rfl (by kernel_rfl)) ?_
    refine ⟨by rw [HLK.out, ← HVX.out], ?_⟩
    have h1 : Below w.heap.size w ((w.alloc (.cells Z 38)).alloc (.cells Z 38)) := (by repeat (first | exact Below.refl _ _ | assumption | refine b_drewN ?_ _ | refine Below.drew ?_ | refine b_ext' ?_ _ | refine b_alloc' ?_ _))
    exact (h1.grown HG2.out h1.size (fun k hk => by cases hk; omega)).grown HG6.out (by have := h1.size; have := HG2.out.size; omega) (fun k hk => by cases hk; exact Nat.le_refl _)
  | succ k =>
    rw [ht] at HC5
    obtain ⟨f, hf, hm6⟩ := HFAR.out k ht
    have HLK : Hid (lookN E fs V = f.F (V / 512 % 2 ^ f.m)) := Lib.hid (look_succ (by rw [← HX.out, ← HEX.out]; exact ht) hf)
    have hkl : k < fs.length := (List.getElem?_eq_some_iff.1 hf).1
    have hy : V / 512 % 2 ^ f.m < 2 ^ f.m := Nat.mod_lt _ (Nat.pow_pos (by decide))
    have hrow := HM.out.rows k f hf
    obtain ⟨Af, hAf, hAfs, hAfl⟩ := hrow.1.nil3.whole
    have hextf := ext3 (o := 0) hAfl rfl hy
    have hcv := HM.out.cv
    obtain ⟨of, cf, gf, rfl, hdf, -, hcf, -⟩ := HM.out.outer.cases
    rw [List.length_map] at hdf hcf hcv
    have hixf := index_any (P := Try.prog) 40 70 Try.underlying40 (by kernel_rfl) hdf
    have hixk := fun W => hixf W .i64 (k : Int) (by omega) (by omega)
    rw [Int.toNat_natCast, Nat.zero_add] at hixk
    have hck := hcf k hkl
    have hsub : (fs.map subV).getD k undef = subV f := by rw [List.getD_eq_getElem?_getD, List.getElem?_map, hf]; rfl
    rw [hsub] at hck
    have hgf := hdf.hblk (by omega)
    have hgff := hrow.1.blk.2
    have hmaskf := i64_and (V / 512) f.m (by omega) (by omega)
    have hixe := index_ent f.g 0
    have hk63 : k ≤ 140737488351232 := by have := HM.out.outer.2; rw [List.length_map] at this; omega
    unfold subV at hck
    rw [Nat.zero_add] at hextf
    have HBA : Hid (∀ w2, ((w.alloc (.cells Z 38)).alloc (.cells Z 38)).grownBy w2 (some (w.heap.size + 1)) → Below w.heap.size w w2) := Lib.hid (fun w2 hg => by
      have h1 : Below w.heap.size w ((w.alloc (.cells Z 38)).alloc (.cells Z 38)) := (by repeat (first | exact Below.refl _ _ | assumption | refine b_drewN ?_ _ | refine Below.drew ?_ | refine b_ext' ?_ _ | refine b_alloc' ?_ _))
      exact h1.grown hg h1.size (fun k hk => by cases hk; omega))
    have hAfz : Af.size = 3 * 2 ^ f.m := hAfs
    have hm64 : 2 ^ f.m ≤ 64 := Nat.le_trans (Nat.pow_le_pow_right (by decide) hm6) (by decide)
    have ez : (V : Int) / 512 = ((V / 512 : Nat) : Int) := by omega
    have hz64 : V / 512 ≤ 64 := by omega
    clear hixf hdf hcf hsub hAfl hrow hf
    generalize V / 512 = z at *
    generalize hn : 2 ^ f.m = n at *
    generalize z % n = y at *
    have hixy := fun W => hixe n W y hy
    rw [Nat.zero_add] at hixy
    have hfe := entV_one (f.F y)
    have hfs3 : (entV (f.F y)).size = 3 := rfl
    obtain ⟨VF, hVF⟩ : ∃ VF, VF = entV (f.F y) := ⟨_, rfl⟩
    rw [← hVF] at hextf hfe hfs3
    have HVF := Lib.hid hVF
    clear hVF hixe hn ht
    go_enter Try.func31, Try.ntmps31
    go_wp2_with (first | (refine wpList_load_sub rfl 38 _ rfl g (2 + 3 * x) 3 rfl 42 A VX (0, 0) _ hA5 Try.underlying38 rfl (by kernel_rfl) (by omega) hext ?_) | (refine wpList_store_agg rfl 38 _ _ rfl w.heap.size 38 (w.heap.size + 1) 3 3 rfl VX rfl (by rw [hes]; kernel_rfl) Z.toList HO5.out (by omega) he1 ?_; intro w2 hown2 hg2; have HO2 := Lib.hid (HDR.out w2 hown2); have HG2 := Lib.hid hg2; have hc5 := HC5.out w2 HO2.out; have hs5 := HO2.out.blk.2; have hb2 := HBA.out w2 hg2; have HB2 := Lib.hid hb2; have hcv2 := (hb2.cell (p := ⟨g, 1538, none⟩) hgl).trans hcv; have hck2 := (hb2.cell (p := ⟨gf, k, none⟩) hgf).trans hck; have hAf2 := (hb2.block f.g hgff).trans hAf; have hg2w : g < w2.heap.size := Nat.lt_of_lt_of_le hgl hb2.size; have hgf2w : gf < w2.heap.size := Nat.lt_of_lt_of_le hgf hb2.size; clear hown2 hg2 hb2 hcv hck))
    go_quiet (fail)
    have hAfq : (w2.drewN nq).heap[f.g]? = some (.cells Af 38 (0, 0)) := hAf2
    have HO4q := Lib.hid ((HO4.out.keep HG2.out (.inr (by simp [Value.ownBlock]))).up (below_drewN w2 nq))
    have HB2q := Lib.hid (HB2.out.trans ((below_drewN w2 nq).mono HB2.out.size))
    have hsq : f.g < (w2.drewN nq).heap.size := Nat.lt_of_lt_of_le hgff HB2q.out.size
    clear hcv2 hck2 hAf2 hg2w hgf2w HB2 HG2 HO2 hc5 hs5 HC5 HDR HBA
    generalize w2.drewN nq = wq at *
    go_wp2_with (first | (refine wpList_load_sub rfl 38 _ rfl f.g (3 * y) 3 rfl 38 Af VF (0, 0) _ hAfq Try.underlying38 rfl (by kernel_rfl) (by omega) hextf ?_) | (refine wpList_store_agg rfl 38 _ _ rfl w.heap.size 38 w.heap.size 3 3 rfl VF rfl (by rw [hfs3]; kernel_rfl) Z.toList HO4q.out (by omega) hfe ?_; intro w6 hown6 hg6; rw [List.drop_of_length_le (by omega), List.append_nil] at hown6; have HO6 := Lib.hid hown6; have HG6 := Lib.hid hg6; clear hown6 hg6))
    refine ret_one_cell (s := 4) (ad := ⟨w.heap.size, 0, none⟩) (x := .agg VF) rfl rfl rfl (load_whole (n := 3) HO6.out _ Try.underlying38 rfl (by kernel_rfl)) ?_
    refine ⟨by rw [HLK.out, ← HVF.out], ?_⟩
    exact HB2q.out.grown HG6.out HB2q.out.size (fun k hk => by cases hk; exact Nat.le_refl _)
end Go.Cm
