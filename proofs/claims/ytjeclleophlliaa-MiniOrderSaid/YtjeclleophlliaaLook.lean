/- The walk of mini.look: what a state looks like, as bytes. Conditions: the state and what its row leads to have parts. -/
import Derived.Test.YtjeclleophlliaaOwn
import Derived.Test.YtjeclleophlliaaDfaW
import Derived.Test.YtjeclleophlliaaMiniP
namespace Go.Cm
open Go.RowKit Go.Proofs

def bytesV (l : List UInt8) : List Value := l.map fun b => .int .u8 (b.toNat : Int)
theorem byteOf_val (n : Int) : ((byteOf n).toNat : Int) = n % 256 := by
  have h2 : (n % 256).toNat < 256 := by omega
  simp [byteOf]
  omega
theorem bytesV_enc2 (n : Int) : bytesV (enc2 n) = [.int .u8 (n % 256), .int .u8 (n / 256 % 256)] := by simp [bytesV, enc2, byteOf_val]
theorem bytesV_append (a b : List UInt8) : bytesV (a ++ b) = bytesV a ++ bytesV b := by simp [bytesV]
theorem bytesV_length (a : List UInt8) : (bytesV a).length = a.length := by simp [bytesV]
theorem bytesV_one (l : List UInt8) : ∀ u ∈ bytesV l, u.oneCell' = true := by
  intro u hu; simp only [bytesV, List.mem_map] at hu; obtain ⟨b, -, rfl⟩ := hu; rfl
/-- bytes of one's own, as a text -/
theorem run_bytes_string {P : Program} (w : World) (src dst e : TypeId) (hs : P.underlying src = some (.slice e)) (he : P.underlying e = some (.int .u8)) (hd : P.underlying dst = some .string)
    (v : Value) (l : List UInt8) (h : Sl w v (bytesV l)) : (convert src dst v).run P w = .ok (.string ⟨l.toArray⟩) w := by
  obtain ⟨oa, cap, b, off, rfl, hdr, hc⟩ := h
  rw [bytesV_length] at hdr hc ⊢
  rw [run_convert_bytes_string w src dst e oa l.length cap hs he hd]
  have hfold : ∀ (l : List UInt8) (s : ByteArray), (l.map fun b => (b.toNat : Int)).foldl (fun r n => r.push (UInt8.ofNat n.toNat)) s = ⟨s.data ++ l.toArray⟩ := by
    intro l
    induction l with
    | nil => intro s; simp
    | cons b l ih => intro s; simp only [List.map_cons, List.foldl_cons, ih]; simp [ByteArray.push]
  have hb : bytesV l = (l.map fun b => (b.toNat : Int)).map (Value.int .u8) := by simp [bytesV]
  cases oa with
  | none =>
    have h0 : l.length = 0 := by
      rcases Nat.eq_zero_or_pos l.length with h | h
      · exact h
      · have := hdr.hat h; cases this
    obtain rfl : l = [] := List.length_eq_zero_iff.1 h0
    unfold Conv.bytesToString
    simp
    rfl
  | some ad =>
    have hl : (loadCells ad l.length).run P w = .ok ((l.map fun b => (b.toNat : Int)).map (Value.int .u8)).toArray w := by
      rcases Nat.eq_zero_or_pos l.length with h | h
      · obtain rfl : l = [] := List.length_eq_zero_iff.1 h
        simp [loadCells, loadCellsFrom]
      · have := hdr.hat h
        obtain rfl : ad = ⟨b, off, none⟩ := Option.some.inj this
        rw [← hb]
        have h2 := run_loadCells_list (P := P) w ⟨b, off, none⟩ (bytesV l) (fun j v hv => by
          have hj : j < (bytesV l).length := (List.getElem?_eq_some_iff.1 hv).1
          rw [bytesV_length] at hj
          rw [add_off, hc j hj]; simp [List.getD, hv])
        rwa [bytesV_length] at h2
    rw [run_bytesToString w ad l.length cap _ hl, hfold]
    simp

set_option maxRecDepth 100000 in
set_option maxHeartbeats 1000000 in
theorem look (v pv : Value) (d : Dfa) (part : List Int) (s : Nat) (w : World) (h : DfaAt w v d) (hp : IntsAt w pv part) (hs1 : s < d.next.length) (hs2 : s < part.length) (hrow : ∀ to ∈ d.next.getD s [], 0 ≤ to ∧ to < part.length) (hlen : (d.next.getD s []).length ≤ 1000) :
    Calls Try.prog 29 #[v, pv, .int .i64 s] w fun e w' => e = .returned (.string ⟨(lookS d part s).toArray⟩) ∧ ∃ x, w' = ext w x := by
  obtain ⟨A, rfl, hs, hl, hc, ⟨vn, hn, hrw⟩, -⟩ := h
  obtain ⟨oa, cap, b, off, rfl, hd, hro⟩ := hrw.open
  obtain ⟨oa', cap', b', off', rfl, hd', hrc⟩ := hp.open
  have hix := index_any (P := Try.prog) 23 24 Try.underlying23 (by kernel_rfl) hd
  have hix' := index_any (P := Try.prog) 24 3 Try.underlying24 (by kernel_rfl) hd'
  have hm := hd.len
  have hm' := hd'.len
  obtain ⟨oi, ci, bi, fi, hck, hdk, hcj, -⟩ := hro s hs1
  have hixk := index_any (P := Try.prog) 24 3 Try.underlying24 (by kernel_rfl) hdk
  have hb := hd.hblk (by omega)
  have hb' := hd'.hblk (by omega)
  have hlk := hdk.hsml
  have hps := hrc s hs2
  have HL : Hid (lookS d part s = enc2 (part.getD s 0) ++ (d.next.getD s []).flatMap fun to => enc2 (part.getD to.toNat 0)) := Lib.hid rfl
  generalize part.getD s 0 = p0 at *
  generalize d.next.getD s [] = row at *
  clear hs hc hro
  have HCJ := Lib.hid hcj; clear hcj
  have HRow := Lib.hid hrow; clear hrow
  have HRC := Lib.hid hrc; clear hrc
  have HD := Lib.hid hd; clear hd
  have HD' := Lib.hid hd'; clear hd'
  have HDK := Lib.hid hdk; clear hdk
  go_enter Try.func29, Try.ntmps29
  go_wp2
  refine wp_region_grow [0,1,2,3,4,5,6,7,8,9,10] [11,12] (by kernel_rfl) (by kernel_rfl) ?_
  simp only [pick, List.map_cons, List.map_nil, List.getD_cons_zero, List.getD_cons_succ]
  repeat (go_big_quiet_step (fail))
  refine wpQuiet_nil ?_
  (unfold wpAct; go_wp2; refine ⟨(ex_ext (by repeat (first | exact Below.refl _ _ | assumption | refine b_drewN ?_ _ | refine Below.drew ?_ | refine b_ext' ?_ _ | refine b_alloc' ?_ _))), ?_⟩)
  (unfold wpAct; go_wp2; refine ⟨(ex_ext (by repeat (first | exact Below.refl _ _ | assumption | refine b_drewN ?_ _ | refine Below.drew ?_ | refine b_ext' ?_ _ | refine b_alloc' ?_ _))), ?_⟩)
  unfold wpAct
  intro _
  have hO : Own (((w.alloc (.cells A 26)).alloc (.cells #[.int .u8 (p0 % 256), .int .u8 (p0 / 256 % 256)] 5)).drew) (w.heap.size + 1) 5 (.slice (some ⟨w.heap.size + 1, 0, none⟩) 2 2) (bytesV (enc2 p0)) := by
    have h1 := own_lit (w.alloc (.cells A 26)) (w.heap.size + 1) #[.int .u8 (p0 % 256), .int .u8 (p0 / 256 % 256)] 5 (by simp) (by simp)
    rw [bytesV_enc2]
    have h2 := h1.up (below_drewN _ 1)
    rw [← World.drew_is_drewN] at h2
    simpa using h2
  have HO := Lib.hid hO; clear hO
  go_wp2
  go_loopw [7, 28] (fun vb i wr => ∃ (k : Nat) (bs : List UInt8), k ≤ row.length ∧ i = .int .i64 k ∧ bs.length ≤ 2 + 2 * k ∧ Hid (bs = enc2 p0 ++ (row.take k).flatMap fun to => enc2 (part.getD to.toNat 0)) ∧ Own wr (w.heap.size + 1) 5 vb (bytesV bs) ∧ Below (w.heap.size + 1) (w.alloc (.cells A 26)) wr) (fun _ i _ => row.length - (intOf i).toNat)
  case atStart => exact ⟨0, enc2 p0, Nat.zero_le _, rfl, by simp [enc2], Lib.hid (by simp), HO.out, b_drew1 (Below.alloc (Below.refl _ _) (by simp) _)⟩
  case round =>
    obtain ⟨k, bs, hk, rfl, hbs, HBS, hown, hbel⟩ := hrel
    have hsz : w.heap.size + 1 ≤ wr.heap.size := by have := hbel.size; simpa using this
    have hcw : ∀ q o, q < w.heap.size → wr.cell? ⟨q, o, none⟩ = w.cell? ⟨q, o, none⟩ := fun q o hq => by
      rw [hbel.cell (p := ⟨q, o, none⟩) (Nat.lt_succ_of_lt hq), World.cell?_alloc_past _ _ _ hq]
    have HB := Lib.hid hbel; clear hbel
    have HO := Lib.hid hown; clear hown
    by_cases hlt : k < row.length
    · have hcell := HCJ.out k hlt
      have hbi : bi < w.heap.size := HDK.out.hblk (by omega)
      have hbi2 : bi < wr.heap.size := by omega
      have hb2 : b' < wr.heap.size := by omega
      have hn1 : some b' ≠ u7.ownBlock := fun e => by have := HO.out.lt b' e.symm; omega
      have hto := HRow.out _ (getD_mem row k 0 hlt)
      have HT := Lib.hid (take_succ_getD row k 0 hlt)
      generalize row.getD k 0 = to at *
      obtain ⟨q, rfl⟩ := Int.eq_ofNat_of_zero_le hto.1
      have hq : q < part.length := by omega
      have hcq := HRC.out q hq
      have HP : Hid (part.getD (q : Int).toNat 0 = part.getD q 0) := Lib.hid rfl
      generalize part.getD q 0 = y at *
      have HN := Lib.hid hn1; clear hn1
      clear hto hcw
      have hcw1 : wr.cell? ⟨bi, fi + k, none⟩ = some (.int .i64 (q : Int)) := by
        rw [HB.out.cell (p := ⟨bi, fi + k, none⟩) (Nat.lt_succ_of_lt hbi), World.cell?_alloc_past _ _ _ hbi]; exact hcell
      have hcw2 : wr.cell? ⟨b', off' + q, none⟩ = some (.int .i64 y) := by
        rw [HB.out.cell (p := ⟨b', off' + q, none⟩) (Nat.lt_succ_of_lt hb'), World.cell?_alloc_past _ _ _ hb']; exact hcq
      have hn1 := HN.out
      go_wp2
      refine wp_region_row u7.ownBlock [0,1,2,3,4,5,6,7,8,9,10,11] [12,13,14] (by kernel_rfl) (by kernel_rfl) ?_
      simp only [pick, List.map_cons, List.map_nil, List.getD_cons_zero, List.getD_cons_succ]
      repeat (go_big_quiet_step (fail))
      refine wpQuiet_nil ?_
      (unfold wpAct; go_wp2; refine ⟨ex_chg (grown_below (by repeat (first | exact Below.refl _ _ | assumption | refine b_drewN ?_ _ | refine Below.drew ?_ | refine b_ext' ?_ _ | refine b_alloc' ?_ _)) _), ?_⟩)
      unfold wpAct
      have hx : Sl (wr.alloc (.cells #[.int .u8 (y % 256), .int .u8 (y / 256 % 256)] 5)).drew (.slice (some ⟨wr.heap.size, 0, none⟩) 2 2) (bytesV (enc2 y)) := by
        have h1 := (sl_lit wr #[.int .u8 (y % 256), .int .u8 (y / 256 % 256)] 5 (by simp)).up (below_drewN _ 1)
        rw [← World.drew_is_drewN] at h1
        rw [bytesV_enc2]; simpa using h1
      have HX := Lib.hid hx; clear hx
      go_wp2_with (at_builtin; refine wpList_app rfl (.tmp 32) (.tmp 44) 38 rfl (w.heap.size + 1) 5 (.int .u8 0) 1 Try.underlying38 (by kernel_rfl) rfl (by decide) u7 (bytesV bs) rfl (HO.out.up (by repeat (first | exact Below.refl _ _ | assumption | refine b_drewN ?_ _ | refine Below.drew ?_ | refine b_ext' ?_ _ | refine b_alloc' ?_ _))) (.slice (some ⟨wr.heap.size, 0, none⟩) 2 2) (bytesV (enc2 y)) rfl HX.out (bytesV_one _) (by simp [bytesV_length, enc2]; omega) (by simp; omega) ?_; intro v' w1 hown1 hg1 hk1; have HO1 := Lib.hid hown1; have HG1 := Lib.hid hg1; clear hown1 hg1 hk1)
      refine ⟨ex_chg (grown_trans (grown_below (by repeat (first | exact Below.refl _ _ | assumption | refine b_drewN ?_ _ | refine Below.drew ?_ | refine b_ext' ?_ _ | refine b_alloc' ?_ _)) _) HG1.out), ?_⟩
      unfold wpAct
      go_wp2
      refine ⟨ex_chg (grown_trans (grown_below (by repeat (first | exact Below.refl _ _ | assumption | refine b_drewN ?_ _ | refine Below.drew ?_ | refine b_ext' ?_ _ | refine b_alloc' ?_ _)) _) HG1.out), ?_⟩
      unfold wpAct
      intro _ hz; clear hz
      go_wp2
      go_roundw
      case rel =>
        refine ⟨k + 1, bs ++ enc2 y, by omega, by go_num, by simp [enc2]; omega, Lib.hid ?_, ?_, ?_⟩
        · rw [HT.out, List.flatMap_append, ← List.append_assoc, ← HBS.out]
          symm
          show bs ++ (enc2 (part.getD (q : Int).toNat 0) ++ []) = _
          rw [HP.out, List.append_nil]
        · rw [bytesV_append]; exact HO1.out
        · exact below_grown (B := w.heap.size + 1) (b_drew1 (HB.out.alloc hsz _)) (by simp; omega) (HO.out.up (by repeat (first | exact Below.refl _ _ | assumption | refine b_drewN ?_ _ | refine Below.drew ?_ | refine b_ext' ?_ _ | refine b_alloc' ?_ _))) HG1.out
      case measure => simp [intOf]; omega
    · have hcv := fun W h => run_bytes_string (P := Try.prog) W 38 9 5 Try.underlying38 Try.underlying5 Try.underlying9 u7 bs h
      have hcv' := hcv wr HO.out.sl
      clear hcv
      go_wp2
      go_ret
      have h1 := HBS.out
      rw [List.take_of_length_le (by omega), ← HL.out] at h1
      subst h1
      exact ⟨rfl, ex_ext ((below_alloc w _).trans (HB.out.mono (by omega)))⟩
end Go.Cm
