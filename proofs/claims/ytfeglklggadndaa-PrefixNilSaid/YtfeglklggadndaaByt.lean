/- Bytes as values, and as a text. Conditions: none. (For seats that do not build Look.) -/
import Derived.Test.YtfeglklggadndaaOwn
import Derived.Laws.Small
namespace Go.Cm
open Go.RowKit Go.Proofs

def bytesV (l : List UInt8) : List Value := l.map fun b => .int .u8 (b.toNat : Int)
theorem bytesV_append (a b : List UInt8) : bytesV (a ++ b) = bytesV a ++ bytesV b := by simp [bytesV]
theorem bytesV_length (a : List UInt8) : (bytesV a).length = a.length := by simp [bytesV]
theorem bytesV_one (l : List UInt8) : ∀ u ∈ bytesV l, u.oneCell' = true := by
  intro u hu; simp only [bytesV, List.mem_map] at hu; obtain ⟨b, -, rfl⟩ := hu; rfl
/-- bytes of one's own, as a text -/
theorem run_bytes_string {P : Program} (w : World) (src dst e : TypeId) (hs : P.underlying src = some (.slice e)) (he : P.underlying e = some (.int .u8)) (hd : P.underlying dst = some .string)
    (v : Value) (l : List UInt8) (h : Sl w v (bytesV l)) : (convert src dst v).run P w = .ok (.string ⟨l.toArray⟩) w := by
  obtain ⟨oa, cap, b, off, rfl, hdr, hc⟩ := h
  rw [bytesV_length] at hdr hc ⊢
  rw [run_convert_bytes_string w src dst e oa l.length cap hs he hd]
  have hfold : ∀ (l : List UInt8) (s : ByteArray), (l.map fun b => (b.toNat : Int)).foldl (fun r n => r.push (UInt8.ofNat n.toNat)) s = ⟨s.data ++ l.toArray⟩ := by
    intro l
    induction l with
    | nil => intro s; simp
    | cons b l ih => intro s; simp only [List.map_cons, List.foldl_cons, ih]; simp [ByteArray.push]
  have hb : bytesV l = (l.map fun b => (b.toNat : Int)).map (Value.int .u8) := by simp [bytesV]
  cases oa with
  | none =>
    have h0 : l.length = 0 := by
      rcases Nat.eq_zero_or_pos l.length with h | h
      · exact h
      · have := hdr.hat h; cases this
    obtain rfl : l = [] := List.length_eq_zero_iff.1 h0
    unfold Conv.bytesToString
    simp
    rfl
  | some ad =>
    have hl : (loadCells ad l.length).run P w = .ok ((l.map fun b => (b.toNat : Int)).map (Value.int .u8)).toArray w := by
      rcases Nat.eq_zero_or_pos l.length with h | h
      · obtain rfl : l = [] := List.length_eq_zero_iff.1 h
        simp [loadCells, loadCellsFrom]
      · have := hdr.hat h
        obtain rfl : ad = ⟨b, off, none⟩ := Option.some.inj this
        rw [← hb]
        have h2 := run_loadCells_list (P := P) w ⟨b, off, none⟩ (bytesV l) (fun j v hv => by
          have hj : j < (bytesV l).length := (List.getElem?_eq_some_iff.1 hv).1
          rw [bytesV_length] at hj
          rw [add_off, hc j hj]; simp [List.getD, hv])
        rwa [bytesV_length] at h2
    rw [run_bytesToString w ad l.length cap _ hl, hfold]
    simp

end Go.Cm
