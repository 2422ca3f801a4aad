/- A bit writer's state as a number and a length, and the block it lies in. Conditions: none. -/
import Derived.Test.YtfeglklggadndaaOwnM
import Derived.Test.YtfeglklggadndaaBitW
namespace Go.Cm
open Go.RowKit Go.Proofs

/-- a byte of a number -/
def byteAt (N i : Nat) : Nat := N / 256 ^ i % 256
def bytesN (N k : Nat) : List Value := (List.range k).map fun i => .int .u8 (byteAt N i : Nat)
/-- the bits, a value each -/
def bitsN (N L : Nat) : List Value := (List.range L).map fun i => .int .u8 ((N.testBit i).toNat : Nat)
/-- the text of the bits -/
def textN (N L : Nat) : List UInt8 := (List.range ((L + 7) / 8)).map fun i => UInt8.ofNat (byteAt N i)
theorem bytesN_length (N k : Nat) : (bytesN N k).length = k := by simp [bytesN]
theorem bitsN_length (N k : Nat) : (bitsN N k).length = k := by simp [bitsN]
theorem byteAt_lt (N i : Nat) : byteAt N i < 256 := Nat.mod_lt _ (by decide)
theorem bytesN_succ (N k : Nat) : bytesN N (k + 1) = bytesN N k ++ [.int .u8 (byteAt N k : Nat)] := by simp [bytesN, List.range_succ]
theorem bitsN_succ (N L : Nat) : bitsN N (L + 1) = bitsN N L ++ [.int .u8 ((N.testBit L).toNat : Nat)] := by simp [bitsN, List.range_succ]
theorem pow256 (i : Nat) : 256 ^ i = 2 ^ (8 * i) := by rw [Nat.pow_mul]
theorem byteAt_add (N v L i : Nat) (hi : i < L / 8) : byteAt (N + v * 2 ^ L) i = byteAt N i := by
  unfold byteAt
  obtain ⟨q, rfl⟩ : ∃ q, L = 8 * i + 8 + q := ⟨L - (8 * i + 8), by omega⟩
  rw [pow256, show v * 2 ^ (8 * i + 8 + q) = (v * 2 ^ q * 256) * 2 ^ (8 * i) by rw [Nat.pow_add, Nat.pow_add]; rw [show (2 : Nat) ^ 8 = 256 by decide]; ac_rfl, Nat.add_mul_div_right _ _ (Nat.pow_pos (by decide)), Nat.add_mul_mod_self_right]
theorem bytesN_add (N v L : Nat) : bytesN (N + v * 2 ^ L) (L / 8) = bytesN N (L / 8) := by
  unfold bytesN
  refine List.map_congr_left fun i hi => ?_
  rw [byteAt_add N v L i (List.mem_range.1 hi)]
theorem rest_add (N v L : Nat) : (N + v * 2 ^ L) / 256 ^ (L / 8) = N / 256 ^ (L / 8) + v * 2 ^ (L % 8) := by
  have h : v * 2 ^ L = (v * 2 ^ (L % 8)) * 256 ^ (L / 8) := by
    rw [pow256, Nat.mul_assoc, ← Nat.pow_add, Nat.mod_add_div]
  rw [h, Nat.add_mul_div_right _ _ (Nat.pow_pos (by decide))]
theorem rest_lt (N L : Nat) (h : N < 2 ^ L) : N / 256 ^ (L / 8) < 2 ^ (L % 8) := by
  rw [pow256, Nat.div_lt_iff_lt_mul (Nat.pow_pos (by decide)), ← Nat.pow_add, Nat.mod_add_div]; exact h
theorem rest_next (N k : Nat) : N / 256 ^ k / 256 = N / 256 ^ (k + 1) := by rw [Nat.div_div_eq_div_mul, Nat.pow_succ]
theorem num_add_lt {N v L n : Nat} (hN : N < 2 ^ L) (hv : v < 2 ^ n) : N + v * 2 ^ L < 2 ^ (L + n) := by
  rw [Nat.pow_add]
  calc N + v * 2 ^ L < 2 ^ L + v * 2 ^ L := by omega
    _ = (v + 1) * 2 ^ L := by rw [Nat.add_mul]; omega
    _ ≤ 2 ^ n * 2 ^ L := Nat.mul_le_mul_right _ hv
    _ = 2 ^ L * 2 ^ n := Nat.mul_comm _ _
theorem or_add (a v n : Nat) (ha : a < 2 ^ n) : a ||| v * 2 ^ n = a + v * 2 ^ n := by
  have h := Nat.two_pow_add_eq_or_of_lt ha v
  rw [Nat.or_comm, Nat.mul_comm v, ← h, Nat.add_comm]
theorem bits_add {N v L : Nat} (hN : N < 2 ^ L) (n : Nat) : bitsN (N + v * 2 ^ L) (L + n) = bitsN N L ++ bitsN v n := by
  have ht : ∀ j, (N + v * 2 ^ L).testBit j = if j < L then N.testBit j else v.testBit (j - L) := fun j => by
    rw [Nat.add_comm, Nat.mul_comm]; exact Nat.testBit_two_pow_mul_add v hN j
  unfold bitsN
  rw [List.range_add, List.map_append, List.map_map]
  congr 1
  · refine List.map_congr_left fun i hi => ?_
    rw [ht, if_pos (List.mem_range.1 hi)]
  · refine List.map_congr_left fun i hi => ?_
    simp only [Function.comp]
    rw [ht, if_neg (by omega), Nat.add_sub_cancel_left]
theorem or_u64 (a v n : Nat) (ha : a < 2 ^ n) (hn : n < 8) (hv : v < 4294967296) : bits .or .u64 (a : Int) ((v : Int) * 2 ^ n % 18446744073709551616) = ((a + v * 2 ^ n : Nat) : Int) := by
  have h8 : 2 ^ n ≤ 2 ^ 7 := Nat.pow_le_pow_right (by decide) (by omega)
  have h1 : v * 2 ^ n ≤ 4294967296 * 2 ^ 7 := Nat.mul_le_mul (Nat.le_of_lt hv) h8
  have h2 : v * 2 ^ n < 18446744073709551616 := by omega
  have hc : (v : Int) * 2 ^ n = ((v * 2 ^ n : Nat) : Int) := by rw [Int.natCast_mul, Int.natCast_pow]; rfl
  have ho := or_add a v n ha
  have ha2 : a < 128 := by omega
  rw [hc]
  generalize v * 2 ^ n = q at *
  have e : (q : Int) % 18446744073709551616 = (q : Int) := by omega
  rw [e, (bits_nat .u64 64 (by decide) (fun n h0 h1 => by rw [IntKind.wrap_u64]; omega) a q (by omega) (by omega)).2, ho]

/-- the block of a writer of bits -/
structure BoxW (w : World) (g : Nat) (vb : Value) (rest n : Nat) : Prop where
  own : Own w g 66 (.slice (some ⟨g, 0, none⟩) 4 4) [.bool true, vb, .int .u64 rest, .int .i64 n]
section
variable {w : World} {g : Nat} {vb : Value} {rest n : Nat}
theorem BoxW.keep {w' : World} {row : Option Nat} (h : BoxW w g vb rest n) (hg : w.grownBy w' row) (hne : row ≠ some g) : BoxW w' g vb rest n := ⟨h.own.keep hg (.inr (fun e => hne e.symm))⟩
theorem BoxW.up {w' : World} (h : BoxW w g vb rest n) (hb : Below w.heap.size w w') : BoxW w' g vb rest n := ⟨h.own.up hb⟩
theorem BoxW.lt (h : BoxW w g vb rest n) : g < w.heap.size := (h.own.lt g rfl).2
theorem BoxW.c0 (h : BoxW w g vb rest n) : w.cell? ⟨g, 0, none⟩ = some (.bool true) := h.own.cell (by simp)
theorem BoxW.c1 (h : BoxW w g vb rest n) : w.cell? ⟨g, 1, none⟩ = some vb := h.own.cell (by simp)
theorem BoxW.c2 (h : BoxW w g vb rest n) : w.cell? ⟨g, 2, none⟩ = some (.int .u64 rest) := h.own.cell (by simp)
theorem BoxW.c3 (h : BoxW w g vb rest n) : w.cell? ⟨g, 3, none⟩ = some (.int .i64 n) := h.own.cell (by simp)
theorem BoxW.free (h : BoxW w g vb rest n) (c : Nat) : w.frozen? ⟨g, c, none⟩ = false := h.own.free c
theorem BoxW.set1 (h : BoxW w g vb rest n) (v : Value) : BoxW (w.setCell ⟨g, 1, none⟩ v) g v rest n ∧ w.grownBy (w.setCell ⟨g, 1, none⟩ v) (some g) := ⟨⟨(h.own.store 1 v).1⟩, (h.own.store 1 v).2⟩
theorem BoxW.set2 (h : BoxW w g vb rest n) (r : Nat) : BoxW (w.setCell ⟨g, 2, none⟩ (.int .u64 r)) g vb r n ∧ w.grownBy (w.setCell ⟨g, 2, none⟩ (.int .u64 r)) (some g) := ⟨⟨(h.own.store 2 _).1⟩, (h.own.store 2 _).2⟩
theorem BoxW.set3 (h : BoxW w g vb rest n) (r : Nat) : BoxW (w.setCell ⟨g, 3, none⟩ (.int .i64 r)) g vb rest r ∧ w.grownBy (w.setCell ⟨g, 3, none⟩ (.int .i64 r)) (some g) := ⟨⟨(h.own.store 3 _).1⟩, (h.own.store 3 _).2⟩
end
/-- a writer of bits, from block B on, that holds the L bits of N -/
structure WrtP (w : World) (B g N L : Nat) : Prop where
  ex : ∃ vb, BoxW w g vb (N / 256 ^ (L / 8)) (L % 8) ∧ Own w B 5 vb (bytesN N (L / 8)) ∧ vb.ownBlock ≠ some g
  ge : B ≤ g
  lt : N < 2 ^ L
/-- .. with its row of bytes by name -/
structure WrtV (w : World) (B g N L : Nat) (vb : Value) : Prop where
  box : BoxW w g vb (N / 256 ^ (L / 8)) (L % 8)
  own : Own w B 5 vb (bytesN N (L / 8))
  ne : vb.ownBlock ≠ some g
  ge : B ≤ g
  lt : N < 2 ^ L
theorem WrtV.p {w : World} {B g N L : Nat} {vb : Value} (h : WrtV w B g N L vb) : WrtP w B g N L := ⟨⟨vb, h.box, h.own, h.ne⟩, h.ge, h.lt⟩
theorem WrtP.v {w : World} {B g N L : Nat} (h : WrtP w B g N L) : ∃ vb, WrtV w B g N L vb := by
  obtain ⟨⟨vb, h1, h2, h3⟩, h4, h5⟩ := h
  exact ⟨vb, h1, h2, h3, h4, h5⟩
/-- what a writer in block g with the row vb leaves alone, and what its row is then -/
def Fr (g : Nat) (vb vb' : Value) (w w' : World) : Prop := (∀ k, k < w.heap.size → k ≠ g → vb.ownBlock ≠ some k → w'.heap[k]? = w.heap[k]?) ∧ (∀ k, vb'.ownBlock = some k → vb.ownBlock = some k ∨ w.heap.size ≤ k) ∧ w.heap.size ≤ w'.heap.size
theorem Fr.refl (g : Nat) (vb : Value) (w : World) : Fr g vb vb w w := ⟨fun _ _ _ _ => rfl, fun _ h => .inl h, Nat.le_refl _⟩
theorem Fr.step {g : Nat} {vb vb' : Value} {w w1 w2 : World} {row : Option Nat} (h : Fr g vb vb' w w1) (hg : w1.grownBy w2 row) (hr : ∀ k, row = some k → k = g ∨ vb'.ownBlock = some k) : Fr g vb vb' w w2 := by
  refine ⟨fun k hk h1 h2 => ?_, h.2.1, Nat.le_trans h.2.2 hg.size⟩
  rw [hg.block k (Nat.lt_of_lt_of_le hk h.2.2) ?_, h.1 k hk h1 h2]
  intro e
  rcases hr k e.symm with q | q
  · exact h1 q
  · rcases h.2.1 k q with z | z
    · exact h2 z
    · omega
theorem Fr.below {g : Nat} {vb vb' : Value} {w w1 w2 : World} (h : Fr g vb vb' w w1) (hb : Below w1.heap.size w1 w2) : Fr g vb vb' w w2 := h.step (row := none) (grown_below hb none) (fun k e => by cases e)
theorem Fr.val {g : Nat} {vb vb' vc : Value} {w w1 : World} {n : Nat} (h : Fr g vb vb' w w1) (hk : ∀ k, vc.ownBlock = some k → vb'.ownBlock = some k ∨ n ≤ k) (hn : w.heap.size ≤ n) : Fr g vb vc w w1 := by
  refine ⟨h.1, fun k hk' => ?_, h.2.2⟩
  rcases hk k hk' with q | q
  · exact h.2.1 k q
  · exact .inr (by omega)
theorem Fr.trans {g : Nat} {vb vb' vc : Value} {w w1 w2 : World} (h : Fr g vb vb' w w1) (k : Fr g vb' vc w1 w2) : Fr g vb vc w w2 := by
  refine ⟨fun q hq h1 h2 => ?_, fun q hq => ?_, Nat.le_trans h.2.2 k.2.2⟩
  · rw [k.1 q (Nat.lt_of_lt_of_le hq h.2.2) h1 ?_, h.1 q hq h1 h2]
    intro e
    rcases h.2.1 q e with z | z
    · exact h2 z
    · omega
  · rcases k.2.1 q hq with z | z
    · exact h.2.1 q z
    · exact .inr (Nat.le_trans h.2.2 z)
end Go.Cm
