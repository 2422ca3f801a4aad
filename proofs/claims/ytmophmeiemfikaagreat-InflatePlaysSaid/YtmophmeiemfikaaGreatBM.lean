/- Texts of this claim, joined: walks of small functions and plain facts about them. Conditions: as each says. -/
import Derived.Test.YtmophmeiemfikaaGreatBL
import Derived.Test.YtmophmeiemfikaaGreatRows
import Derived.WalkKit
import Derived.WalkSpells
import Derived.WalkLawsBesides
import Derived.Deep.QuietTactic
import Derived.BigQuiet
import Derived.Lib.Hide
import Derived.Laws.Small
import Derived.Deep.LoopGhost
import Derived.Laws.BitsLemmas
import Derived.Deep.DeepCutAuto
import Derived.Deep.CutBlock
import Derived.Deep.CutRange
import Derived.Laws.IdiomStrings
import Derived.Laws.CopyOwn
/- The last bytes of a text, and copies from them; a machine's run to its end, in plain Lean. Conditions: as each says. -/
namespace Go.Cm

def lastK (K : Nat) (l : Byts) : Byts := l.drop (l.length - K)
theorem lastK_len (K : Nat) (l : Byts) : (lastK K l).length = min l.length K := by unfold lastK; rw [List.length_drop]; omega
theorem lastK_all {K : Nat} {l : Byts} (h : l.length ≤ K) : lastK K l = l := by unfold lastK; rw [show l.length - K = 0 by omega, List.drop_zero]
theorem lastK_drop {K : Nat} {l : Byts} {k : Nat} (h : k + K ≤ l.length) : lastK K (l.drop k) = lastK K l := by
  unfold lastK
  rw [List.drop_drop, List.length_drop, show k + (l.length - k - K) = l.length - K by omega]
theorem lastK_app (K : Nat) (x c : Byts) : lastK K (x ++ c) = lastK K (lastK K x ++ c) := by
  by_cases h : x.length ≤ K
  · rw [lastK_all h]
  · have e : lastK K x ++ c = (x ++ c).drop (x.length - K) := by
      unfold lastK
      rw [List.drop_append, show x.length - K - x.length = 0 by omega, List.drop_zero]
    rw [e, lastK_drop (by rw [List.length_append]; omega)]
theorem lastK_at {K : Nat} {l : Byts} {d : Nat} (_h1 : 1 ≤ d) (h2 : d ≤ l.length) (h3 : d ≤ K) : l.getD (l.length - d) 0 = (lastK K l).getD ((lastK K l).length - d) 0 := by
  rw [lastK_len]
  unfold lastK
  simp only [List.getD, List.getElem?_drop]
  rw [show l.length - K + (min l.length K - d) = l.length - d by omega]
def lastN (l : Byts) : Byts := lastK 32768 l
theorem lastN_len (l : Byts) : (lastN l).length = min l.length 32768 := lastK_len _ l
theorem lastN_all {l : Byts} (h : l.length ≤ 32768) : lastN l = l := lastK_all h
theorem lastN_idem (l : Byts) : lastN (lastN l) = lastN l := lastN_all (by rw [lastN_len]; omega)
theorem lastN_drop {l : Byts} {k : Nat} (h : k + 32768 ≤ l.length) : lastN (l.drop k) = lastN l := lastK_drop h
theorem lastN_app (x c : Byts) : lastN (x ++ c) = lastN (lastN x ++ c) := lastK_app _ x c
theorem lastN_app2 {b H : Byts} (h : lastN b = lastN H) (c : Byts) : lastN (b ++ c) = lastN (H ++ c) := by rw [lastN_app b, h, ← lastN_app]
theorem lastN_min {b H : Byts} (h : lastN b = lastN H) : min b.length 32768 = min H.length 32768 := by rw [← lastN_len, ← lastN_len, h]
theorem lastN_at {l : Byts} {d : Nat} (h1 : 1 ≤ d) (h2 : d ≤ l.length) (h3 : d ≤ 32768) : l.getD (l.length - d) 0 = (lastN l).getD ((lastN l).length - d) 0 := lastK_at h1 h2 h3
/-- copies depend on the last bytes alone -/
theorem copy_same {b H : Byts} {d : Nat} (h : lastN b = lastN H) (h1 : 1 ≤ d) (h2 : d ≤ H.length) (h3 : d ≤ 32768) : ∀ k, ∃ c, copyN b d k = b ++ c ∧ copyN H d k = H ++ c ∧ c.length = k
  | 0 => ⟨[], by simp [copyN], by simp [copyN], rfl⟩
  | k + 1 => by
    obtain ⟨c, e1, e2, e3⟩ := copy_same h h1 h2 h3 k
    have hm := lastN_min h
    have hc := lastN_app2 h c
    have q1 : (b ++ c).getD ((b ++ c).length - d) 0 = (H ++ c).getD ((H ++ c).length - d) 0 := by
      have a1 := lastN_at (l := b ++ c) h1 (by rw [List.length_append]; omega) h3
      have a2 := lastN_at (l := H ++ c) h1 (by rw [List.length_append]; omega) h3
      rw [a1, a2, hc]
    refine ⟨c ++ [(b ++ c).getD ((b ++ c).length - d) 0], ?_, ?_, by simp [e3]⟩
    · rw [copyN, e1, List.append_assoc]
    · rw [copyN, e2, q1, List.append_assoc]
theorem copyN_add (b : Byts) (d m : Nat) : ∀ k, copyN b d (m + k) = copyN (copyN b d m) d k
  | 0 => rfl
  | k + 1 => by rw [← Nat.add_assoc, copyN, copyN, copyN_add b d m k]
/-- a piece of a copy -/
theorem copy_piece {x : Byts} {d : Nat} (hd : d ≤ x.length) : ∀ m, m ≤ d → copyN x d m = x ++ (x.drop (x.length - d)).take m
  | 0, _ => by simp [copyN]
  | m + 1, hm => by
    have ih := copy_piece hd m (by omega)
    rw [copyN, ih]
    have hl : ((x.drop (x.length - d)).take m).length = m := by rw [List.length_take, List.length_drop]; omega
    have e : (x ++ (x.drop (x.length - d)).take m).getD ((x ++ (x.drop (x.length - d)).take m).length - d) 0 = x.getD (x.length - d + m) 0 := by
      rw [List.length_append, hl]
      simp only [List.getD]
      rw [List.getElem?_append_left (by omega)]
      congr 2; omega
    rw [e, List.append_assoc]
    refine congrArg (x ++ ·) ?_
    have hlt : m < (x.drop (x.length - d)).length := by rw [List.length_drop]; omega
    rw [List.take_succ_eq_append_getElem hlt, List.getElem_drop]
    simp only [List.getD]
    rw [List.getElem?_eq_getElem (by omega), Option.getD_some]
/-! a run to its end -/
theorem stI_err {N T pre : Nat} {bs : Byts} {z : IS} (h : (stI N T pre bs z).1 ≠ 0) : (stI N T pre bs z).2 = z := by
  unfold stI at h ⊢
  by_cases h0 : z.md = 0
  · rw [if_pos h0] at h ⊢
    unfold headI at h ⊢
    split
    · rfl
    · rename_i hc; rw [if_neg hc] at h; exact absurd rfl h
  rw [if_neg h0] at h ⊢
  by_cases h1 : z.md = 1
  · rw [if_pos h1] at h ⊢
    unfold storI at h ⊢
    split
    · rename_i hc; rw [if_pos hc] at h; exact absurd rfl h
    · rename_i hc
      rw [if_neg hc] at h
      split
      · rfl
      · rename_i hd; rw [if_neg hd] at h; exact absurd rfl h
  rw [if_neg h1] at h ⊢
  by_cases h2 : z.md = 2
  · rw [if_pos h2] at h ⊢
    unfold codI codI2 at h ⊢
    split
    · rfl
    · rename_i hc
      rw [if_neg hc] at h
      split
      · rename_i hd; rw [if_pos hd] at h; exact absurd rfl h
      · rename_i hd
        rw [if_neg hd] at h
        split
        · rename_i he
          rw [if_pos he] at h
          unfold cpyI at h ⊢
          split
          · rfl
          · rename_i hf
            rw [if_neg hf] at h
            unfold cpyI2 at h ⊢
            split
            · rfl
            · rename_i hg
              rw [if_neg hg] at h
              unfold cpyI3 at h ⊢
              split
              · rfl
              · rename_i hh
                rw [if_neg hh] at h
                split
                · rfl
                · rename_i hj; rw [if_neg hj] at h; exact absurd rfl h
        · rename_i he; rw [if_neg he] at h; exact absurd rfl h
  · rw [if_neg h2]
section
variable {N T pre : Nat} {bs : Byts} {z0 : IS}
/-- it goes no further -/
abbrev StopI (y : Nat × IS) : Prop := y.1 ≠ 0 ∨ y.2.md = 3
theorem play_next {k : Nat} (h : ¬ StopI (playI N T pre bs z0 k)) : playI N T pre bs z0 (k + 1) = bigI pre (stI N T pre bs (playI N T pre bs z0 k).2) := if_neg h
theorem play_stop {k : Nat} (h : StopI (playI N T pre bs z0 k)) : ∀ m, playI N T pre bs z0 (k + m) = playI N T pre bs z0 k
  | 0 => rfl
  | m + 1 => by
    show (if StopI (playI N T pre bs z0 (k + m)) then playI N T pre bs z0 (k + m) else _) = _
    rw [play_stop h m, if_pos h]
set_option maxHeartbeats 1000000 in
theorem play_keep (h8 : 8 ∣ T) (hi : IOk T pre z0) : ∀ k, (pre ≤ (playI N T pre bs z0 k).2.h.length ∧ (playI N T pre bs z0 k).2.h.length - pre ≤ 16777216) ∧ ((playI N T pre bs z0 k).1 = 0 → IOk T pre (playI N T pre bs z0 k).2 ∧ (StopI (playI N T pre bs z0 k) ∨ muI T (playI N T pre bs z0 k).2 + k ≤ muI T z0)) ∧ ∃ c, (playI N T pre bs z0 (k + 1)).2.h = (playI N T pre bs z0 k).2.h ++ c := by
  have step : ∀ k, ((pre ≤ (playI N T pre bs z0 k).2.h.length ∧ (playI N T pre bs z0 k).2.h.length - pre ≤ 16777216) ∧ ((playI N T pre bs z0 k).1 = 0 → IOk T pre (playI N T pre bs z0 k).2 ∧ (StopI (playI N T pre bs z0 k) ∨ muI T (playI N T pre bs z0 k).2 + k ≤ muI T z0))) →
      ((pre ≤ (playI N T pre bs z0 (k + 1)).2.h.length ∧ (playI N T pre bs z0 (k + 1)).2.h.length - pre ≤ 16777216) ∧ ((playI N T pre bs z0 (k + 1)).1 = 0 → IOk T pre (playI N T pre bs z0 (k + 1)).2 ∧ (StopI (playI N T pre bs z0 (k + 1)) ∨ muI T (playI N T pre bs z0 (k + 1)).2 + (k + 1) ≤ muI T z0))) ∧ ∃ c, (playI N T pre bs z0 (k + 1)).2.h = (playI N T pre bs z0 k).2.h ++ c := by
    intro k ⟨⟨a1, a2⟩, a3⟩
    by_cases hs : StopI (playI N T pre bs z0 k)
    · have e := play_stop hs 1
      rw [e]
      exact ⟨⟨⟨a1, a2⟩, fun h => ⟨(a3 h).1, .inl hs⟩⟩, [], by simp⟩
    · rw [play_next hs]
      generalize playI N T pre bs z0 k = y at *
      obtain ⟨er, z⟩ := y
      simp only at hs a1 a2 a3 ⊢
      obtain rfl : er = 0 := by omega
      obtain ⟨iok, hmu⟩ := a3 rfl
      have hm3 : z.md ≠ 3 := fun e => hs (.inr e)
      have hmu2 : muI T z + k ≤ muI T z0 := by
        rcases hmu with h | h
        · exact absurd h hs
        · exact h
      by_cases he : (stI N T pre bs z).1 = 0
      · obtain ⟨b1, b2, b3, b4, b5, b6, b7, c, b8, b9⟩ := stI_ok (bs := bs) (pre := pre) h8 iok hm3 he
        unfold bigI
        generalize hM : (16777216 : Nat) = M at *
        rw [if_neg (by rw [he]; exact fun h => h rfl)]
        have hl : (stI N T pre bs z).2.h.length = z.h.length + c.length := by rw [b8, List.length_append]
        by_cases hb : M < (stI N T pre bs z).2.h.length - pre
        · rw [if_pos hb]
          refine ⟨⟨⟨by show pre ≤ (List.take _ _).length; rw [List.length_take]; omega, by show (List.take _ _).length - pre ≤ _; rw [List.length_take]; omega⟩, fun h => by cases h⟩, c.take (pre + M - z.h.length), ?_⟩
          show (stI N T pre bs z).2.h.take (pre + M) = _
          rw [b8, List.take_append, List.take_of_length_le (by omega)]
        · rw [if_neg hb]
          refine ⟨⟨⟨by omega, by omega⟩, fun _ => ⟨⟨b1, b2, b3, b4, b5, b6, by omega, by omega⟩, .inr (by omega)⟩⟩, c, b8⟩
      · have e := stI_err he
        unfold bigI
        rw [if_pos he, e]
        exact ⟨⟨⟨a1, a2⟩, fun h => absurd h he⟩, [], by simp⟩
  have all : ∀ k, ((pre ≤ (playI N T pre bs z0 k).2.h.length ∧ (playI N T pre bs z0 k).2.h.length - pre ≤ 16777216) ∧ ((playI N T pre bs z0 k).1 = 0 → IOk T pre (playI N T pre bs z0 k).2 ∧ (StopI (playI N T pre bs z0 k) ∨ muI T (playI N T pre bs z0 k).2 + k ≤ muI T z0))) := by
    intro k
    induction k with
    | zero => exact ⟨⟨hi.hpre, hi.big⟩, fun _ => ⟨hi, .inr (Nat.le_refl _)⟩⟩
    | succ k ih => exact (step k ih).1
  exact fun k => ⟨(all k).1, (all k).2, (step k (all k)).2⟩
/-- where it ends -/
noncomputable def finI (N T pre : Nat) (bs : Byts) (z0 : IS) : Nat × IS := playI N T pre bs z0 (2 * T + 2)
theorem fin_stop (h8 : 8 ∣ T) (hi : IOk T pre z0) : StopI (finI N T pre bs z0) := by
  apply Classical.byContradiction
  intro hn
  obtain ⟨-, h, -⟩ := play_keep (N := N) (bs := bs) h8 hi (2 * T + 2)
  have he : (playI N T pre bs z0 (2 * T + 2)).1 = 0 := by
    apply Classical.byContradiction
    intro h0; exact hn (.inl h0)
  rcases (h he).2 with h1 | h1
  · exact hn h1
  · have : muI T z0 ≤ 2 * T + 1 := by unfold muI; split <;> omega
    omega
theorem fin_of (h8 : 8 ∣ T) (hi : IOk T pre z0) {k : Nat} (h : StopI (playI N T pre bs z0 k)) : finI N T pre bs z0 = playI N T pre bs z0 k := by
  have hf := fin_stop (N := N) (bs := bs) h8 hi
  unfold finI at hf ⊢
  rcases Nat.le_total k (2 * T + 2) with hle | hle
  · obtain ⟨m, hm⟩ := Nat.exists_eq_add_of_le hle
    rw [hm, play_stop h m]
  · obtain ⟨m, hm⟩ := Nat.exists_eq_add_of_le hle
    rw [hm, play_stop hf m]
theorem play_app (h8 : 8 ∣ T) (hi : IOk T pre z0) (k : Nat) : ∀ m, ∃ c, (playI N T pre bs z0 (k + m)).2.h = (playI N T pre bs z0 k).2.h ++ c
  | 0 => ⟨[], by simp⟩
  | m + 1 => by
    obtain ⟨c, h1⟩ := play_app h8 hi k m
    obtain ⟨-, -, d, h2⟩ := play_keep (N := N) (bs := bs) h8 hi (k + m)
    exact ⟨c ++ d, by rw [← Nat.add_assoc, h2, h1, List.append_assoc]⟩
theorem fin_app (h8 : 8 ∣ T) (hi : IOk T pre z0) (k : Nat) : ∃ c, (finI N T pre bs z0).2.h = (playI N T pre bs z0 k).2.h ++ c := by
  have hf := fin_stop (N := N) (bs := bs) h8 hi
  obtain ⟨c, h1⟩ := play_app (N := N) (bs := bs) h8 hi k (2 * T + 2)
  refine ⟨c, ?_⟩
  rw [← h1, Nat.add_comm]
  unfold finI at hf ⊢
  rw [play_stop hf k]
end
end Go.Cm

/- The walks of what finds the best copy, and of the ops of a text. Conditions: the places lie in the text. -/
namespace Go.Cm
open Go.RowKit Go.Proofs

def opV (o : OpN) : List Value := [.int .u8 o.lit, .int .i64 o.len, .int .i64 o.dist]
end Go.Cm

/- 'append(s, x...)', which leaves what stood there as it was; a world in which a row has grown behind its first cells. Conditions: none. -/
namespace Go.Cm
open Go.RowKit Go.Proofs

/-- a world in which the row in block b may have changed, but for its first n cells -/
noncomputable def kept (w : World) (b n : Nat) (x : World) : World := @ite _ (w.grownBy x (some b) ∧ ∀ o, o < n → x.cell? ⟨b, o, none⟩ = w.cell? ⟨b, o, none⟩) (Classical.propDecidable _) x w
theorem kept_grown (w : World) (b n : Nat) (x : World) : w.grownBy (kept w b n x) (some b) := by
  unfold kept; split
  · rename_i h; exact h.1
  · exact grown_refl w _
@[go_sem] theorem cell?_kept_other (w : World) (b n : Nat) (x : World) (k o : Nat) (h : k < w.heap.size) (hr : k ≠ b) : (kept w b n x).cell? ⟨k, o, none⟩ = w.cell? ⟨k, o, none⟩ := World.cell?_of_block ((kept_grown w b n x).block k h (fun e => hr (Option.some.inj e)))
@[go_sem] theorem frozen?_kept_other (w : World) (b n : Nat) (x : World) (k o : Nat) (h : k < w.heap.size) (hr : k ≠ b) : (kept w b n x).frozen? ⟨k, o, none⟩ = w.frozen? ⟨k, o, none⟩ := World.frozen?_of_block ((kept_grown w b n x).block k h (fun e => hr (Option.some.inj e)))
@[go_sem] theorem cell?_kept_same (w : World) (b n : Nat) (x : World) (o : Nat) (h : o < n) : (kept w b n x).cell? ⟨b, o, none⟩ = w.cell? ⟨b, o, none⟩ := by
  unfold kept; split
  · rename_i hh; exact hh.2 o h
  · rfl
end Go.Cm

/- The walk of the program's text: an op. Conditions: the text is there. -/
namespace Go.Cm
open Go.RowKit Go.Proofs

theorem byte_u8 (l : Nat) (h : l < 256) : bytesV [UInt8.ofNat l] = [.int .u8 (l : Nat)] := by
  simp only [bytesV, List.map_cons, List.map_nil]
  congr 2
  have : (UInt8.ofNat l).toNat = l := by simp [Nat.mod_eq_of_lt h]
  rw [this]
end Go.Cm

/- 'append(s, text...)': a text behind bytes of one's own. Conditions: none. -/
namespace Go.Cm
open Go.RowKit Go.Proofs

theorem run_firstCells_str {P : Program} (w : World) (k : Nat) (s : ByteArray) : (Builtin.firstCells k s.size (.string s)).run P w = .ok (bytesV s.data.toList).toArray w := by
  unfold Builtin.firstCells
  rw [Sem.run_pure]
  have h : (s.extract 0 s.size) = s := by simp
  rw [h]
  congr 1
  apply Array.ext'
  simp [bytesV]
theorem run_app_str {P : Program} (w : World) (B : Nat) (t u ty E : TypeId) (z : Value) (bytes : Nat) (ht : P.underlying t = some (.slice E)) (hu : P.underlying u = some .string) (hinf : (P.info? E).map (fun i => (i.zero, i.size, i.bytes)) = some (some z, 1, bytes)) (hz : z.cells.size = 1) (hby : bytes ≤ 24)
    (v : Value) (xs : List Value) (hown : Own w B E v xs) (s : ByteArray) (hlen : xs.length + s.size ≤ 4294967296) (hB : B ≤ w.heap.size) :
    ∃ v' w', (Builtin.append_ #[t, u] ty #[v, .string s]).run P w = .ok v' w' ∧ Own w' B E v' (xs ++ bytesV s.data.toList) ∧ w.grownBy w' v.ownBlock ∧ (∀ k, v'.ownBlock = some k → v.ownBlock = some k ∨ w.heap.size ≤ k) := by
  obtain ⟨i, hi, hz0, hz1, hz2⟩ : ∃ i0, P.info? E = some i0 ∧ i0.zero = some z ∧ i0.size = 1 ∧ i0.bytes = bytes := by
    cases hq : P.info? E with
    | none => simp [hq] at hinf
    | some i0 => simp [hq] at hinf; exact ⟨i0, rfl, hinf.1, hinf.2.1, hinf.2.2⟩
  have hnl : (bytesV s.data.toList).length = s.size := by rw [bytesV_length]; simp
  have h1 := bytesV_one s.data.toList
  have hl1 : xs.length + s.size ≤ maxLen := by simp only [maxLen]; omega
  have hl2 : (xs.length + s.size) * bytes ≤ 140737488355328 := by
    have := Nat.mul_le_mul hlen hby; omega
  have hf := fun w' => run_firstCells_str (P := P) w' 1 s
  generalize bytesV s.data.toList = news at *
  rcases hown with ⟨hrow, hsm⟩
  have hxl := hrow.1
  rw [Nat.mul_one] at hxl
  have grown : ∀ (old : Nat), old < xs.length + s.size → ∀ (row : Option Nat),
      (w.drew.alloc (.cells (xs.toArray ++ news.toArray ++ Builtin.zeroCells z.cells (grownCap w (xs.length + s.size) old E - (xs.length + s.size))) E)).ownsRow B E 1
        (.slice (some ⟨w.heap.size, 0, none⟩) (xs.length + s.size) (grownCap w (xs.length + s.size) old E)) (xs.length + s.size) (xs ++ news) ∧
      w.grownBy (w.drew.alloc (.cells (xs.toArray ++ news.toArray ++ Builtin.zeroCells z.cells (grownCap w (xs.length + s.size) old E - (xs.length + s.size))) E)) row := by
    intro old ho row
    have hge := grownCap_ge w (xs.length + s.size) old E
    have hcm : grownCap w (xs.length + s.size) old E ≤ maxLen := grownCap_le_maxLen w (xs.length + s.size) old E hl1
    refine ⟨⟨by simp [hnl], .inr ⟨w.heap.size, _, _, rfl, hB, heap_alloc_new w.drew _, hge, hcm, ?_, ?_⟩⟩, ⟨rfl, rfl, rfl, by simp, fun k hk _ => Below.heap_alloc w.drew _ k hk⟩⟩
    · simp only [Array.size_append, List.size_toArray, size_zeroCells, hz, hnl]
      omega
    · simp only [Array.toList_append, List.append_assoc]
      rw [← List.append_assoc, Nat.mul_one, ← hnl, ← List.length_append]
      exact List.take_left
  have hlen' : (xs ++ news).length ≤ 140737488351232 := by rw [List.length_append, hnl]; omega
  rcases hrow.2 with ⟨rfl, hx0⟩ | ⟨g, cap, cur, rfl, hbg, hg, hnc, hcm, hcs, htake⟩
  · obtain rfl : xs = [] := List.length_eq_zero_iff.1 hx0
    by_cases hs : s.size = 0
    · have hn : news = [] := List.length_eq_zero_iff.1 (by rw [hnl, hs])
      subst hn
      refine ⟨.slice none 0 0, w, ?_, Own.nil _ _ _, ⟨rfl, rfl, rfl, Nat.le_refl _, fun _ _ _ => rfl⟩, fun k hk => by simp [Value.ownBlock] at hk⟩
      have hf0 := hf w
      rw [hs] at hf0
      simp [Builtin.append_, run_underlying ht, run_underlying hu, sizeOf, typeInfo, hi, hz1, Builtin.lenOf, hs, hf0]
    · obtain ⟨g1, g2⟩ := grown 0 (by simp; omega) (Value.ownBlock (.slice none 0 0))
      simp only [List.length_nil, Nat.zero_add, List.nil_append] at g1 g2 hlen'
      refine ⟨_, _, ?_, ⟨by simpa [hnl] using g1, by simpa using hlen'⟩, g2, fun k hk => .inr (by simp [Value.ownBlock] at hk; omega)⟩
      have h63' : ¬ (9223372036854775807 < (s.size : Int)) := by simp at hlen; omega
      have h48' : ¬ (281474976710656 < Builtin.nextslicecap s.size 0 * i.bytes) := by rw [nextslicecap_zero (by omega), hz2]; simp at hl2; omega
      have hf0 := hf w.drew
      simp [Builtin.append_, run_underlying ht, run_underlying hu, sizeOf, typeInfo, zeroValue, hi, hz0, hz1, Builtin.lenOf, hs, h63', h48', Question.forced, run_firstCells_none, hf0, newRow, grownCap]
  · by_cases hroom : xs.length + s.size ≤ cap
    · have hfit : xs.length * 1 + news.length ≤ cur.size := by rw [hnl, hcs]; omega
      have hst := run_storeCells_at P g (xs.length * 1) E news 0 cur w hg (by simpa using hfit) h1
      simp only [Nat.add_zero, Nat.mul_one] at hst
      generalize hR : (cur.toList.take xs.length ++ news ++ cur.toList.drop (xs.length + news.length)).toArray = R at hst
      refine ⟨.slice (some ⟨g, 0, none⟩) (xs.length + s.size) cap, w.setRow g R, ?_, ⟨⟨by simp [hnl], .inr ⟨g, cap, R, ?_, hbg, setRow_heap w g cur R E _ hg, ?_, hcm, ?_, ?_⟩⟩, hlen'⟩, ⟨rfl, rfl, rfl, by simp, fun k _ hk => setRow_other w g k _ (fun e => hk (by simp [Value.ownBlock, e]))⟩, fun k hk => .inl hk⟩
      · have hf0 := hf w
        simp [Builtin.append_, run_underlying ht, run_underlying hu, sizeOf, typeInfo, hi, hz1, Builtin.lenOf, hroom, hf0, Addr.add_lit, hst]
      · rw [List.length_append, hnl]
      · rw [List.length_append, hnl]; exact hroom
      · rw [← hR]
        simp only [List.size_toArray, List.length_append, List.length_take, List.length_drop, Array.length_toList]
        omega
      · rw [Nat.mul_one] at htake
        rw [Nat.mul_one, ← hR, htake]
        exact List.take_left
    · have holds : ∀ j u, xs[j]? = some u → w.cell? ((⟨g, 0, none⟩ : Addr).add j) = some u := World.ownsRow.cells (g := g) hrow rfl
      obtain ⟨g1, g2⟩ := grown cap (by omega) (Value.ownBlock (.slice (some ⟨g, 0, none⟩) xs.length cap))
      refine ⟨_, _, ?_, ⟨by rw [List.length_append, hnl]; exact g1, hlen'⟩, g2, fun k hk => .inr (by simp [Value.ownBlock] at hk; omega)⟩
      have hn : ¬ (xs.length + s.size ≤ cap) := hroom
      have h63' : ¬ (9223372036854775807 < ((xs.length : Int) + (s.size : Int))) := by omega
      have h48' : ¬ (281474976710656 < Builtin.nextslicecap (xs.length + s.size) cap * i.bytes) := by
        have := growslice_fits (need := xs.length + s.size) (old := cap) (bytes := bytes) (by omega) hl2
        rw [hz2]; omega
      have hf0 := hf w.drew
      have hfo := run_firstCells_some (P := P) w.drew 1 xs.length ⟨g, 0, none⟩ xs.length cap xs (by omega) (by simpa using holds)
      simp [Builtin.append_, run_underlying ht, run_underlying hu, sizeOf, typeInfo, zeroValue, hi, hz0, hz1, Builtin.lenOf, hn, h63', h48', Question.forced, hf0, hfo, newRow, grownCap]
      congr 2
      apply Array.ext'
      simp [List.append_assoc]
theorem wpList_app_str {P : Program} {ops : Array Oper} {rest : List Oper} {o : Oper} {a : Act} {w : World} {Q : Exit → Act → World → Prop} (hgd : o.guard = none) (s x : Operand) (t u : TypeId)
    (ho : o.op = .call { callee := .builtin .append, args := #[s, x], argTypes := #[t, u] })
    (B E : TypeId) (z : Value) (bytes : Nat) (ht : P.underlying t = some (.slice E)) (hu : P.underlying u = some .string) (hinf : (P.info? E).map (fun i => (i.zero, i.size, i.bytes)) = some (some z, 1, bytes)) (hz : z.cells.size = 1) (hby : bytes ≤ 24)
    (v : Value) (xs : List Value) (hs : a.eval s = v) (hown : Own w B E v xs) (tx : ByteArray) (hxe : a.eval x = .string tx) (hlen : xs.length + tx.size ≤ 4294967296) (hB : B ≤ w.heap.size)
    (h : ∀ v' w', Own w' B E v' (xs ++ bytesV tx.data.toList) → w.grownBy w' v.ownBlock → (∀ k, v'.ownBlock = some k → v.ownBlock = some k ∨ w.heap.size ≤ k) → wpList P ops Q rest (a.put o.dst v') w') : wpList P ops Q (o :: rest) a w := by
  obtain ⟨v', w', hr, h2, h3, h4⟩ := run_app_str (P := P) w B t u o.type E z bytes ht hu hinf hz hby v xs hown tx hlen hB
  refine wpList_plain hgd fun K hK => ?_
  unfold Oper.wp execOp
  simp only [ho, resolve, invoke, builtin, Sem.run_bind, Sem.run_pure, Result.andThen_ok, List.map_toArray, List.map_cons, List.map_nil, hs, hxe, hr]
  exact hK _ _ (h v' w' h2 h3 h4)
end Go.Cm

/- The walk of the program's text: a part. Conditions: the text is there, the ops read as a list. -/
namespace Go.Cm
open Go.RowKit Go.Proofs

theorem ops_open {w : World} {v : Value} {l : List OpN} (h : SlK 3 w v (l.map opV)) :
    ∃ oa cap b off, v = .slice oa l.length cap ∧ Hd w oa l.length cap b off ∧ ∀ i (hi : i < l.length), ∀ c, c < 3 → w.cell? ⟨b, off + i * 3 + c, none⟩ = some ((opV (l[i]'hi)).getD c undef) := by
  obtain ⟨oa, cap, b, off, rfl, hd, hc⟩ := h
  rw [List.length_map] at hd hc ⊢
  refine ⟨oa, cap, b, off, rfl, hd, fun i hi c hcl => ?_⟩
  have := hc i hi c hcl
  rw [this]
  simp [List.getD, hi]
end Go.Cm

/- The walk of the program's Text. Conditions: the parts read as a list. -/
namespace Go.Cm
open Go.RowKit Go.Proofs

def zPt : PtN := ⟨0, ⟨#[]⟩, [], [], []⟩
/-- a part's five cells -/
def PtCells (w : World) (c : List Value) (p : PtN) : Prop := ∃ vo vl vd, c = [.int .i64 p.kind, .string p.text, vo, vl, vd] ∧ SlK 3 w vo (p.ops.map opV) ∧ IntsAt w vl p.lits ∧ IntsAt w vd p.dists
/-- a list of parts -/
def PartsAt (w : World) (v : Value) (l : List PtN) : Prop := ∃ cs, SlK 5 w v cs ∧ cs.length = l.length ∧ ∀ i, i < l.length → PtCells w (cs.getD i []) (l.getD i zPt)
theorem PtCells.up {w w' : World} {c : List Value} {p : PtN} (h : PtCells w c p) (hb : Below w.heap.size w w') : PtCells w' c p := by
  obtain ⟨vo, vl, vd, hc, h1, h2, h3⟩ := h
  exact ⟨vo, vl, vd, hc, h1.up hb, h2.up hb, h3.up hb⟩
theorem PartsAt.up {w w' : World} {v : Value} {l : List PtN} (h : PartsAt w v l) (hb : Below w.heap.size w w') : PartsAt w' v l := by
  obtain ⟨cs, h1, h2, h3⟩ := h
  exact ⟨cs, h1.up hb, h2, fun i hi => (h3 i hi).up hb⟩
theorem PartsAt.open {w : World} {v : Value} {l : List PtN} (h : PartsAt w v l) :
    ∃ oa cap b off, v = .slice oa l.length cap ∧ Hd w oa l.length cap b off ∧ ∀ i, i < l.length →
      ∃ oo oc o1 c1 o2 c2, (∀ c, c < 5 → w.cell? ⟨b, off + i * 5 + c, none⟩ = some ((#[.int .i64 (l.getD i zPt).kind, .string (l.getD i zPt).text, .slice oo (l.getD i zPt).ops.length oc, .slice o1 (l.getD i zPt).lits.length c1, .slice o2 (l.getD i zPt).dists.length c2] : Array Value).getD c undef)) ∧
        SlK 3 w (.slice oo (l.getD i zPt).ops.length oc) ((l.getD i zPt).ops.map opV) ∧ IntsAt w (.slice o1 (l.getD i zPt).lits.length c1) (l.getD i zPt).lits ∧ IntsAt w (.slice o2 (l.getD i zPt).dists.length c2) (l.getD i zPt).dists := by
  obtain ⟨cs, ⟨oa, cap, b, off, rfl, hd, hc⟩, h2, h3⟩ := h
  rw [h2] at hd hc ⊢
  refine ⟨oa, cap, b, off, rfl, hd, fun i hi => ?_⟩
  obtain ⟨vo, vl, vd, he, g1, g2, g3⟩ := h3 i hi
  obtain ⟨oo, oc, ob, of, rfl, -⟩ := ops_open g1
  obtain ⟨o1, c1, b1, f1, rfl, -⟩ := g2.open
  obtain ⟨o2, c2, b2, f2, rfl, -⟩ := g3.open
  refine ⟨oo, oc, o1, c1, o2, c2, fun c hcl => ?_, g1, g2, g3⟩
  rw [hc i hi c hcl, he]
  match c, hcl with
  | 0, _ => rfl
  | 1, _ => rfl
  | 2, _ => rfl
  | 3, _ => rfl
  | 4, _ => rfl
end Go.Cm

/- 'append(s, x)' of an element of several cells, of up to 128 bytes. Conditions: none. -/
namespace Go.Cm
open Go.RowKit Go.Proofs

/-- 'append(s, x)' of one k-cell element x that lies as a slice of one. -/
theorem run_appL {P : Program} {k : Nat} (w : World) (B : Nat) (t ty E : TypeId) (z : Value) (bytes : Nat) (ht : P.underlying t = some (.slice E)) (hinf : (P.info? E).map (fun i => (i.zero, i.size, i.bytes)) = some (some z, k, bytes)) (hz : z.cells.size = k) (hk : 0 < k) (hby : bytes ≤ 128)
    (v : Value) (xs : List (List Value)) (hown : OwnK k w B E v xs) (xv : Value) (news : List (List Value)) (hx : SlK k w xv news) (hnk : ∀ x ∈ news, x.length = k) (h1 : ∀ u ∈ news.flatten, u.oneCell' = true) (hlen : xs.length + news.length ≤ 1000000000) (hB : B ≤ w.heap.size) :
    ∃ v' w', (Builtin.append_ #[t, t] ty #[v, xv]).run P w = .ok v' w' ∧ OwnK k w' B E v' (xs ++ news) ∧ w.grownBy w' v.ownBlock ∧ (∀ q, v'.ownBlock = some q → v.ownBlock = some q ∨ w.heap.size ≤ q) := by
  obtain ⟨i0, hi, hz0, hz1, hz2⟩ : ∃ i0, P.info? E = some i0 ∧ i0.zero = some z ∧ i0.size = k ∧ i0.bytes = bytes := by
    cases hq : P.info? E with
    | none => simp [hq] at hinf
    | some i0 => simp [hq] at hinf; exact ⟨i0, rfl, hinf.1, hinf.2.1, hinf.2.2⟩
  have hl1 : xs.length + news.length ≤ maxLen := by simp only [maxLen]; omega
  have hl2 : (xs.length + news.length) * bytes ≤ 140737488355328 := by
    have := Nat.mul_le_mul hlen hby; omega
  obtain ⟨oa, cx, b, off, rfl, hd, hc⟩ := hx
  obtain ⟨hrow, hsm, hxk⟩ := hown
  have hnewsl : news.flatten.length = news.length * k := flatten_len hnk
  have hall : ∀ x ∈ xs ++ news, x.length = k := fun x hx => by
    rcases List.mem_append.1 hx with h | h
    · exact hxk x h
    · exact hnk x h
  have hlen' : (xs ++ news).length ≤ 140737488351232 := by rw [List.length_append]; omega
  by_cases hn : news = []
  · subst hn
    refine ⟨v, w, ?_, ⟨by simpa using hrow, by simpa using hsm, by simpa using hxk⟩, ⟨rfl, rfl, rfl, Nat.le_refl _, fun _ _ _ => rfl⟩, fun k hk => .inl hk⟩
    rcases hrow.2 with ⟨rfl, hx0⟩ | ⟨g, cap, cur, rfl, _, _, hnc, _⟩
    · cases oa <;> simp [Builtin.append_, run_underlying ht, sizeOf, typeInfo, hi, Builtin.lenOf, Builtin.firstCells, loadCells, loadCellsFrom]
    · cases oa <;> simp [Builtin.append_, run_underlying ht, sizeOf, typeInfo, hi, Builtin.lenOf, Builtin.firstCells, loadCells, loadCellsFrom, hnc, storeCells]
  · have hpos : 0 < news.length := List.length_pos_iff.2 hn
    obtain rfl := hd.hat hpos
    have hnews : ∀ j u, news.flatten[j]? = some u → w.cell? ((⟨b, off, none⟩ : Addr).add j) = some u := fun j u hu => by
      have hj := (List.getElem?_eq_some_iff.1 hu).1
      rw [hnewsl] at hj
      have hdm : j = j / k * k + j % k := by rw [Nat.mul_comm]; exact (Nat.div_add_mod j k).symm
      have hq : j / k < news.length := (Nat.div_lt_iff_lt_mul hk).2 hj
      have hm := Nat.mod_lt j hk
      rw [add_off, hdm, ← Nat.add_assoc, hc (j / k) hq (j % k) hm]
      rw [hdm, flatten_at hnk _ _ hq hm] at hu
      rw [List.getD_eq_getElem?_getD, hu]; rfl
    rcases hrow.2 with ⟨rfl, hx0⟩ | ⟨g, cap, cur, rfl, hbg, hg, hnc, hcm, hcs, htake⟩
    · obtain rfl : xs = [] := List.length_eq_zero_iff.1 hx0
      obtain ⟨v', w', hr, ho, hgr, -⟩ := run_append_own (P := P) w w.heap.size t ty E i0 z k bytes ht hi hz0 hz1 hz2 hz hk (.slice none 0 0) 0 [] (World.ownsRow_nil _ _ _ _) ⟨b, off, none⟩ news.length cx news.flatten hnewsl hnews h1 (by simpa using hl1) (by simpa using hl2) (Nat.le_refl _)
      have hkk := ho.lt
      refine ⟨v', w', hr, ⟨⟨by simpa using hnewsl, ?_⟩, hlen', hall⟩, hgr, fun q hq => .inr (hkk q hq).1⟩
      simp only [Nat.zero_add, List.nil_append] at ho
      rcases ho.2 with ⟨h1, h2⟩ | ⟨g, cap, cur, h1, h2, h3⟩
      · exact .inl ⟨h1, by simpa using h2⟩
      · exact .inr ⟨g, cap, cur, h1, by omega, by simpa using h3⟩
    · by_cases hroom : xs.length + news.length ≤ cap
      · obtain ⟨w', hr, ho, hgr⟩ := run_append_fits (P := P) w B t ty E i0 k ht hi hz1 g xs.length cap xs.flatten ⟨hrow.1, .inr ⟨g, cap, cur, rfl, hbg, hg, hnc, hcm, hcs, htake⟩⟩ ⟨b, off, none⟩ news.length cx news.flatten hnewsl hnews h1 hroom
        exact ⟨_, w', hr, ⟨by rw [List.length_append, List.flatten_append]; exact ho, hlen', hall⟩, hgr, fun k hk => .inl hk⟩
      · have holds : ∀ j u, xs.flatten[j]? = some u → w.cell? ((⟨g, 0, none⟩ : Addr).add j) = some u := World.ownsRow.cells (g := g) hrow rfl
        have hxl : xs.flatten.length = xs.length * k := flatten_len hxk
        have hr := run_append_grow (P := P) w t ty E i0 z ht hi hz0 ⟨g, 0, none⟩ xs.length cap xs.flatten (by rw [hz1]; exact hxl) holds ⟨b, off, none⟩ news.length cx news.flatten (by rw [hz1]; exact hnewsl) hnews (by omega) (by omega) (growslice_fits (by omega) (by rw [hz2]; exact hl2))
        have hge := grownCap_ge w (xs.length + news.length) cap E
        have hcm' : grownCap w (xs.length + news.length) cap E ≤ maxLen := grownCap_le_maxLen w _ cap E hl1
        refine ⟨_, _, hr, ⟨⟨by rw [List.length_append, List.flatten_append, List.length_append, hxl, hnewsl, Nat.add_mul], .inr ⟨w.heap.size, _, _, by rw [List.length_append], hB, heap_alloc_new w.drew _, by rw [List.length_append]; exact hge, hcm', ?_, ?_⟩⟩, hlen', hall⟩, ⟨rfl, rfl, rfl, by simp, fun k hk _ => Below.heap_alloc w.drew _ k hk⟩, fun k hk => .inr (by simp [Value.ownBlock] at hk; omega)⟩
        · simp only [Array.size_append, List.size_toArray, size_zeroCells, hz, hxl, hnewsl, ← Nat.add_mul]
          congr 1; omega
        · simp only [Array.toList_append, List.append_assoc, List.length_append, List.flatten_append]
          rw [← List.append_assoc, Nat.add_mul, ← hxl, ← hnewsl, ← List.length_append]
          exact List.take_left
theorem wpList_appL {P : Program} {ops : Array Oper} {rest : List Oper} {o : Oper} {a : Act} {w : World} {Q : Exit → Act → World → Prop} (k : Nat) (hgd : o.guard = none) (s x : Operand) (t : TypeId)
    (ho : o.op = .call { callee := .builtin .append, args := #[s, x], argTypes := #[t, t] })
    (B E : TypeId) (z : Value) (bytes : Nat) (ht : P.underlying t = some (.slice E)) (hinf : (P.info? E).map (fun i => (i.zero, i.size, i.bytes)) = some (some z, k, bytes)) (hz : z.cells.size = k) (hk : 0 < k) (hby : bytes ≤ 128)
    (v : Value) (xs : List (List Value)) (hs : a.eval s = v) (hown : OwnK k w B E v xs) (xv : Value) (news : List (List Value)) (hxe : a.eval x = xv) (hx : SlK k w xv news) (hnk : ∀ x ∈ news, x.length = k) (h1 : ∀ u ∈ news.flatten, u.oneCell' = true) (hlen : xs.length + news.length ≤ 1000000000) (hB : B ≤ w.heap.size)
    (h : ∀ v' w', OwnK k w' B E v' (xs ++ news) → w.grownBy w' v.ownBlock → (∀ q, v'.ownBlock = some q → v.ownBlock = some q ∨ w.heap.size ≤ q) → wpList P ops Q rest (a.put o.dst v') w') : wpList P ops Q (o :: rest) a w := by
  obtain ⟨v', w', hr, h2, h3, h4⟩ := run_appL (P := P) w B t o.type E z bytes ht hinf hz hk hby v xs hown xv news hx hnk h1 hlen hB
  refine wpList_plain hgd fun K hK => ?_
  unfold Oper.wp execOp
  simp only [ho, resolve, invoke, builtin, Sem.run_bind, Sem.run_pure, Result.andThen_ok, List.map_toArray, List.map_cons, List.map_nil, hs, hxe, hr]
  exact hK _ _ (h v' w' h2 h3 h4)
end Go.Cm

/- A text as parts, in plain Lean; parts of a call's own; a text as bytes. Conditions: as each says. -/
namespace Go.Cm
open Go.RowKit Go.Proofs

theorem bys_extract (s : ByteArray) (a b : Nat) : bys (s.extract a b) = ((bys s).drop a).take (b - a) := by
  have : s = ⟨(bys s).toArray⟩ := by cases s; simp [bys]
  conv => lhs; rw [this]
  rw [ByteArray.extract_mk]
  simp [bys]
theorem bys_mk (t : Byts) : bys ⟨t.toArray⟩ = t := by simp [bys]
end Go.Cm

/- The walk of the program's Split. Conditions: the text is not too long. -/
namespace Go.Cm
open Go.RowKit Go.Proofs

theorem bytesV_take (t : Byts) (n : Nat) : (bytesV t).take n = bytesV (t.take n) := by simp [bytesV, List.map_take]
theorem bytesV_drop (t : Byts) (n : Nat) : (bytesV t).drop n = bytesV (t.drop n) := by simp [bytesV, List.map_drop]
theorem wpList_min_by {P : Program} {ops : Array Oper} {rest : List Oper} {o : Oper} {a : Act} {w : World} {Q : Exit → Act → World → Prop} (hgd : o.guard = none) (x y : Operand) (t1 t2 : TypeId) (ho : o.op = .call { callee := .builtin .min, args := #[x, y], argTypes := #[t1, t2] }) (m n k : Nat) (hx : a.eval x = .int .i64 m) (hy : a.eval y = .int .i64 n) (hk : k = min m n)
    (h : wpList P ops Q rest (a.put o.dst (.int .i64 k)) w) : wpList P ops Q (o :: rest) a w := by
  have hr := run_min_int2 (P := P) (w := w) #[t1, t2] o.type .i64 .i64 (m : Int) (n : Int)
  have hkk : (if (n : Int) < (m : Int) then (n : Int) else (m : Int)) = (k : Int) := by rw [hk]; split <;> omega
  rw [hkk] at hr
  refine wpList_plain hgd fun K hK => ?_
  unfold Oper.wp execOp
  simp only [ho, resolve, invoke, builtin, Sem.run_bind, Sem.run_pure, Result.andThen_ok, List.map_toArray, List.map_cons, List.map_nil, hx, hy, hr]
  exact hK _ _ h
theorem wpList_slice_by {P : Program} {ops : Array Oper} {rest : List Oper} {o : Oper} {a : Act} {w : World} {Q : Exit → Act → World → Prop} (hgd : o.guard = none) (t : TypeId) (x : Operand) (lo hi mx : Option Operand) (ho : o.op = .slice t x lo hi mx) (v : Value) (hr : (Instr.sliceAt t (a.eval x) (lo.map a.eval) (hi.map a.eval) (mx.map a.eval)).run P w = .ok v w)
    (h : wpList P ops Q rest (a.put o.dst v) w) : wpList P ops Q (o :: rest) a w := by
  refine wpList_plain hgd fun K hK => ?_
  unfold Oper.wp execOp
  simp only [ho, Sem.run_bind, Sem.run_pure, Result.andThen_ok, hr]
  exact hK _ _ h
theorem wpList_conv_by {P : Program} {ops : Array Oper} {rest : List Oper} {o : Oper} {a : Act} {w : World} {Q : Exit → Act → World → Prop} (hgd : o.guard = none) (s d : TypeId) (x : Operand) (ho : o.op = .convert s d x) (v : Value) (hr : (convert s d (a.eval x)).run P w = .ok v w)
    (h : wpList P ops Q rest (a.put o.dst v) w) : wpList P ops Q (o :: rest) a w := by
  refine wpList_plain hgd fun K hK => ?_
  unfold Oper.wp execOp
  simp only [ho, Sem.run_bind, Sem.run_pure, Result.andThen_ok, hr]
  exact hK _ _ h
end Go.Cm

/- The walks of the window that holds a text's last bytes. Conditions: the window is there. -/
namespace Go.Cm
open Go.RowKit Go.Proofs

/-- a window in block gw that holds the bytes b, its bytes a row from block B on -/
structure WinV (w : World) (B gw : Nat) (vb : Value) (b : Byts) : Prop where
  box : Own w B 88 (.slice (some ⟨gw, 0, none⟩) 2 2) [.bool true, vb]
  own : Own w B 5 vb (bytesV b)
  ne : vb.ownBlock ≠ some gw
theorem WinV.up {w w' : World} {B gw : Nat} {vb : Value} {b : Byts} (h : WinV w B gw vb b) (hb : Below w.heap.size w w') : WinV w' B gw vb b := ⟨h.box.up hb, h.own.up hb, h.ne⟩
theorem WinV.fx {S : Nat → Prop} {w w' : World} {B gw : Nat} {vb : Value} {b : Byts} (h : WinV w B gw vb b) (hf : Fx S w w') (h1 : ¬ S gw) (h2 : ∀ k, vb.ownBlock = some k → ¬ S k) : WinV w' B gw vb b :=
  ⟨hf.own h.box (fun k hk => by injection hk with hk; subst hk; exact h1), hf.own h.own h2, h.ne⟩
/-- .. of a text whose last bytes it holds -/
def WinAt (w : World) (B gw : Nat) (vb : Value) (H : Byts) : Prop := ∃ b, WinV w B gw vb b ∧ lastN b = lastN H ∧ b.length ≤ 131072
theorem WinAt.up {w w' : World} {B gw : Nat} {vb : Value} {H : Byts} (h : WinAt w B gw vb H) (hb : Below w.heap.size w w') : WinAt w' B gw vb H := by obtain ⟨b, h1, h2⟩ := h; exact ⟨b, h1.up hb, h2⟩
theorem WinAt.fx {S : Nat → Prop} {w w' : World} {B gw : Nat} {vb : Value} {H : Byts} (h : WinAt w B gw vb H) (hf : Fx S w w') (h1 : ¬ S gw) (h2 : ∀ k, vb.ownBlock = some k → ¬ S k) : WinAt w' B gw vb H := by obtain ⟨b, h3, h4⟩ := h; exact ⟨b, h3.fx hf h1 h2, h4⟩
/-- what a window's call may change -/
abbrev WFx (gw : Nat) (vb : Value) (w w' : World) : Prop := Fx (fun k => k = gw ∨ vb.ownBlock = some k) w w'
/-- the last m elements go to the front, the others go -/
theorem Own.trim {w : World} {B E q n cap m : Nat} {xs : List Value} (h : Own w B E (.slice (some ⟨q, 0, none⟩) n cap) xs) (hm : m ≤ n) :
    ∃ cur, w.heap[q]? = some (.cells cur E (0, 0)) ∧ (∀ (j : Nat) (v : Value), (xs.drop (n - m))[j]? = some v → w.cell? ((⟨q, n - m, none⟩ : Addr).add j) = some v) ∧ m ≤ cur.size ∧ (xs.drop (n - m)).length = m ∧
      Own (w.setRow q ((xs.drop (n - m)) ++ cur.toList.drop m).toArray) B E (.slice (some ⟨q, 0, none⟩) m cap) (xs.drop (n - m)) ∧ w.grownBy (w.setRow q ((xs.drop (n - m)) ++ cur.toList.drop m).toArray) (some q) := by
  have hl := h.len
  have hsm := h.2
  have hc : ∀ i, i < xs.length → w.cell? ⟨q, i, none⟩ = some (xs.getD i undef) := fun i hi => h.cell hi
  obtain ⟨⟨h0, h1⟩, -⟩ := h
  rcases h1 with ⟨e, -⟩ | ⟨g, cap', cur, e, hb, hg, hnc, hcm, hcs, htake⟩
  · cases e
  · injection e with e1 e2 e3
    injection e1 with e1
    injection e1 with e1
    subst e1
    subst e3
    subst hl
    have hdl : (xs.drop (xs.length - m)).length = m := by rw [List.length_drop]; omega
    refine ⟨cur, hg, fun j v hj => ?_, by omega, hdl, ⟨⟨by omega, .inr ⟨q, cap, _, by rw [hdl], hb, setRow_heap w q cur _ E _ hg, by omega, hcm, ?_, ?_⟩⟩, by omega⟩, ?_⟩
    · have hjl := (List.getElem?_eq_some_iff.1 hj).1
      rw [List.length_drop] at hjl
      rw [add_off, hc _ (by omega)]
      rw [List.getElem?_drop] at hj
      rw [List.getD_eq_getElem?_getD, hj]; rfl
    · simp only [List.size_toArray, List.length_append, List.length_drop, Array.length_toList]; omega
    · show List.take _ _ = _
      rw [show (xs.drop (xs.length - m)).length * 1 = (xs.drop (xs.length - m)).length by omega, List.take_append_of_le_length (Nat.le_refl _), List.take_length]
    · exact ⟨rfl, rfl, rfl, by simp [World.setRow], fun k hk hne => setRow_other w q k _ (fun e => hne (by rw [e]))⟩
/-- 'copy' to the front of the row itself -/
theorem wpList_copy_front {P : Program} {w : World} {ops : Array Oper} {rest : List Oper} {o : Oper} {a : Act} {Q : Exit → Act → World → Prop} (hgd : o.guard = none) (d s : Operand) (dT sT : TypeId)
    (ho : o.op = .call { callee := .builtin .copy, args := #[d, s], argTypes := #[dT, sT] }) (elem : TypeId) (hu : P.underlying dT = some (.slice elem)) (hsz : (P.info? elem).map (·.size) = some 1)
    (g dLen dCap : Nat) (ad : Addr) (sLen sCap : Nat) (hd : a.eval d = .slice (some ⟨g, 0, none⟩) dLen dCap) (hs : a.eval s = .slice (some ad) sLen sCap)
    (cur : Array Value) (t : TypeId) (hg : w.heap[g]? = some (.cells cur t (0, 0))) (cs : List Value) (m : Nat) (hm : cs.length = m) (hn : m = Nat.min sLen dLen)
    (hsrc : ∀ (j : Nat) (v : Value), cs[j]? = some v → w.cell? (ad.add j) = some v) (hfit : m ≤ cur.size) (h1 : ∀ v ∈ cs, v.oneCell' = true)
    (h : wpList P ops Q rest (a.put o.dst (.int .i64 (m : Nat))) (w.setRow g (cs ++ cur.toList.drop m).toArray)) : wpList P ops Q (o :: rest) a w := by
  subst hm
  refine wpList_copy_own hgd d s dT sT ho elem hu hsz g 0 dLen dCap ad sLen sCap hd hs cur t hg cs hn hsrc (by omega) h1 ?_
  simpa [goInt] using h
theorem thereWn {w : World} {B gw : Nat} {vb : Value} {b : Byts} (h : WinV w B gw vb b) : Calls Tryz.prog 40 #[.pointer (some ⟨gw, 0, none⟩)] w fun e w' => e = .returned (.bool true) ∧ w' = w := by
  have c0 : w.cell? ⟨gw, 0, none⟩ = some (.bool true) := h.box.cell (by simp)
  go_enter Tryz.func40, Tryz.ntmps40
  go_wp2
  go_ret
  exact ⟨rfl, rfl⟩
theorem lenWn {w : World} {B gw : Nat} {vb : Value} {H : Byts} (h : WinAt w B gw vb H) : Calls Tryz.prog 66 #[.pointer (some ⟨gw, 0, none⟩)] w fun e w' => e = .returned (.int .i64 (min H.length 32768 : Nat)) ∧ w' = w := by
  obtain ⟨b, hV, hl, hm⟩ := h
  have HT := Lib.hid (thereWn hV)
  obtain ⟨oa, cap, q, hv, hd, -⟩ := hV.own.cases
  rw [bytesV_length] at hv hd
  have c1 : w.cell? ⟨gw, 1, none⟩ = some vb := hV.box.cell (by simp)
  subst hv
  obtain ⟨k, hk⟩ : ∃ k, k = min H.length 32768 := ⟨_, rfl⟩
  have hk2 : k = min b.length 32768 := by rw [hk, ← lastN_min hl]
  rw [← hk]
  have HK := Lib.hid hk2
  clear hk hk2 hd hl
  go_enter Tryz.func66, Tryz.ntmps66
  go_wp2_with (first | ((with_reducible go_at_call 40); (with_reducible refine HT.out.mono ?_); rintro e w' ⟨rfl, hw⟩; subst hw) | ((with_reducible show wpList _ _ _ (Oper.mk _ (.call _) _ _ _ _ :: _) _ _); refine wpList_min_by rfl (.tmp 10) (.const (.int .i64 32768)) 3 3 rfl b.length 32768 k rfl rfl HK.out ?_))
  go_ret
  exact ⟨rfl, rfl⟩
set_option maxRecDepth 100000 in
set_option maxHeartbeats 1000000 in
theorem trimWn {w : World} {B gw : Nat} {vb : Value} {b : Byts} (h : WinV w B gw vb b) (hlen : b.length ≤ 100000000) : Calls Tryz.prog 54 #[.pointer (some ⟨gw, 0, none⟩)] w fun e w' => e = .returned (.tuple #[]) ∧ ∃ vb', WinAt w' B gw vb' b ∧ vb'.ownBlock = vb.ownBlock ∧ WFx gw vb w w' := by
  have c1 : w.cell? ⟨gw, 1, none⟩ = some vb := h.box.cell (by simp)
  have f1 := h.box.free 1
  have hgw := h.box.blk.2
  by_cases hbig : 131072 < b.length
  · have HV := Lib.hid h
    obtain ⟨oa, cap, q, hv, hd, ho, -⟩ := h.own.cases
    rw [bytesV_length] at hv hd ho
    have hoa := hd.hat (by omega)
    subst hoa
    have hcap := hd.hcap
    have hm := hd.len
    subst hv
    have hqb := (h.own.blk).2
    have hne : gw ≠ q := fun e => h.ne (by rw [e]; rfl)
    have hbi : (b.length : Int) > 131072 := by omega
    obtain ⟨n0, hn0⟩ : ∃ n0, n0 = b.length - 32768 := ⟨_, rfl⟩
    have hni : (b.length : Int) - 32768 = (n0 : Nat) := by omega
    have HT := Lib.hid ((h.up (below_drewN w 1)).own.trim (m := 32768) (by omega))
    rw [← World.drew_is_drewN, ← hn0, bytesV_drop] at HT
    have HN0 := Lib.hid hn0
    have HLB : Hid (lastN (b.drop n0) = lastN b ∧ (b.drop n0).length ≤ 131072) := Lib.hid ⟨lastN_drop (by omega), by rw [List.length_drop]; omega⟩
    have hsl : ∀ W : World, (Instr.sliceAt 54 (.slice (some ⟨q, 0, none⟩) b.length cap) (some (.int .i64 (n0 : Int))) none none).run Tryz.prog W = .ok (.slice (some ⟨q, n0, none⟩) 32768 (cap - n0)) W := fun W => by
      obtain ⟨h1, h2⟩ := run_cut (P := Tryz.prog) 54 5 Tryz.underlying54 (by kernel_rfl)
      rw [run_sliceAt_slice (P := Tryz.prog) (t := 54) (h := h1), run_slice_l (t := 54) (ht := h1) (h0 := by omega) (h1 := by omega), h2]
      simp only [Result.andThen]
      unfold sliced
      rw [Int.toNat_natCast, if_neg (by omega), show b.length - n0 = 32768 by omega]
      simp [add_off]
    have hs2 : ∀ W : World, (Instr.sliceAt 54 (.slice (some ⟨q, 0, none⟩) b.length cap) none (some (.int .i64 ((32768 : Nat) : Int))) none).run Tryz.prog W = .ok (.slice (some ⟨q, 0, none⟩) 32768 cap) W := fun W => by
      obtain ⟨h1, h2⟩ := run_cut (P := Tryz.prog) 54 5 Tryz.underlying54 (by kernel_rfl)
      rw [run_sliceAt_slice (P := Tryz.prog) (t := 54) (h := h1), run_slice_h (t := 54) (ht := h1) (h0 := by omega) (h2 := by omega), h2]
      simp only [Result.andThen]
      unfold sliced
      rw [Int.toNat_natCast, if_neg (by omega)]
      simp [add_off]
    have HS2 := Lib.hid hs2
    clear h hd ho hbig hn0 hs2
    go_enter Tryz.func54, Tryz.ntmps54
    go_wp2
    refine wp_region_tail (fun w' => ∃ x, w' = ext w x) [0,1,2,3,4,5,6,7,8,9,10,11,12,13,14] [] [15,16] (by kernel_rfl) (by kernel_rfl) (ex_ext (below_drewN w 1)) ?_
    simp only [pick, List.map_cons, List.map_nil, List.getD_cons_zero, List.getD_cons_succ]
    repeat (go_big_quiet_step (fail))
    refine wpQuiet_nil ?_
    obtain ⟨cur, hrow, hsrc, hcs, hdl, hnew, hgr⟩ := HT.out
    have HRW := Lib.hid hrow
    have HSR := Lib.hid hsrc
    have HCS := Lib.hid hcs
    have HDL := Lib.hid hdl
    have HNW := Lib.hid hnew
    have HGR := Lib.hid hgr
    clear hrow hsrc hcs hdl hnew hgr HT
    unfold wpAct
    unfold wpAct
    go_wp2_with ((refine wpList_copy_front rfl (.tmp 12) (.tmp 23) 54 54 rfl 5 Tryz.underlying54 (by kernel_rfl) q b.length cap ⟨q, n0, none⟩ 32768 (cap - n0) rfl rfl cur 5 HRW.out (bytesV (b.drop n0)) 32768 HDL.out (Nat.min_eq_left (by omega)).symm HSR.out HCS.out (bytesV_one _) ?_))
    refine ⟨trivial, ?_⟩
    have HBX := Lib.hid ((HV.out.box.up (below_drewN w 1)))
    rw [← World.drew_is_drewN] at HBX
    have HB2 := Lib.hid (HBX.out.keep HGR.out (.inr (fun e => hne (by injection e))))
    have HNW2 := HNW
    have HF2 : Hid (WFx gw (.slice (some ⟨q, 0, none⟩) b.length cap) w (w.drew.setRow q (bytesV (b.drop n0) ++ cur.toList.drop 32768).toArray)) := Lib.hid (by
      have h1 : w.grownBy w.drew none := grown_drew w none
      exact (fx_grown h1 (by intro k e; cases e)).grown HGR.out (fun k e => .inl (.inr (by rw [← e]; rfl))))
    generalize w.drew.setRow q (bytesV (b.drop n0) ++ cur.toList.drop 32768).toArray = w2 at *
    have c1 : w2.cell? ⟨gw, 1, none⟩ = some (.slice (some ⟨q, 0, none⟩) b.length cap) := HB2.out.cell (by simp)
    have f1 := HB2.out.free 1
    have hgw := HB2.out.blk.2
    have hs2 := HS2.out
    have HST := Lib.hid (HB2.out.store 1 (.slice (some ⟨q, 0, none⟩) 32768 cap))
    clear HV HSR HRW HCS HDL HGR HNW HBX hsl HS2
    (unfold wpAct; go_wp2; refine ⟨trivial, ?_⟩)
    unfold wpAct
    go_wp2
    go_end0
    have hqg : (Value.slice (some ⟨q, 0, none⟩) 32768 cap).ownBlock ≠ some gw := fun e => hne (by injection e with e; exact e.symm)
    exact ⟨rfl, _, ⟨b.drop n0, ⟨by simpa using HST.out.1, HNW2.out.keep HST.out.2 (.inr hqg), hqg⟩, HLB.out.1, HLB.out.2⟩, rfl, HF2.out.grown HST.out.2 (fun k e => .inl (.inl (by injection e with e; exact e.symm)))⟩
  · have hbi : ¬ (b.length : Int) > 131072 := by omega
    obtain ⟨oa, cap, q, hv, hd, -⟩ := h.own.cases
    rw [bytesV_length] at hv hd
    have hm := hd.len
    have HA : Hid (WinAt w B gw vb b) := Lib.hid ⟨b, h, rfl, by omega⟩
    clear h hd
    subst hv
    go_enter Tryz.func54, Tryz.ntmps54
    go_wp2
    go_end0
    exact ⟨rfl, _, HA.out, rfl, Fx.refl _ _⟩
theorem WinV.push {w w5 : World} {B gw : Nat} {vb v' : Value} {b c : Byts} (h : WinV w B gw vb b) (hown : Own w5 B 5 v' (bytesV b ++ bytesV c)) (hg : w.grownBy w5 vb.ownBlock) (hk : ∀ k, v'.ownBlock = some k → vb.ownBlock = some k ∨ w.heap.size ≤ k) :
    WinV (w5.setCell ⟨gw, 1, none⟩ v') B gw v' (b ++ c) ∧ WFx gw vb w (w5.setCell ⟨gw, 1, none⟩ v') := by
  have hbx := h.box.keep hg (.inr (fun e => h.ne e.symm))
  have hst := hbx.store 1 v'
  have hne : v'.ownBlock ≠ some gw := fun e => by
    rcases hk gw e with h1 | h1
    · exact h.ne h1
    · have := h.box.blk.2; omega
  refine ⟨⟨by simpa using hst.1, ?_, hne⟩, (fx_grown hg (fun k e => .inr e)).grown hst.2 (fun k e => .inl (.inl (by injection e with e; exact e.symm)))⟩
  rw [bytesV_append]
  exact hown.keep hst.2 (.inr hne)
theorem WFx.next {gw : Nat} {vb vb' : Value} {w w1 w2 : World} (h : WFx gw vb w w1) (hk : ∀ k, vb'.ownBlock = some k → vb.ownBlock = some k ∨ w.heap.size ≤ k) (k : WFx gw vb' w1 w2) : WFx gw vb w w2 :=
  ⟨k.os.trans h.os, k.tape.trans h.tape, k.output.trans h.output, Nat.le_trans h.size k.size, fun i hi h1 => by
    rw [k.block i (Nat.lt_of_lt_of_le hi h.size) (fun e => ?_), h.block i hi h1]
    rcases e with e | e
    · exact h1 (.inl e)
    · rcases hk i e with h2 | h2
      · exact h1 (.inr h2)
      · omega⟩
set_option maxRecDepth 100000 in
set_option maxHeartbeats 1000000 in
theorem putWn {w : World} {B gw : Nat} {vb : Value} {H : Byts} (h : WinAt w B gw vb H) (hB : B ≤ w.heap.size) (s : ByteArray) (hs : s.size ≤ 50000000) : Calls Tryz.prog 35 #[.pointer (some ⟨gw, 0, none⟩), .string s] w fun e w' => e = .returned (.tuple #[]) ∧ ∃ vb', WinAt w' B gw vb' (H ++ bys s) ∧ (∀ k, vb'.ownBlock = some k → vb.ownBlock = some k ∨ w.heap.size ≤ k) ∧ WFx gw vb w w' := by
  obtain ⟨b, hV, hl, hm⟩ := h
  have HT := Lib.hid (thereWn hV)
  have HV := Lib.hid hV
  have c1 : w.cell? ⟨gw, 1, none⟩ = some vb := hV.box.cell (by simp)
  have f1 := hV.box.free 1
  have hgw := hV.box.blk.2
  have HL := Lib.hid hl
  have HB := Lib.hid hB
  have HLN : Hid ((bytesV b).length + s.size ≤ 4294967296) := Lib.hid (by rw [bytesV_length]; omega)
  have HLM : Hid ((b ++ s.data.toList).length ≤ 100000000) := Lib.hid (by rw [List.length_append]; have := bys_len s; unfold bys at this; omega)
  clear hV hl hB hm hs
  go_enter Tryz.func35, Tryz.ntmps35
  go_wp2_with (first | ((with_reducible go_at_call 40); (with_reducible refine HT.out.mono ?_); rintro e w' ⟨rfl, hw⟩; subst hw) | (at_builtin; go_loud (refine wpList_app_str rfl (.tmp 10) (.tmp 11) 54 9 rfl B 5 (.int .u8 0) 1 Tryz.underlying54 Tryz.underlying9 (by kernel_rfl) rfl (by decide) vb (bytesV b) rfl HV.out.own s rfl HLN.out HB.out ?_); intro v' w5 hown1 hg1 hk1; obtain ⟨hW, hF⟩ := HV.out.push hown1 hg1 hk1; have hb5 := HV.out.box.keep hg1 (.inr (fun e => HV.out.ne e.symm)); have c5 : w5.cell? ⟨gw, 1, none⟩ = some vb := hb5.cell (by simp); have f5 := hb5.free 1; have g5 := hb5.blk.2; obtain ⟨o5, k5, q5, hv5, -⟩ := hown1.cases; obtain ⟨l5, hl5⟩ : ∃ l5, l5 = (bytesV b ++ bytesV s.data.toList).length := ⟨_, rfl⟩; rw [← hl5] at hv5; subst hv5; have HW := Lib.hid hW; have HF := Lib.hid hF; have HK := Lib.hid hk1; clear hown1 hg1 hk1 hb5 hl5 hW hF) | ((with_reducible go_at_call 54); (with_reducible refine (trimWn HW.out HLM.out).mono ?_); rintro e w7 ⟨rfl, v7, hw7, ho7, hf7⟩; have HW7 := Lib.hid hw7; have HO7 := Lib.hid ho7; have HF7 := Lib.hid hf7; clear hw7 ho7 hf7))
  go_end0
  obtain ⟨b7, h1, h2, h3⟩ := HW7.out
  refine ⟨rfl, v7, ⟨b7, h1, h2.trans (lastN_app2 HL.out _), h3⟩, fun k e => HK.out k (by rw [← HO7.out]; exact e), HF.out.next HK.out HF7.out⟩
end Go.Cm
