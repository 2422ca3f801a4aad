/- Texts of this claim, joined: walks of small functions and plain facts about them. Conditions: as each says. -/
import Derived.Test.YtmophmeiemfikaaGreatAF
import Derived.Test.YtmophmeiemfikaaGreatRows
import Derived.WalkKit
import Derived.WalkSpells
import Derived.WalkLawsBesides
import Derived.Deep.QuietTactic
import Derived.BigQuiet
import Derived.Lib.Hide
import Derived.Laws.Small
import Derived.Deep.LoopGhost
import Derived.Laws.BitsLemmas
import Derived.Deep.DeepCutAuto
import Derived.Laws.IdiomStrings
import Derived.Deep.CutBlock
import Derived.Deep.CutRange
import Derived.Laws.CopyOwn
import Derived.Laws.EntriesVeiled
/- The walk of the program's text: an op. Conditions: the text is there. -/
namespace Go.Cm
open Go.RowKit Go.Proofs

theorem byte_u8 (l : Nat) (h : l < 256) : bytesV [UInt8.ofNat l] = [.int .u8 (l : Nat)] := by
  simp only [bytesV, List.map_cons, List.map_nil]
  congr 2
  have : (UInt8.ofNat l).toNat = l := by simp [Nat.mod_eq_of_lt h]
  rw [this]
end Go.Cm

/- 'append(s, text...)': a text behind bytes of one's own. Conditions: none. -/
namespace Go.Cm
open Go.RowKit Go.Proofs

theorem run_firstCells_str {P : Program} (w : World) (k : Nat) (s : ByteArray) : (Builtin.firstCells k s.size (.string s)).run P w = .ok (bytesV s.data.toList).toArray w := by
  unfold Builtin.firstCells
  rw [Sem.run_pure]
  have h : (s.extract 0 s.size) = s := by simp
  rw [h]
  congr 1
  apply Array.ext'
  simp [bytesV]
theorem run_app_str {P : Program} (w : World) (B : Nat) (t u ty E : TypeId) (z : Value) (bytes : Nat) (ht : P.underlying t = some (.slice E)) (hu : P.underlying u = some .string) (hinf : (P.info? E).map (fun i => (i.zero, i.size, i.bytes)) = some (some z, 1, bytes)) (hz : z.cells.size = 1) (hby : bytes ≤ 24)
    (v : Value) (xs : List Value) (hown : Own w B E v xs) (s : ByteArray) (hlen : xs.length + s.size ≤ 4294967296) (hB : B ≤ w.heap.size) :
    ∃ v' w', (Builtin.append_ #[t, u] ty #[v, .string s]).run P w = .ok v' w' ∧ Own w' B E v' (xs ++ bytesV s.data.toList) ∧ w.grownBy w' v.ownBlock ∧ (∀ k, v'.ownBlock = some k → v.ownBlock = some k ∨ w.heap.size ≤ k) := by
  obtain ⟨i, hi, hz0, hz1, hz2⟩ : ∃ i0, P.info? E = some i0 ∧ i0.zero = some z ∧ i0.size = 1 ∧ i0.bytes = bytes := by
    cases hq : P.info? E with
    | none => simp [hq] at hinf
    | some i0 => simp [hq] at hinf; exact ⟨i0, rfl, hinf.1, hinf.2.1, hinf.2.2⟩
  have hnl : (bytesV s.data.toList).length = s.size := by rw [bytesV_length]; simp
  have h1 := bytesV_one s.data.toList
  have hl1 : xs.length + s.size ≤ maxLen := by simp only [maxLen]; omega
  have hl2 : (xs.length + s.size) * bytes ≤ 140737488355328 := by
    have := Nat.mul_le_mul hlen hby; omega
  have hf := fun w' => run_firstCells_str (P := P) w' 1 s
  generalize bytesV s.data.toList = news at *
  rcases hown with ⟨hrow, hsm⟩
  have hxl := hrow.1
  rw [Nat.mul_one] at hxl
  have grown : ∀ (old : Nat), old < xs.length + s.size → ∀ (row : Option Nat),
      (w.drew.alloc (.cells (xs.toArray ++ news.toArray ++ Builtin.zeroCells z.cells (grownCap w (xs.length + s.size) old E - (xs.length + s.size))) E)).ownsRow B E 1
        (.slice (some ⟨w.heap.size, 0, none⟩) (xs.length + s.size) (grownCap w (xs.length + s.size) old E)) (xs.length + s.size) (xs ++ news) ∧
      w.grownBy (w.drew.alloc (.cells (xs.toArray ++ news.toArray ++ Builtin.zeroCells z.cells (grownCap w (xs.length + s.size) old E - (xs.length + s.size))) E)) row := by
    intro old ho row
    have hge := grownCap_ge w (xs.length + s.size) old E
    have hcm : grownCap w (xs.length + s.size) old E ≤ maxLen := grownCap_le_maxLen w (xs.length + s.size) old E hl1
    refine ⟨⟨by simp [hnl], .inr ⟨w.heap.size, _, _, rfl, hB, heap_alloc_new w.drew _, hge, hcm, ?_, ?_⟩⟩, ⟨rfl, rfl, rfl, by simp, fun k hk _ => Below.heap_alloc w.drew _ k hk⟩⟩
    · simp only [Array.size_append, List.size_toArray, size_zeroCells, hz, hnl]
      omega
    · simp only [Array.toList_append, List.append_assoc]
      rw [← List.append_assoc, Nat.mul_one, ← hnl, ← List.length_append]
      exact List.take_left
  have hlen' : (xs ++ news).length ≤ 140737488351232 := by rw [List.length_append, hnl]; omega
  rcases hrow.2 with ⟨rfl, hx0⟩ | ⟨g, cap, cur, rfl, hbg, hg, hnc, hcm, hcs, htake⟩
  · obtain rfl : xs = [] := List.length_eq_zero_iff.1 hx0
    by_cases hs : s.size = 0
    · have hn : news = [] := List.length_eq_zero_iff.1 (by rw [hnl, hs])
      subst hn
      refine ⟨.slice none 0 0, w, ?_, Own.nil _ _ _, ⟨rfl, rfl, rfl, Nat.le_refl _, fun _ _ _ => rfl⟩, fun k hk => by simp [Value.ownBlock] at hk⟩
      have hf0 := hf w
      rw [hs] at hf0
      simp [Builtin.append_, run_underlying ht, run_underlying hu, sizeOf, typeInfo, hi, hz1, Builtin.lenOf, hs, hf0]
    · obtain ⟨g1, g2⟩ := grown 0 (by simp; omega) (Value.ownBlock (.slice none 0 0))
      simp only [List.length_nil, Nat.zero_add, List.nil_append] at g1 g2 hlen'
      refine ⟨_, _, ?_, ⟨by simpa [hnl] using g1, by simpa using hlen'⟩, g2, fun k hk => .inr (by simp [Value.ownBlock] at hk; omega)⟩
      have h63' : ¬ (9223372036854775807 < (s.size : Int)) := by simp at hlen; omega
      have h48' : ¬ (281474976710656 < Builtin.nextslicecap s.size 0 * i.bytes) := by rw [nextslicecap_zero (by omega), hz2]; simp at hl2; omega
      have hf0 := hf w.drew
      simp [Builtin.append_, run_underlying ht, run_underlying hu, sizeOf, typeInfo, zeroValue, hi, hz0, hz1, Builtin.lenOf, hs, h63', h48', Question.forced, run_firstCells_none, hf0, newRow, grownCap]
  · by_cases hroom : xs.length + s.size ≤ cap
    · have hfit : xs.length * 1 + news.length ≤ cur.size := by rw [hnl, hcs]; omega
      have hst := run_storeCells_at P g (xs.length * 1) E news 0 cur w hg (by simpa using hfit) h1
      simp only [Nat.add_zero, Nat.mul_one] at hst
      generalize hR : (cur.toList.take xs.length ++ news ++ cur.toList.drop (xs.length + news.length)).toArray = R at hst
      refine ⟨.slice (some ⟨g, 0, none⟩) (xs.length + s.size) cap, w.setRow g R, ?_, ⟨⟨by simp [hnl], .inr ⟨g, cap, R, ?_, hbg, setRow_heap w g cur R E _ hg, ?_, hcm, ?_, ?_⟩⟩, hlen'⟩, ⟨rfl, rfl, rfl, by simp, fun k _ hk => setRow_other w g k _ (fun e => hk (by simp [Value.ownBlock, e]))⟩, fun k hk => .inl hk⟩
      · have hf0 := hf w
        simp [Builtin.append_, run_underlying ht, run_underlying hu, sizeOf, typeInfo, hi, hz1, Builtin.lenOf, hroom, hf0, Addr.add_lit, hst]
      · rw [List.length_append, hnl]
      · rw [List.length_append, hnl]; exact hroom
      · rw [← hR]
        simp only [List.size_toArray, List.length_append, List.length_take, List.length_drop, Array.length_toList]
        omega
      · rw [Nat.mul_one] at htake
        rw [Nat.mul_one, ← hR, htake]
        exact List.take_left
    · have holds : ∀ j u, xs[j]? = some u → w.cell? ((⟨g, 0, none⟩ : Addr).add j) = some u := World.ownsRow.cells (g := g) hrow rfl
      obtain ⟨g1, g2⟩ := grown cap (by omega) (Value.ownBlock (.slice (some ⟨g, 0, none⟩) xs.length cap))
      refine ⟨_, _, ?_, ⟨by rw [List.length_append, hnl]; exact g1, hlen'⟩, g2, fun k hk => .inr (by simp [Value.ownBlock] at hk; omega)⟩
      have hn : ¬ (xs.length + s.size ≤ cap) := hroom
      have h63' : ¬ (9223372036854775807 < ((xs.length : Int) + (s.size : Int))) := by omega
      have h48' : ¬ (281474976710656 < Builtin.nextslicecap (xs.length + s.size) cap * i.bytes) := by
        have := growslice_fits (need := xs.length + s.size) (old := cap) (bytes := bytes) (by omega) hl2
        rw [hz2]; omega
      have hf0 := hf w.drew
      have hfo := run_firstCells_some (P := P) w.drew 1 xs.length ⟨g, 0, none⟩ xs.length cap xs (by omega) (by simpa using holds)
      simp [Builtin.append_, run_underlying ht, run_underlying hu, sizeOf, typeInfo, zeroValue, hi, hz0, hz1, Builtin.lenOf, hn, h63', h48', Question.forced, hf0, hfo, newRow, grownCap]
      congr 2
      apply Array.ext'
      simp [List.append_assoc]
theorem wpList_app_str {P : Program} {ops : Array Oper} {rest : List Oper} {o : Oper} {a : Act} {w : World} {Q : Exit → Act → World → Prop} (hgd : o.guard = none) (s x : Operand) (t u : TypeId)
    (ho : o.op = .call { callee := .builtin .append, args := #[s, x], argTypes := #[t, u] })
    (B E : TypeId) (z : Value) (bytes : Nat) (ht : P.underlying t = some (.slice E)) (hu : P.underlying u = some .string) (hinf : (P.info? E).map (fun i => (i.zero, i.size, i.bytes)) = some (some z, 1, bytes)) (hz : z.cells.size = 1) (hby : bytes ≤ 24)
    (v : Value) (xs : List Value) (hs : a.eval s = v) (hown : Own w B E v xs) (tx : ByteArray) (hxe : a.eval x = .string tx) (hlen : xs.length + tx.size ≤ 4294967296) (hB : B ≤ w.heap.size)
    (h : ∀ v' w', Own w' B E v' (xs ++ bytesV tx.data.toList) → w.grownBy w' v.ownBlock → (∀ k, v'.ownBlock = some k → v.ownBlock = some k ∨ w.heap.size ≤ k) → wpList P ops Q rest (a.put o.dst v') w') : wpList P ops Q (o :: rest) a w := by
  obtain ⟨v', w', hr, h2, h3, h4⟩ := run_app_str (P := P) w B t u o.type E z bytes ht hu hinf hz hby v xs hown tx hlen hB
  refine wpList_plain hgd fun K hK => ?_
  unfold Oper.wp execOp
  simp only [ho, resolve, invoke, builtin, Sem.run_bind, Sem.run_pure, Result.andThen_ok, List.map_toArray, List.map_cons, List.map_nil, hs, hxe, hr]
  exact hK _ _ (h v' w' h2 h3 h4)
end Go.Cm

/- The walk of the program's text: a part. Conditions: the text is there, the ops read as a list. -/
namespace Go.Cm
open Go.RowKit Go.Proofs

theorem ops_open {w : World} {v : Value} {l : List OpN} (h : SlK 3 w v (l.map opV)) :
    ∃ oa cap b off, v = .slice oa l.length cap ∧ Hd w oa l.length cap b off ∧ ∀ i (hi : i < l.length), ∀ c, c < 3 → w.cell? ⟨b, off + i * 3 + c, none⟩ = some ((opV (l[i]'hi)).getD c undef) := by
  obtain ⟨oa, cap, b, off, rfl, hd, hc⟩ := h
  rw [List.length_map] at hd hc ⊢
  refine ⟨oa, cap, b, off, rfl, hd, fun i hi c hcl => ?_⟩
  have := hc i hi c hcl
  rw [this]
  simp [List.getD, hi]
end Go.Cm

/- The walk of the program's Text. Conditions: the parts read as a list. -/
namespace Go.Cm
open Go.RowKit Go.Proofs

def zPt : PtN := ⟨0, ⟨#[]⟩, [], [], []⟩
/-- a part's five cells -/
def PtCells (w : World) (c : List Value) (p : PtN) : Prop := ∃ vo vl vd, c = [.int .i64 p.kind, .string p.text, vo, vl, vd] ∧ SlK 3 w vo (p.ops.map opV) ∧ IntsAt w vl p.lits ∧ IntsAt w vd p.dists
/-- a list of parts -/
def PartsAt (w : World) (v : Value) (l : List PtN) : Prop := ∃ cs, SlK 5 w v cs ∧ cs.length = l.length ∧ ∀ i, i < l.length → PtCells w (cs.getD i []) (l.getD i zPt)
theorem PtCells.up {w w' : World} {c : List Value} {p : PtN} (h : PtCells w c p) (hb : Below w.heap.size w w') : PtCells w' c p := by
  obtain ⟨vo, vl, vd, hc, h1, h2, h3⟩ := h
  exact ⟨vo, vl, vd, hc, h1.up hb, h2.up hb, h3.up hb⟩
theorem PartsAt.up {w w' : World} {v : Value} {l : List PtN} (h : PartsAt w v l) (hb : Below w.heap.size w w') : PartsAt w' v l := by
  obtain ⟨cs, h1, h2, h3⟩ := h
  exact ⟨cs, h1.up hb, h2, fun i hi => (h3 i hi).up hb⟩
theorem PartsAt.open {w : World} {v : Value} {l : List PtN} (h : PartsAt w v l) :
    ∃ oa cap b off, v = .slice oa l.length cap ∧ Hd w oa l.length cap b off ∧ ∀ i, i < l.length →
      ∃ oo oc o1 c1 o2 c2, (∀ c, c < 5 → w.cell? ⟨b, off + i * 5 + c, none⟩ = some ((#[.int .i64 (l.getD i zPt).kind, .string (l.getD i zPt).text, .slice oo (l.getD i zPt).ops.length oc, .slice o1 (l.getD i zPt).lits.length c1, .slice o2 (l.getD i zPt).dists.length c2] : Array Value).getD c undef)) ∧
        SlK 3 w (.slice oo (l.getD i zPt).ops.length oc) ((l.getD i zPt).ops.map opV) ∧ IntsAt w (.slice o1 (l.getD i zPt).lits.length c1) (l.getD i zPt).lits ∧ IntsAt w (.slice o2 (l.getD i zPt).dists.length c2) (l.getD i zPt).dists := by
  obtain ⟨cs, ⟨oa, cap, b, off, rfl, hd, hc⟩, h2, h3⟩ := h
  rw [h2] at hd hc ⊢
  refine ⟨oa, cap, b, off, rfl, hd, fun i hi => ?_⟩
  obtain ⟨vo, vl, vd, he, g1, g2, g3⟩ := h3 i hi
  obtain ⟨oo, oc, ob, of, rfl, -⟩ := ops_open g1
  obtain ⟨o1, c1, b1, f1, rfl, -⟩ := g2.open
  obtain ⟨o2, c2, b2, f2, rfl, -⟩ := g3.open
  refine ⟨oo, oc, o1, c1, o2, c2, fun c hcl => ?_, g1, g2, g3⟩
  rw [hc i hi c hcl, he]
  match c, hcl with
  | 0, _ => rfl
  | 1, _ => rfl
  | 2, _ => rfl
  | 3, _ => rfl
  | 4, _ => rfl
end Go.Cm

/- 'append(s, x)' of an element of several cells, of up to 128 bytes. Conditions: none. -/
namespace Go.Cm
open Go.RowKit Go.Proofs

/-- 'append(s, x)' of one k-cell element x that lies as a slice of one. -/
theorem run_appL {P : Program} {k : Nat} (w : World) (B : Nat) (t ty E : TypeId) (z : Value) (bytes : Nat) (ht : P.underlying t = some (.slice E)) (hinf : (P.info? E).map (fun i => (i.zero, i.size, i.bytes)) = some (some z, k, bytes)) (hz : z.cells.size = k) (hk : 0 < k) (hby : bytes ≤ 128)
    (v : Value) (xs : List (List Value)) (hown : OwnK k w B E v xs) (xv : Value) (news : List (List Value)) (hx : SlK k w xv news) (hnk : ∀ x ∈ news, x.length = k) (h1 : ∀ u ∈ news.flatten, u.oneCell' = true) (hlen : xs.length + news.length ≤ 1000000000) (hB : B ≤ w.heap.size) :
    ∃ v' w', (Builtin.append_ #[t, t] ty #[v, xv]).run P w = .ok v' w' ∧ OwnK k w' B E v' (xs ++ news) ∧ w.grownBy w' v.ownBlock ∧ (∀ q, v'.ownBlock = some q → v.ownBlock = some q ∨ w.heap.size ≤ q) := by
  obtain ⟨i0, hi, hz0, hz1, hz2⟩ : ∃ i0, P.info? E = some i0 ∧ i0.zero = some z ∧ i0.size = k ∧ i0.bytes = bytes := by
    cases hq : P.info? E with
    | none => simp [hq] at hinf
    | some i0 => simp [hq] at hinf; exact ⟨i0, rfl, hinf.1, hinf.2.1, hinf.2.2⟩
  have hl1 : xs.length + news.length ≤ maxLen := by simp only [maxLen]; omega
  have hl2 : (xs.length + news.length) * bytes ≤ 140737488355328 := by
    have := Nat.mul_le_mul hlen hby; omega
  obtain ⟨oa, cx, b, off, rfl, hd, hc⟩ := hx
  obtain ⟨hrow, hsm, hxk⟩ := hown
  have hnewsl : news.flatten.length = news.length * k := flatten_len hnk
  have hall : ∀ x ∈ xs ++ news, x.length = k := fun x hx => by
    rcases List.mem_append.1 hx with h | h
    · exact hxk x h
    · exact hnk x h
  have hlen' : (xs ++ news).length ≤ 140737488351232 := by rw [List.length_append]; omega
  by_cases hn : news = []
  · subst hn
    refine ⟨v, w, ?_, ⟨by simpa using hrow, by simpa using hsm, by simpa using hxk⟩, ⟨rfl, rfl, rfl, Nat.le_refl _, fun _ _ _ => rfl⟩, fun k hk => .inl hk⟩
    rcases hrow.2 with ⟨rfl, hx0⟩ | ⟨g, cap, cur, rfl, _, _, hnc, _⟩
    · cases oa <;> simp [Builtin.append_, run_underlying ht, sizeOf, typeInfo, hi, Builtin.lenOf, Builtin.firstCells, loadCells, loadCellsFrom]
    · cases oa <;> simp [Builtin.append_, run_underlying ht, sizeOf, typeInfo, hi, Builtin.lenOf, Builtin.firstCells, loadCells, loadCellsFrom, hnc, storeCells]
  · have hpos : 0 < news.length := List.length_pos_iff.2 hn
    obtain rfl := hd.hat hpos
    have hnews : ∀ j u, news.flatten[j]? = some u → w.cell? ((⟨b, off, none⟩ : Addr).add j) = some u := fun j u hu => by
      have hj := (List.getElem?_eq_some_iff.1 hu).1
      rw [hnewsl] at hj
      have hdm : j = j / k * k + j % k := by rw [Nat.mul_comm]; exact (Nat.div_add_mod j k).symm
      have hq : j / k < news.length := (Nat.div_lt_iff_lt_mul hk).2 hj
      have hm := Nat.mod_lt j hk
      rw [add_off, hdm, ← Nat.add_assoc, hc (j / k) hq (j % k) hm]
      rw [hdm, flatten_at hnk _ _ hq hm] at hu
      rw [List.getD_eq_getElem?_getD, hu]; rfl
    rcases hrow.2 with ⟨rfl, hx0⟩ | ⟨g, cap, cur, rfl, hbg, hg, hnc, hcm, hcs, htake⟩
    · obtain rfl : xs = [] := List.length_eq_zero_iff.1 hx0
      obtain ⟨v', w', hr, ho, hgr, -⟩ := run_append_own (P := P) w w.heap.size t ty E i0 z k bytes ht hi hz0 hz1 hz2 hz hk (.slice none 0 0) 0 [] (World.ownsRow_nil _ _ _ _) ⟨b, off, none⟩ news.length cx news.flatten hnewsl hnews h1 (by simpa using hl1) (by simpa using hl2) (Nat.le_refl _)
      have hkk := ho.lt
      refine ⟨v', w', hr, ⟨⟨by simpa using hnewsl, ?_⟩, hlen', hall⟩, hgr, fun q hq => .inr (hkk q hq).1⟩
      simp only [Nat.zero_add, List.nil_append] at ho
      rcases ho.2 with ⟨h1, h2⟩ | ⟨g, cap, cur, h1, h2, h3⟩
      · exact .inl ⟨h1, by simpa using h2⟩
      · exact .inr ⟨g, cap, cur, h1, by omega, by simpa using h3⟩
    · by_cases hroom : xs.length + news.length ≤ cap
      · obtain ⟨w', hr, ho, hgr⟩ := run_append_fits (P := P) w B t ty E i0 k ht hi hz1 g xs.length cap xs.flatten ⟨hrow.1, .inr ⟨g, cap, cur, rfl, hbg, hg, hnc, hcm, hcs, htake⟩⟩ ⟨b, off, none⟩ news.length cx news.flatten hnewsl hnews h1 hroom
        exact ⟨_, w', hr, ⟨by rw [List.length_append, List.flatten_append]; exact ho, hlen', hall⟩, hgr, fun k hk => .inl hk⟩
      · have holds : ∀ j u, xs.flatten[j]? = some u → w.cell? ((⟨g, 0, none⟩ : Addr).add j) = some u := World.ownsRow.cells (g := g) hrow rfl
        have hxl : xs.flatten.length = xs.length * k := flatten_len hxk
        have hr := run_append_grow (P := P) w t ty E i0 z ht hi hz0 ⟨g, 0, none⟩ xs.length cap xs.flatten (by rw [hz1]; exact hxl) holds ⟨b, off, none⟩ news.length cx news.flatten (by rw [hz1]; exact hnewsl) hnews (by omega) (by omega) (growslice_fits (by omega) (by rw [hz2]; exact hl2))
        have hge := grownCap_ge w (xs.length + news.length) cap E
        have hcm' : grownCap w (xs.length + news.length) cap E ≤ maxLen := grownCap_le_maxLen w _ cap E hl1
        refine ⟨_, _, hr, ⟨⟨by rw [List.length_append, List.flatten_append, List.length_append, hxl, hnewsl, Nat.add_mul], .inr ⟨w.heap.size, _, _, by rw [List.length_append], hB, heap_alloc_new w.drew _, by rw [List.length_append]; exact hge, hcm', ?_, ?_⟩⟩, hlen', hall⟩, ⟨rfl, rfl, rfl, by simp, fun k hk _ => Below.heap_alloc w.drew _ k hk⟩, fun k hk => .inr (by simp [Value.ownBlock] at hk; omega)⟩
        · simp only [Array.size_append, List.size_toArray, size_zeroCells, hz, hxl, hnewsl, ← Nat.add_mul]
          congr 1; omega
        · simp only [Array.toList_append, List.append_assoc, List.length_append, List.flatten_append]
          rw [← List.append_assoc, Nat.add_mul, ← hxl, ← hnewsl, ← List.length_append]
          exact List.take_left
theorem wpList_appL {P : Program} {ops : Array Oper} {rest : List Oper} {o : Oper} {a : Act} {w : World} {Q : Exit → Act → World → Prop} (k : Nat) (hgd : o.guard = none) (s x : Operand) (t : TypeId)
    (ho : o.op = .call { callee := .builtin .append, args := #[s, x], argTypes := #[t, t] })
    (B E : TypeId) (z : Value) (bytes : Nat) (ht : P.underlying t = some (.slice E)) (hinf : (P.info? E).map (fun i => (i.zero, i.size, i.bytes)) = some (some z, k, bytes)) (hz : z.cells.size = k) (hk : 0 < k) (hby : bytes ≤ 128)
    (v : Value) (xs : List (List Value)) (hs : a.eval s = v) (hown : OwnK k w B E v xs) (xv : Value) (news : List (List Value)) (hxe : a.eval x = xv) (hx : SlK k w xv news) (hnk : ∀ x ∈ news, x.length = k) (h1 : ∀ u ∈ news.flatten, u.oneCell' = true) (hlen : xs.length + news.length ≤ 1000000000) (hB : B ≤ w.heap.size)
    (h : ∀ v' w', OwnK k w' B E v' (xs ++ news) → w.grownBy w' v.ownBlock → (∀ q, v'.ownBlock = some q → v.ownBlock = some q ∨ w.heap.size ≤ q) → wpList P ops Q rest (a.put o.dst v') w') : wpList P ops Q (o :: rest) a w := by
  obtain ⟨v', w', hr, h2, h3, h4⟩ := run_appL (P := P) w B t o.type E z bytes ht hinf hz hk hby v xs hown xv news hx hnk h1 hlen hB
  refine wpList_plain hgd fun K hK => ?_
  unfold Oper.wp execOp
  simp only [ho, resolve, invoke, builtin, Sem.run_bind, Sem.run_pure, Result.andThen_ok, List.map_toArray, List.map_cons, List.map_nil, hs, hxe, hr]
  exact hK _ _ (h v' w' h2 h3 h4)
end Go.Cm

/- A text as parts, in plain Lean; parts of a call's own; a text as bytes. Conditions: as each says. -/
namespace Go.Cm
open Go.RowKit Go.Proofs

theorem bys_extract (s : ByteArray) (a b : Nat) : bys (s.extract a b) = ((bys s).drop a).take (b - a) := by
  have : s = ⟨(bys s).toArray⟩ := by cases s; simp [bys]
  conv => lhs; rw [this]
  rw [ByteArray.extract_mk]
  simp [bys]
theorem bys_mk (t : Byts) : bys ⟨t.toArray⟩ = t := by simp [bys]
end Go.Cm

/- The walk of the program's Split. Conditions: the text is not too long. -/
namespace Go.Cm
open Go.RowKit Go.Proofs

theorem bytesV_take (t : Byts) (n : Nat) : (bytesV t).take n = bytesV (t.take n) := by simp [bytesV, List.map_take]
theorem bytesV_drop (t : Byts) (n : Nat) : (bytesV t).drop n = bytesV (t.drop n) := by simp [bytesV, List.map_drop]
theorem wpList_min_by {P : Program} {ops : Array Oper} {rest : List Oper} {o : Oper} {a : Act} {w : World} {Q : Exit → Act → World → Prop} (hgd : o.guard = none) (x y : Operand) (t1 t2 : TypeId) (ho : o.op = .call { callee := .builtin .min, args := #[x, y], argTypes := #[t1, t2] }) (m n k : Nat) (hx : a.eval x = .int .i64 m) (hy : a.eval y = .int .i64 n) (hk : k = min m n)
    (h : wpList P ops Q rest (a.put o.dst (.int .i64 k)) w) : wpList P ops Q (o :: rest) a w := by
  have hr := run_min_int2 (P := P) (w := w) #[t1, t2] o.type .i64 .i64 (m : Int) (n : Int)
  have hkk : (if (n : Int) < (m : Int) then (n : Int) else (m : Int)) = (k : Int) := by rw [hk]; split <;> omega
  rw [hkk] at hr
  refine wpList_plain hgd fun K hK => ?_
  unfold Oper.wp execOp
  simp only [ho, resolve, invoke, builtin, Sem.run_bind, Sem.run_pure, Result.andThen_ok, List.map_toArray, List.map_cons, List.map_nil, hx, hy, hr]
  exact hK _ _ h
theorem wpList_slice_by {P : Program} {ops : Array Oper} {rest : List Oper} {o : Oper} {a : Act} {w : World} {Q : Exit → Act → World → Prop} (hgd : o.guard = none) (t : TypeId) (x : Operand) (lo hi mx : Option Operand) (ho : o.op = .slice t x lo hi mx) (v : Value) (hr : (Instr.sliceAt t (a.eval x) (lo.map a.eval) (hi.map a.eval) (mx.map a.eval)).run P w = .ok v w)
    (h : wpList P ops Q rest (a.put o.dst v) w) : wpList P ops Q (o :: rest) a w := by
  refine wpList_plain hgd fun K hK => ?_
  unfold Oper.wp execOp
  simp only [ho, Sem.run_bind, Sem.run_pure, Result.andThen_ok, hr]
  exact hK _ _ h
theorem wpList_conv_by {P : Program} {ops : Array Oper} {rest : List Oper} {o : Oper} {a : Act} {w : World} {Q : Exit → Act → World → Prop} (hgd : o.guard = none) (s d : TypeId) (x : Operand) (ho : o.op = .convert s d x) (v : Value) (hr : (convert s d (a.eval x)).run P w = .ok v w)
    (h : wpList P ops Q rest (a.put o.dst v) w) : wpList P ops Q (o :: rest) a w := by
  refine wpList_plain hgd fun K hK => ?_
  unfold Oper.wp execOp
  simp only [ho, Sem.run_bind, Sem.run_pure, Result.andThen_ok, hr]
  exact hK _ _ h
end Go.Cm

/- The walks of the window that holds a text's last bytes. Conditions: the window is there. -/
namespace Go.Cm
open Go.RowKit Go.Proofs

/-- a window in block gw that holds the bytes b, its bytes a row from block B on -/
structure WinV (w : World) (B gw : Nat) (vb : Value) (b : Byts) : Prop where
  box : Own w B 88 (.slice (some ⟨gw, 0, none⟩) 2 2) [.bool true, vb]
  own : Own w B 5 vb (bytesV b)
  ne : vb.ownBlock ≠ some gw
theorem WinV.up {w w' : World} {B gw : Nat} {vb : Value} {b : Byts} (h : WinV w B gw vb b) (hb : Below w.heap.size w w') : WinV w' B gw vb b := ⟨h.box.up hb, h.own.up hb, h.ne⟩
theorem WinV.fx {S : Nat → Prop} {w w' : World} {B gw : Nat} {vb : Value} {b : Byts} (h : WinV w B gw vb b) (hf : Fx S w w') (h1 : ¬ S gw) (h2 : ∀ k, vb.ownBlock = some k → ¬ S k) : WinV w' B gw vb b :=
  ⟨hf.own h.box (fun k hk => by injection hk with hk; subst hk; exact h1), hf.own h.own h2, h.ne⟩
/-- .. of a text whose last bytes it holds -/
def WinAt (w : World) (B gw : Nat) (vb : Value) (H : Byts) : Prop := ∃ b, WinV w B gw vb b ∧ lastN b = lastN H ∧ b.length ≤ 131072
theorem WinAt.up {w w' : World} {B gw : Nat} {vb : Value} {H : Byts} (h : WinAt w B gw vb H) (hb : Below w.heap.size w w') : WinAt w' B gw vb H := by obtain ⟨b, h1, h2⟩ := h; exact ⟨b, h1.up hb, h2⟩
theorem WinAt.fx {S : Nat → Prop} {w w' : World} {B gw : Nat} {vb : Value} {H : Byts} (h : WinAt w B gw vb H) (hf : Fx S w w') (h1 : ¬ S gw) (h2 : ∀ k, vb.ownBlock = some k → ¬ S k) : WinAt w' B gw vb H := by obtain ⟨b, h3, h4⟩ := h; exact ⟨b, h3.fx hf h1 h2, h4⟩
/-- what a window's call may change -/
abbrev WFx (gw : Nat) (vb : Value) (w w' : World) : Prop := Fx (fun k => k = gw ∨ vb.ownBlock = some k) w w'
/-- the last m elements go to the front, the others go -/
theorem Own.trim {w : World} {B E q n cap m : Nat} {xs : List Value} (h : Own w B E (.slice (some ⟨q, 0, none⟩) n cap) xs) (hm : m ≤ n) :
    ∃ cur, w.heap[q]? = some (.cells cur E (0, 0)) ∧ (∀ (j : Nat) (v : Value), (xs.drop (n - m))[j]? = some v → w.cell? ((⟨q, n - m, none⟩ : Addr).add j) = some v) ∧ m ≤ cur.size ∧ (xs.drop (n - m)).length = m ∧
      Own (w.setRow q ((xs.drop (n - m)) ++ cur.toList.drop m).toArray) B E (.slice (some ⟨q, 0, none⟩) m cap) (xs.drop (n - m)) ∧ w.grownBy (w.setRow q ((xs.drop (n - m)) ++ cur.toList.drop m).toArray) (some q) := by
  have hl := h.len
  have hsm := h.2
  have hc : ∀ i, i < xs.length → w.cell? ⟨q, i, none⟩ = some (xs.getD i undef) := fun i hi => h.cell hi
  obtain ⟨⟨h0, h1⟩, -⟩ := h
  rcases h1 with ⟨e, -⟩ | ⟨g, cap', cur, e, hb, hg, hnc, hcm, hcs, htake⟩
  · cases e
  · injection e with e1 e2 e3
    injection e1 with e1
    injection e1 with e1
    subst e1
    subst e3
    subst hl
    have hdl : (xs.drop (xs.length - m)).length = m := by rw [List.length_drop]; omega
    refine ⟨cur, hg, fun j v hj => ?_, by omega, hdl, ⟨⟨by omega, .inr ⟨q, cap, _, by rw [hdl], hb, setRow_heap w q cur _ E _ hg, by omega, hcm, ?_, ?_⟩⟩, by omega⟩, ?_⟩
    · have hjl := (List.getElem?_eq_some_iff.1 hj).1
      rw [List.length_drop] at hjl
      rw [add_off, hc _ (by omega)]
      rw [List.getElem?_drop] at hj
      rw [List.getD_eq_getElem?_getD, hj]; rfl
    · simp only [List.size_toArray, List.length_append, List.length_drop, Array.length_toList]; omega
    · show List.take _ _ = _
      rw [show (xs.drop (xs.length - m)).length * 1 = (xs.drop (xs.length - m)).length by omega, List.take_append_of_le_length (Nat.le_refl _), List.take_length]
    · exact ⟨rfl, rfl, rfl, by simp [World.setRow], fun k hk hne => setRow_other w q k _ (fun e => hne (by rw [e]))⟩
/-- 'copy' to the front of the row itself -/
theorem wpList_copy_front {P : Program} {w : World} {ops : Array Oper} {rest : List Oper} {o : Oper} {a : Act} {Q : Exit → Act → World → Prop} (hgd : o.guard = none) (d s : Operand) (dT sT : TypeId)
    (ho : o.op = .call { callee := .builtin .copy, args := #[d, s], argTypes := #[dT, sT] }) (elem : TypeId) (hu : P.underlying dT = some (.slice elem)) (hsz : (P.info? elem).map (·.size) = some 1)
    (g dLen dCap : Nat) (ad : Addr) (sLen sCap : Nat) (hd : a.eval d = .slice (some ⟨g, 0, none⟩) dLen dCap) (hs : a.eval s = .slice (some ad) sLen sCap)
    (cur : Array Value) (t : TypeId) (hg : w.heap[g]? = some (.cells cur t (0, 0))) (cs : List Value) (m : Nat) (hm : cs.length = m) (hn : m = Nat.min sLen dLen)
    (hsrc : ∀ (j : Nat) (v : Value), cs[j]? = some v → w.cell? (ad.add j) = some v) (hfit : m ≤ cur.size) (h1 : ∀ v ∈ cs, v.oneCell' = true)
    (h : wpList P ops Q rest (a.put o.dst (.int .i64 (m : Nat))) (w.setRow g (cs ++ cur.toList.drop m).toArray)) : wpList P ops Q (o :: rest) a w := by
  subst hm
  refine wpList_copy_own hgd d s dT sT ho elem hu hsz g 0 dLen dCap ad sLen sCap hd hs cur t hg cs hn hsrc (by omega) h1 ?_
  simpa [goInt] using h
theorem thereWn {w : World} {B gw : Nat} {vb : Value} {b : Byts} (h : WinV w B gw vb b) : Calls Tryz.prog 40 #[.pointer (some ⟨gw, 0, none⟩)] w fun e w' => e = .returned (.bool true) ∧ w' = w := by
  have c0 : w.cell? ⟨gw, 0, none⟩ = some (.bool true) := h.box.cell (by simp)
  go_enter Tryz.func40, Tryz.ntmps40
  go_wp2
  go_ret
  exact ⟨rfl, rfl⟩
theorem lenWn {w : World} {B gw : Nat} {vb : Value} {H : Byts} (h : WinAt w B gw vb H) : Calls Tryz.prog 66 #[.pointer (some ⟨gw, 0, none⟩)] w fun e w' => e = .returned (.int .i64 (min H.length 32768 : Nat)) ∧ w' = w := by
  obtain ⟨b, hV, hl, hm⟩ := h
  have HT := Lib.hid (thereWn hV)
  obtain ⟨oa, cap, q, hv, hd, -⟩ := hV.own.cases
  rw [bytesV_length] at hv hd
  have c1 : w.cell? ⟨gw, 1, none⟩ = some vb := hV.box.cell (by simp)
  subst hv
  obtain ⟨k, hk⟩ : ∃ k, k = min H.length 32768 := ⟨_, rfl⟩
  have hk2 : k = min b.length 32768 := by rw [hk, ← lastN_min hl]
  rw [← hk]
  have HK := Lib.hid hk2
  clear hk hk2 hd hl
  go_enter Tryz.func66, Tryz.ntmps66
  go_wp2_with (first | ((with_reducible go_at_call 40); (with_reducible refine HT.out.mono ?_); rintro e w' ⟨rfl, hw⟩; subst hw) | ((with_reducible show wpList _ _ _ (Oper.mk _ (.call _) _ _ _ _ :: _) _ _); refine wpList_min_by rfl (.tmp 10) (.const (.int .i64 32768)) 3 3 rfl b.length 32768 k rfl rfl HK.out ?_))
  go_ret
  exact ⟨rfl, rfl⟩
set_option maxRecDepth 100000 in
set_option maxHeartbeats 1000000 in
theorem trimWn {w : World} {B gw : Nat} {vb : Value} {b : Byts} (h : WinV w B gw vb b) (hlen : b.length ≤ 100000000) : Calls Tryz.prog 54 #[.pointer (some ⟨gw, 0, none⟩)] w fun e w' => e = .returned (.tuple #[]) ∧ ∃ vb', WinAt w' B gw vb' b ∧ vb'.ownBlock = vb.ownBlock ∧ WFx gw vb w w' := by
  have c1 : w.cell? ⟨gw, 1, none⟩ = some vb := h.box.cell (by simp)
  have f1 := h.box.free 1
  have hgw := h.box.blk.2
  by_cases hbig : 131072 < b.length
  · have HV := Lib.hid h
    obtain ⟨oa, cap, q, hv, hd, ho, -⟩ := h.own.cases
    rw [bytesV_length] at hv hd ho
    have hoa := hd.hat (by omega)
    subst hoa
    have hcap := hd.hcap
    have hm := hd.len
    subst hv
    have hqb := (h.own.blk).2
    have hne : gw ≠ q := fun e => h.ne (by rw [e]; rfl)
    have hbi : (b.length : Int) > 131072 := by omega
    obtain ⟨n0, hn0⟩ : ∃ n0, n0 = b.length - 32768 := ⟨_, rfl⟩
    have hni : (b.length : Int) - 32768 = (n0 : Nat) := by omega
    have HT := Lib.hid ((h.up (below_drewN w 1)).own.trim (m := 32768) (by omega))
    rw [← World.drew_is_drewN, ← hn0, bytesV_drop] at HT
    have HN0 := Lib.hid hn0
    have HLB : Hid (lastN (b.drop n0) = lastN b ∧ (b.drop n0).length ≤ 131072) := Lib.hid ⟨lastN_drop (by omega), by rw [List.length_drop]; omega⟩
    have hsl : ∀ W : World, (Instr.sliceAt 54 (.slice (some ⟨q, 0, none⟩) b.length cap) (some (.int .i64 (n0 : Int))) none none).run Tryz.prog W = .ok (.slice (some ⟨q, n0, none⟩) 32768 (cap - n0)) W := fun W => by
      obtain ⟨h1, h2⟩ := run_cut (P := Tryz.prog) 54 5 Tryz.underlying54 (by kernel_rfl)
      rw [run_sliceAt_slice (P := Tryz.prog) (t := 54) (h := h1), run_slice_l (t := 54) (ht := h1) (h0 := by omega) (h1 := by omega), h2]
      simp only [Result.andThen]
      unfold sliced
      rw [Int.toNat_natCast, if_neg (by omega), show b.length - n0 = 32768 by omega]
      simp [add_off]
    have hs2 : ∀ W : World, (Instr.sliceAt 54 (.slice (some ⟨q, 0, none⟩) b.length cap) none (some (.int .i64 ((32768 : Nat) : Int))) none).run Tryz.prog W = .ok (.slice (some ⟨q, 0, none⟩) 32768 cap) W := fun W => by
      obtain ⟨h1, h2⟩ := run_cut (P := Tryz.prog) 54 5 Tryz.underlying54 (by kernel_rfl)
      rw [run_sliceAt_slice (P := Tryz.prog) (t := 54) (h := h1), run_slice_h (t := 54) (ht := h1) (h0 := by omega) (h2 := by omega), h2]
      simp only [Result.andThen]
      unfold sliced
      rw [Int.toNat_natCast, if_neg (by omega)]
      simp [add_off]
    have HS2 := Lib.hid hs2
    clear h hd ho hbig hn0 hs2
    go_enter Tryz.func54, Tryz.ntmps54
    go_wp2
    refine wp_region_tail (fun w' => ∃ x, w' = ext w x) [0,1,2,3,4,5,6,7,8,9,10,11,12,13,14] [] [15,16] (by kernel_rfl) (by kernel_rfl) (ex_ext (below_drewN w 1)) ?_
    simp only [pick, List.map_cons, List.map_nil, List.getD_cons_zero, List.getD_cons_succ]
    repeat (go_big_quiet_step (fail))
    refine wpQuiet_nil ?_
    obtain ⟨cur, hrow, hsrc, hcs, hdl, hnew, hgr⟩ := HT.out
    have HRW := Lib.hid hrow
    have HSR := Lib.hid hsrc
    have HCS := Lib.hid hcs
    have HDL := Lib.hid hdl
    have HNW := Lib.hid hnew
    have HGR := Lib.hid hgr
    clear hrow hsrc hcs hdl hnew hgr HT
    unfold wpAct
    unfold wpAct
    go_wp2_with ((refine wpList_copy_front rfl (.tmp 12) (.tmp 23) 54 54 rfl 5 Tryz.underlying54 (by kernel_rfl) q b.length cap ⟨q, n0, none⟩ 32768 (cap - n0) rfl rfl cur 5 HRW.out (bytesV (b.drop n0)) 32768 HDL.out (Nat.min_eq_left (by omega)).symm HSR.out HCS.out (bytesV_one _) ?_))
    refine ⟨trivial, ?_⟩
    have HBX := Lib.hid ((HV.out.box.up (below_drewN w 1)))
    rw [← World.drew_is_drewN] at HBX
    have HB2 := Lib.hid (HBX.out.keep HGR.out (.inr (fun e => hne (by injection e))))
    have HNW2 := HNW
    have HF2 : Hid (WFx gw (.slice (some ⟨q, 0, none⟩) b.length cap) w (w.drew.setRow q (bytesV (b.drop n0) ++ cur.toList.drop 32768).toArray)) := Lib.hid (by
      have h1 : w.grownBy w.drew none := grown_drew w none
      exact (fx_grown h1 (by intro k e; cases e)).grown HGR.out (fun k e => .inl (.inr (by rw [← e]; rfl))))
    generalize w.drew.setRow q (bytesV (b.drop n0) ++ cur.toList.drop 32768).toArray = w2 at *
    have c1 : w2.cell? ⟨gw, 1, none⟩ = some (.slice (some ⟨q, 0, none⟩) b.length cap) := HB2.out.cell (by simp)
    have f1 := HB2.out.free 1
    have hgw := HB2.out.blk.2
    have hs2 := HS2.out
    have HST := Lib.hid (HB2.out.store 1 (.slice (some ⟨q, 0, none⟩) 32768 cap))
    clear HV HSR HRW HCS HDL HGR HNW HBX hsl HS2
    (unfold wpAct; go_wp2; refine ⟨trivial, ?_⟩)
    unfold wpAct
    go_wp2
    go_end0
    have hqg : (Value.slice (some ⟨q, 0, none⟩) 32768 cap).ownBlock ≠ some gw := fun e => hne (by injection e with e; exact e.symm)
    exact ⟨rfl, _, ⟨b.drop n0, ⟨by simpa using HST.out.1, HNW2.out.keep HST.out.2 (.inr hqg), hqg⟩, HLB.out.1, HLB.out.2⟩, rfl, HF2.out.grown HST.out.2 (fun k e => .inl (.inl (by injection e with e; exact e.symm)))⟩
  · have hbi : ¬ (b.length : Int) > 131072 := by omega
    obtain ⟨oa, cap, q, hv, hd, -⟩ := h.own.cases
    rw [bytesV_length] at hv hd
    have hm := hd.len
    have HA : Hid (WinAt w B gw vb b) := Lib.hid ⟨b, h, rfl, by omega⟩
    clear h hd
    subst hv
    go_enter Tryz.func54, Tryz.ntmps54
    go_wp2
    go_end0
    exact ⟨rfl, _, HA.out, rfl, Fx.refl _ _⟩
theorem WinV.push {w w5 : World} {B gw : Nat} {vb v' : Value} {b c : Byts} (h : WinV w B gw vb b) (hown : Own w5 B 5 v' (bytesV b ++ bytesV c)) (hg : w.grownBy w5 vb.ownBlock) (hk : ∀ k, v'.ownBlock = some k → vb.ownBlock = some k ∨ w.heap.size ≤ k) :
    WinV (w5.setCell ⟨gw, 1, none⟩ v') B gw v' (b ++ c) ∧ WFx gw vb w (w5.setCell ⟨gw, 1, none⟩ v') := by
  have hbx := h.box.keep hg (.inr (fun e => h.ne e.symm))
  have hst := hbx.store 1 v'
  have hne : v'.ownBlock ≠ some gw := fun e => by
    rcases hk gw e with h1 | h1
    · exact h.ne h1
    · have := h.box.blk.2; omega
  refine ⟨⟨by simpa using hst.1, ?_, hne⟩, (fx_grown hg (fun k e => .inr e)).grown hst.2 (fun k e => .inl (.inl (by injection e with e; exact e.symm)))⟩
  rw [bytesV_append]
  exact hown.keep hst.2 (.inr hne)
theorem WFx.next {gw : Nat} {vb vb' : Value} {w w1 w2 : World} (h : WFx gw vb w w1) (hk : ∀ k, vb'.ownBlock = some k → vb.ownBlock = some k ∨ w.heap.size ≤ k) (k : WFx gw vb' w1 w2) : WFx gw vb w w2 :=
  ⟨k.os.trans h.os, k.tape.trans h.tape, k.output.trans h.output, Nat.le_trans h.size k.size, fun i hi h1 => by
    rw [k.block i (Nat.lt_of_lt_of_le hi h.size) (fun e => ?_), h.block i hi h1]
    rcases e with e | e
    · exact h1 (.inl e)
    · rcases hk i e with h2 | h2
      · exact h1 (.inr h2)
      · omega⟩
set_option maxRecDepth 100000 in
set_option maxHeartbeats 1000000 in
theorem putWn {w : World} {B gw : Nat} {vb : Value} {H : Byts} (h : WinAt w B gw vb H) (hB : B ≤ w.heap.size) (s : ByteArray) (hs : s.size ≤ 50000000) : Calls Tryz.prog 35 #[.pointer (some ⟨gw, 0, none⟩), .string s] w fun e w' => e = .returned (.tuple #[]) ∧ ∃ vb', WinAt w' B gw vb' (H ++ bys s) ∧ (∀ k, vb'.ownBlock = some k → vb.ownBlock = some k ∨ w.heap.size ≤ k) ∧ WFx gw vb w w' := by
  obtain ⟨b, hV, hl, hm⟩ := h
  have HT := Lib.hid (thereWn hV)
  have HV := Lib.hid hV
  have c1 : w.cell? ⟨gw, 1, none⟩ = some vb := hV.box.cell (by simp)
  have f1 := hV.box.free 1
  have hgw := hV.box.blk.2
  have HL := Lib.hid hl
  have HB := Lib.hid hB
  have HLN : Hid ((bytesV b).length + s.size ≤ 4294967296) := Lib.hid (by rw [bytesV_length]; omega)
  have HLM : Hid ((b ++ s.data.toList).length ≤ 100000000) := Lib.hid (by rw [List.length_append]; have := bys_len s; unfold bys at this; omega)
  clear hV hl hB hm hs
  go_enter Tryz.func35, Tryz.ntmps35
  go_wp2_with (first | ((with_reducible go_at_call 40); (with_reducible refine HT.out.mono ?_); rintro e w' ⟨rfl, hw⟩; subst hw) | (at_builtin; go_loud (refine wpList_app_str rfl (.tmp 10) (.tmp 11) 54 9 rfl B 5 (.int .u8 0) 1 Tryz.underlying54 Tryz.underlying9 (by kernel_rfl) rfl (by decide) vb (bytesV b) rfl HV.out.own s rfl HLN.out HB.out ?_); intro v' w5 hown1 hg1 hk1; obtain ⟨hW, hF⟩ := HV.out.push hown1 hg1 hk1; have hb5 := HV.out.box.keep hg1 (.inr (fun e => HV.out.ne e.symm)); have c5 : w5.cell? ⟨gw, 1, none⟩ = some vb := hb5.cell (by simp); have f5 := hb5.free 1; have g5 := hb5.blk.2; obtain ⟨o5, k5, q5, hv5, -⟩ := hown1.cases; obtain ⟨l5, hl5⟩ : ∃ l5, l5 = (bytesV b ++ bytesV s.data.toList).length := ⟨_, rfl⟩; rw [← hl5] at hv5; subst hv5; have HW := Lib.hid hW; have HF := Lib.hid hF; have HK := Lib.hid hk1; clear hown1 hg1 hk1 hb5 hl5 hW hF) | ((with_reducible go_at_call 54); (with_reducible refine (trimWn HW.out HLM.out).mono ?_); rintro e w7 ⟨rfl, v7, hw7, ho7, hf7⟩; have HW7 := Lib.hid hw7; have HO7 := Lib.hid ho7; have HF7 := Lib.hid hf7; clear hw7 ho7 hf7))
  go_end0
  obtain ⟨b7, h1, h2, h3⟩ := HW7.out
  refine ⟨rfl, v7, ⟨b7, h1, h2.trans (lastN_app2 HL.out _), h3⟩, fun k e => HK.out k (by rw [← HO7.out]; exact e), HF.out.next HK.out HF7.out⟩
end Go.Cm

/- The walks of the window: a new one, a copy, the last bytes, a twin. Conditions: the window is there. -/
namespace Go.Cm
open Go.RowKit Go.Proofs

theorem WinV.B {w : World} {B gw : Nat} {vb : Value} {b : Byts} (h : WinV w B gw vb b) : B ≤ gw ∧ gw < w.heap.size := h.box.blk
/-- a new window -/
theorem newWn (s : ByteArray) (hs : s.size ≤ 50000000) (w : World) : Calls Tryz.prog 23 #[.string s] w fun e w' => ∃ gw vb, e = .returned (.pointer (some ⟨gw, 0, none⟩)) ∧ WinAt w' w.heap.size gw vb (bys s) ∧ w.heap.size ≤ gw ∧ gw < w'.heap.size ∧ Below w.heap.size w w' := by
  have hw1 : WinAt (w.alloc (.cells #[.bool true, .slice none 0 0] 88)) w.heap.size w.heap.size (.slice none 0 0) [] := by
    have h := own_lit w w.heap.size #[.bool true, .slice none 0 0] 88 (by simp) (Nat.le_refl _)
    exact ⟨[], ⟨by simpa using h, Own.nil _ _ _, by simp [Value.ownBlock]⟩, rfl, by simp⟩
  have HP := Lib.hid (putWn hw1 (below_alloc w _).size s hs)
  have HA := Lib.hid (below_alloc w (.cells #[.bool true, .slice none 0 0] 88))
  clear hw1
  go_enter Tryz.func23, Tryz.ntmps23
  go_wp2_with (first | ((with_reducible go_at_call 35); (with_reducible refine HP.out.mono ?_); rintro e w7 ⟨rfl, v7, hw7, ho7, hf7⟩; have HW7 := Lib.hid hw7; have HO7 := Lib.hid ho7; have HF7 := Lib.hid hf7; clear hw7 ho7 hf7))
  go_ret
  refine ⟨_, v7, rfl, by simpa using HW7.out, Nat.le_refl _, ?_, ?_⟩
  · obtain ⟨b, h, -⟩ := HW7.out
    exact h.B.2
  · exact HF7.out.below HA.out HA.out.size (fun k e => by
      rcases e with e | e
      · omega
      · simp [Value.ownBlock] at e)
/-- what a copy answers -/
def RetCopy (B gw : Nat) (vb : Value) (H : Byts) (d n : Nat) (w : World) (e : Ending) (w' : World) : Prop :=
  if min H.length 32768 < d then e = .returned (.tuple #[.string ⟨#[]⟩, .int .i64 10]) ∧ w' = w
  else ∃ c vb', e = .returned (.tuple #[.string ⟨c.toArray⟩, .int .i64 0]) ∧ copyN H d n = H ++ c ∧ c.length = n ∧ WinAt w' B gw vb' (H ++ c) ∧ (∀ k, vb'.ownBlock = some k → vb.ownBlock = some k ∨ w.heap.size ≤ k) ∧ WFx gw vb w w'
set_option maxRecDepth 100000 in
set_option maxHeartbeats 4000000 in
theorem copyWn {w : World} {B gw : Nat} {vb : Value} {H : Byts} (h : WinAt w B gw vb H) (hB : B ≤ w.heap.size) (d n : Nat) (hd1 : 1 ≤ d) (hd2 : d ≤ 40000) (hn : n ≤ 65536) : Calls Tryz.prog 99 #[.pointer (some ⟨gw, 0, none⟩), .int .i64 (d : Nat), .int .i64 (n : Nat)] w (RetCopy B gw vb H d n w) := by
  have HL0 := Lib.hid (lenWn h)
  obtain ⟨b, hV, hl, hm⟩ := h
  have HT := Lib.hid (thereWn hV)
  have HV := Lib.hid hV
  have HL := Lib.hid hl
  have HB := Lib.hid hB
  have HN := Lib.hid hn
  have hn1 : decide ((n : Int) < 0) = false := by rw [decide_eq_false_iff_not]; omega
  have hn2 : decide ((n : Int) > 65536) = false := by rw [decide_eq_false_iff_not]; omega
  have hd3 : decide ((d : Int) < 1) = false := by rw [decide_eq_false_iff_not]; omega
  unfold RetCopy
  by_cases hbig : min H.length 32768 < d
  · simp only [if_pos hbig]
    generalize min H.length 32768 = k at *
    have hbi : (d : Int) > (k : Int) := by omega
    clear hV hl hB hn hd2 hm hbig
    go_enter Tryz.func99, Tryz.ntmps99
    go_wp2_with (first | ((with_reducible go_at_call 40); (with_reducible refine HT.out.mono ?_); rintro e w' ⟨rfl, hw⟩; rw [hw]; clear hw) | ((with_reducible go_at_call 66); (with_reducible refine HL0.out.mono ?_); rintro e w' ⟨rfl, hw⟩; rw [hw]; clear hw))
    go_ret2
    exact ⟨rfl, rfl⟩
  · simp only [if_neg hbig]
    have hdH : d ≤ H.length ∧ d ≤ 32768 := by omega
    have hdb : d ≤ b.length := by have := lastN_min hl; omega
    obtain ⟨C, hc1, hc2, hc3⟩ := copy_same hl hd1 hdH.1 hdH.2 n
    have HC1 := Lib.hid hc1
    have HC2 := Lib.hid hc2
    have HC3 := Lib.hid hc3
    have HDB := Lib.hid hdb
    have HM := Lib.hid hm
    generalize min H.length 32768 = k at *
    have hbi : decide (k < d) = false := by rw [decide_eq_false_iff_not]; omega
    obtain ⟨o0, k0, q0, hv0, -⟩ := hV.own.cases
    rw [bytesV_length] at hv0
    have c1 : w.cell? ⟨gw, 1, none⟩ = some vb := hV.box.cell (by simp)
    have hgw := hV.box.blk.2
    have HVB := Lib.hid hv0
    rw [hv0] at c1
    clear hV hl hB hdb hdH hbig hc1 hc2 hc3 hm hv0 hn hd2
    go_enter Tryz.func99, Tryz.ntmps99
    go_wp2_with (first | ((with_reducible go_at_call 40); (with_reducible refine HT.out.mono ?_); rintro e w' ⟨rfl, hw⟩; rw [hw]; clear hw) | ((with_reducible go_at_call 66); (with_reducible refine HL0.out.mono ?_); rintro e w' ⟨rfl, hw⟩; rw [hw]; clear hw))
    go_loopg [9] (n + 1) (fun gk lv wr => ∃ (i : Nat) (vi : Value), lv = .int .i64 ((n - i : Nat) : Int) ∧ i ≤ n ∧ WinV wr B gw vi (copyN b d i) ∧ (∀ k, vi.ownBlock = some k → vb.ownBlock = some k ∨ w.heap.size ≤ k) ∧ WFx gw vb w wr ∧ gk = n - i + 1)
    case atStart => exact ⟨0, vb, rfl, Nat.zero_le _, HV.out, fun k e => .inl e, Fx.refl _ _, rfl⟩
    case round =>
      obtain ⟨i, vi, rfl, hi, hvi, hki, hfi, rfl⟩ := hrel
      have HVI := Lib.hid hvi
      have HKI := Lib.hid hki
      have HFI := Lib.hid hfi
      have HSZ : Hid (B ≤ wr.heap.size) := Lib.hid (Nat.le_trans HB.out hfi.size)
      obtain ⟨ci, hci1, hci2⟩ := copyN_app b d i
      have hxl : (copyN b d i).length = b.length + i := by rw [hci1, List.length_append, hci2]
      obtain ⟨ox, kx, qx, hvx, hdx, -⟩ := hvi.own.cases
      rw [bytesV_length] at hvx hdx
      have hmx := hdx.len
      have c1 : wr.cell? ⟨gw, 1, none⟩ = some vi := hvi.box.cell (by simp)
      have f1 := hvi.box.free 1
      have g1 := hvi.box.blk.2
      have HPC : Hid (∀ m, m ≤ d → m ≤ n - i → copyN b d (i + m) = copyN b d i ++ ((copyN b d i).drop ((copyN b d i).length - d)).take m) := Lib.hid (fun m h1 _ => by
        rw [copyN_add, copy_piece (by rw [hxl]; have := HDB.out; omega) m h1])
      have hdx' : d ≤ (copyN b d i).length := by rw [hxl]; have := HDB.out; omega
      have HXL : Hid ((copyN b d i).length ≤ 131072 + 65536) := Lib.hid (by rw [hxl]; have := HM.out; have := HN.out; omega)
      clear hki hfi hci1 hci2 hxl
      obtain ⟨x, hx⟩ : ∃ x, x = copyN b d i := ⟨_, rfl⟩
      rw [← hx] at HPC hdx' hvi HVI hvx hdx hmx HXL
      have HX := Lib.hid hx
      clear hx
      subst hvx
      by_cases hlt : i < n
      · obtain ⟨r, hr⟩ : ∃ r, r = n - i := ⟨_, rfl⟩
        rw [← hr] at HPC ⊢
        have hr0 : 0 < r := by omega
        obtain ⟨n1, hn1⟩ : ∃ n1, n1 = x.length - d := ⟨_, rfl⟩
        have hni : (x.length : Int) - (d : Int) = (n1 : Nat) := by omega
        obtain ⟨m, hm⟩ : ∃ m, m = min r d := ⟨_, rfl⟩
        have hm2 : m ≤ r := by omega
        obtain ⟨u, hu, huS⟩ := hvi.own.sl.high (P := Tryz.prog) 54 5 Tryz.underlying54 (by kernel_rfl) n1 (by rw [bytesV_length]; omega)
        rw [bytesV_drop] at huS
        obtain ⟨u2, hu2, hu2S⟩ := huS.low (P := Tryz.prog) 54 5 Tryz.underlying54 (by kernel_rfl) m (by rw [bytesV_length, List.length_drop]; omega)
        rw [bytesV_take] at hu2S
        have hpl : ((x.drop n1).take m).length = m := by rw [List.length_take, List.length_drop]; omega
        obtain ⟨o2, k2, b2, f2, hv2, hd2, -⟩ := id hu2S
        rw [bytesV_length, hpl] at hv2 hd2
        have hml := hd2.len
        have HSL := Lib.hid hu2S
        obtain ⟨ou, ku, bu, fu, hvu, -⟩ := id huS
        rw [bytesV_length, List.length_drop, show x.length - n1 = d by omega] at hvu
        have HE : Hid (x ++ (x.drop n1).take m = copyN b d (i + m)) := Lib.hid (by rw [hn1]; exact (HPC.out m (by omega) hm2).symm)
        have HLP : Hid ((bytesV x).length + (bytesV ((x.drop n1).take m)).length ≤ 4294967296) := Lib.hid (by rw [bytesV_length, bytesV_length, hpl]; have := HXL.out; have := HN.out; omega)
        have HMM := Lib.hid hm
        have hrm : (r : Int) - (m : Int) = ((r - m : Nat) : Int) := by omega
        have HM1 : Hid (1 ≤ m) := Lib.hid (by omega)
        have HR := Lib.hid hr
        have HPL := Lib.hid hpl
        clear hu2S huS hdx hd2 HPC hn1 hm hr hpl hvi hdx'
        subst hv2
        subst hvu
        have HU2 := Lib.hid hu2
        clear hu2
        go_wp2_with (fail)
        refine wp_region_ext (by kernel_rfl) (by kernel_rfl) ?_
        repeat (go_big_quiet_step (fail))
        refine wpQuiet_nil ?_
        rintro w1 ⟨y, rfl⟩
        have HB1 := Lib.hid (ext_below wr y)
        have HV1 := Lib.hid (HVI.out.up HB1.out)
        have HS1 := Lib.hid (HSL.out.up HB1.out)
        have HZ1 : Hid (B ≤ (ext wr y).heap.size) := Lib.hid (Nat.le_trans HSZ.out HB1.out.size)
        generalize ext wr y = w1 at *
        have c1 : w1.cell? ⟨gw, 1, none⟩ = some (.slice ox x.length kx) := HV1.out.box.cell (by simp)
        have g1 := HV1.out.box.blk.2
        go_wp2_with (first | ((with_reducible show wpList _ _ _ (Oper.mk _ (.call _) _ _ _ _ :: _) _ _); refine wpList_min_by rfl (.tmp 54) (.tmp 55) 3 3 rfl r d m rfl rfl HMM.out ?_) | ((with_reducible show wpList _ _ _ (Oper.mk _ (.slice _ _ _ _ _) _ _ _ _ :: _) _ _); refine wpList_slice_by rfl 54 (.tmp 53) none (some (.tmp 56)) none rfl _ (HU2.out _) ?_) | (at_builtin; go_loud (refine wpList_app rfl (.tmp 62) (.tmp 63) 54 rfl B 5 (.int .u8 0) 1 Tryz.underlying54 (by kernel_rfl) rfl (by decide) _ (bytesV x) rfl HV1.out.own _ _ rfl HS1.out (bytesV_one _) HLP.out HZ1.out ?_); intro v' w5 hown1 hg1 hk1; obtain ⟨hW, hF⟩ := HV1.out.push hown1 hg1 hk1; have hb5 := HV1.out.box.keep hg1 (.inr (fun e => HV1.out.ne e.symm)); have c5 : w5.cell? ⟨gw, 1, none⟩ = some (.slice ox x.length kx) := hb5.cell (by simp); have f5 := hb5.free 1; have g5 := hb5.blk.2; obtain ⟨o5, k5, q5, hv5, -⟩ := hown1.cases; obtain ⟨l5, hl5⟩ : ∃ l5, l5 = (bytesV x ++ bytesV ((x.drop n1).take m)).length := ⟨_, rfl⟩; rw [← hl5] at hv5; subst hv5; have HW := Lib.hid hW; have HF := Lib.hid hF; have HK := Lib.hid hk1; clear hown1 hg1 hk1 hb5 hl5 hW hF))
        have hNI : n - (i + m) = r - m := by have := HR.out; omega
        have hr6 : r - m ≤ 100000 := by have := HR.out; have := HN.out; omega
        have HW2 : Hid (WinV (w5.setCell ⟨gw, 1, none⟩ (.slice o5 l5 k5)) B gw (.slice o5 l5 k5) (copyN b d (i + m))) := Lib.hid (by rw [← HE.out]; exact HW.out)
        have HKK : Hid (∀ k, (Value.slice o5 l5 k5).ownBlock = some k → vb.ownBlock = some k ∨ w.heap.size ≤ k) := Lib.hid (fun k e => by
          rcases HK.out k e with h | h
          · exact HKI.out k h
          · exact .inr (Nat.le_trans HFI.out.size (Nat.le_trans HB1.out.size h)))
        have HFF : Hid (WFx gw vb w (w5.setCell ⟨gw, 1, none⟩ (.slice o5 l5 k5))) := Lib.hid (HFI.out.next HKI.out ((fx_below HB1.out).trans (HF.out.mono (fun k hk => hk))))
        have hmm := HM1.out
        have HE64 : Hid (wrap64 ((r - m : Nat) : Int) = ((n - (i + m) : Nat) : Int)) := Lib.hid (by rw [hNI, IntWalk.wrap64_in _ ⟨by omega, by omega⟩])
        go_roundg (n - (i + m) + 1)
        case measure => have := HR.out; omega
        case rel => exact ⟨i + m, _, by rw [HE64.out], by have := HR.out; omega, HW2.out, HKK.out, HFF.out, rfl⟩
      · obtain rfl : i = n := by omega
        have HCX : Hid (x = b ++ C) := Lib.hid (by rw [HX.out, HC1.out])
        obtain ⟨u, hu, huS⟩ := hvi.own.sl.high (P := Tryz.prog) 54 5 Tryz.underlying54 (by kernel_rfl) b.length (by rw [bytesV_length, HCX.out, List.length_append]; omega)
        rw [bytesV_drop, show x.drop b.length = C by rw [HCX.out, List.drop_left]] at huS
        have HCV := Lib.hid (run_bytes_string (P := Tryz.prog) wr 54 9 5 Tryz.underlying54 Tryz.underlying5 Tryz.underlying9 u C huS)
        have HU := Lib.hid hu
        have HTR := Lib.hid (trimWn HVI.out (by have := HXL.out; omega))
        have hz : ((i - i : Nat) : Int) = 0 := by rw [Nat.sub_self]; rfl
        rw [hz]
        clear hu huS hvi hdx HPC hdx'
        go_wp2_with (first | ((with_reducible show wpList _ _ _ (Oper.mk _ (.slice _ _ _ _ _) _ _ _ _ :: _) _ _); refine wpList_slice_by rfl 54 (.tmp 74) (some (.tmp 75)) none none rfl _ (HU.out _) ?_) | ((with_reducible show wpList _ _ _ (Oper.mk _ (.convert _ _ _) _ _ _ _ :: _) _ _); refine wpList_conv_by rfl 54 9 (.tmp 76) rfl _ HCV.out ?_) | ((with_reducible go_at_call 54); (with_reducible refine HTR.out.mono ?_); rintro e w7 ⟨rfl, v7, hw7, ho7, hf7⟩; have HW7 := Lib.hid hw7; have HO7 := Lib.hid ho7; have HF7 := Lib.hid hf7; clear hw7 ho7 hf7))
        go_ret2
        obtain ⟨b7, h1, h2, h3⟩ := HW7.out
        refine ⟨C, v7, rfl, HC2.out, HC3.out, ⟨b7, h1, h2.trans (by rw [HCX.out]; exact lastN_app2 HL.out _), h3⟩, fun k e => HKI.out k (by rw [← HO7.out]; exact e), HFI.out.next HKI.out HF7.out⟩
end Go.Cm

/- The walks of the window's last bytes, and of its twin; of a reader's bytes. Conditions: they are there. -/
namespace Go.Cm
open Go.RowKit Go.Proofs

theorem quiet_conv {P : Program} {C : World → Prop} {o : Oper} {a : Act} {K : Act → Prop} (s d : TypeId) (x : Operand) (ho : o.op = .convert s d x) (v : Value) (hr : ∀ w', C w' → (convert s d (a.eval x)).run P w' = .ok v w') (h : K (a.put o.dst v)) : o.quiet P a C K := by
  refine ⟨v, fun w' hw' => ?_, h⟩
  unfold Oper.quietAt execOp
  simp only [ho, Sem.run_bind, Sem.run_pure, Result.andThen_ok, hr w' hw', Oper.quietUpon]
  exact ⟨trivial, trivial⟩
theorem quiet_min {P : Program} {C : World → Prop} {o : Oper} {a : Act} {K : Act → Prop} (x y : Operand) (t1 t2 : TypeId) (ho : o.op = .call { callee := .builtin .min, args := #[x, y], argTypes := #[t1, t2] }) (m n k : Nat) (hx : a.eval x = .int .i64 m) (hy : a.eval y = .int .i64 n) (hk : k = min m n) (h : K (a.put o.dst (.int .i64 k))) : o.quiet P a C K := by
  refine ⟨.int .i64 k, fun w' _ => ?_, h⟩
  have hr := run_min_int2 (P := P) (w := w') #[t1, t2] o.type .i64 .i64 (m : Int) (n : Int)
  have hkk : (if (n : Int) < (m : Int) then (n : Int) else (m : Int)) = (k : Int) := by rw [hk]; split <;> omega
  rw [hkk] at hr
  unfold Oper.quietAt execOp
  simp only [ho, resolve, invoke, builtin, Sem.run_bind, Sem.run_pure, Result.andThen_ok, List.map_toArray, List.map_cons, List.map_nil, hx, hy, hr, Oper.quietUpon]
  exact ⟨trivial, trivial⟩
theorem quiet_slice {P : Program} {C : World → Prop} {o : Oper} {a : Act} {K : Act → Prop} (t : TypeId) (x : Operand) (lo hi mx : Option Operand) (ho : o.op = .slice t x lo hi mx) (v : Value) (hr : ∀ w', C w' → (Instr.sliceAt t (a.eval x) (lo.map a.eval) (hi.map a.eval) (mx.map a.eval)).run P w' = .ok v w') (h : K (a.put o.dst v)) : o.quiet P a C K := by
  refine ⟨v, fun w' hw' => ?_, h⟩
  unfold Oper.quietAt execOp
  simp only [ho, Sem.run_bind, Sem.run_pure, Result.andThen_ok, hr w' hw', Oper.quietUpon]
  exact ⟨trivial, trivial⟩
end Go.Cm

/- The walks of the program's symbols of lengths and distances. Conditions: none. -/
namespace Go.Cm
open Go.RowKit Go.Proofs

def z30 : Array Value := (ints (List.replicate 30 0)).toArray
theorem zero_30 (W : World) : (zeroValue 150).run Tryz.prog W = .ok (.agg z30) W := by kernel_rfl
theorem z30_list : z30.toList = ints (nls (List.replicate 30 0)) := rfl
theorem box30 (w : World) (A : Array Value) (hA : A = z30) : BoxA (w.alloc (.cells A 150)) 150 30 w.heap.size (nls (List.replicate 30 0)) := by
  subst hA
  exact boxA_new w 150 z30 (nls (List.replicate 30 0)) z30_list (by decide)
/-- the bases, as far as they have been laid -/
def basL (base each k : Nat) : List Nat := (List.range 30).map fun i => if i < k then spBase base each i else 0
theorem basL_len (base each k : Nat) : (basL base each k).length = 30 := by simp [basL]
theorem basL_getD (base each k i : Nat) (h : i < 30) : (basL base each k).getD i 0 = if i < k then spBase base each i else 0 := by simp [basL, List.getD, h]
theorem basL_zero (base each : Nat) : basL base each 0 = List.replicate 30 0 := by simp [basL, List.map_const']
theorem basL_set (base each k : Nat) : (basL base each k).set k (spBase base each k) = basL base each (k + 1) := by
  refine List.ext_getElem (by simp [basL]) fun i h1 h2 => ?_
  simp only [basL, List.length_set, List.length_map, List.length_range] at h1
  simp only [basL, List.getElem_set, List.getElem_map, List.getElem_range]
  by_cases h : k = i
  · subst h; rw [if_pos rfl, if_pos (by omega)]
  · rw [if_neg h]
    by_cases h3 : i < k
    · rw [if_pos h3, if_pos (by omega)]
    · rw [if_neg h3, if_neg (by omega)]
def kdV4 : Array Value := #[.int .i64 257, .int .i64 28, .int .i64 3, .int .i64 4]
theorem kd4 (w : World) : Calls Tryz.prog 102 #[] w fun e w' => e = .returned (.agg kdV4) ∧ ∃ x, w' = ext w x := by
  have HO := Lib.hid (own_lit w w.heap.size #[Value.int .i64 257, .int .i64 28, .int .i64 3, .int .i64 4] 148 (by simp) (Nat.le_refl _))
  go_enter Tryz.func102, Tryz.ntmps102
  go_wp2
  refine ret_cell rfl rfl rfl (own_load HO.out _ Tryz.underlying148 rfl (by kernel_rfl)) ?_
  exact ⟨rfl, (ex_ext (by repeat (first | exact Below.refl _ _ | assumption | refine b_drewN ?_ _ | refine Below.drew ?_ | refine b_ext' ?_ _ | refine b_alloc' ?_ _)))⟩
theorem bits4 (i : Nat) (hi : i < 100) (w : World) : Calls Tryz.prog 107 #[.agg kdV4, .int .i64 i] w fun e w' => e = .returned (.int .i64 (spB 4 i : Nat)) ∧ ∃ x, w' = ext w x := by
  have h1 : (i : Int).tdiv 4 = ((i / 4 : Nat) : Int) := by norm_cast
  have hl : i / 4 < 100 := by omega
  unfold kdV4 spB
  go_enter Tryz.func107, Tryz.ntmps107
  go_wp2
  all_goals
    go_ret
    refine ⟨?_, (ex_ext (by repeat (first | exact Below.refl _ _ | assumption | refine b_drewN ?_ _ | refine Below.drew ?_ | refine b_ext' ?_ _ | refine b_alloc' ?_ _)))⟩
    first
      | (rw [show ((i / 4 - 1 : Nat) : Int) = (i : Int) / 4 - 1 by omega]; rfl)
      | (rw [show ((i / 4 - 1 : Nat) : Int) = 0 by omega]; rfl)
theorem spB4_le (i : Nat) (h : i < 30) : spB 4 i ≤ 13 := by unfold spB; omega
theorem spBase4_le : ∀ i, i ≤ 30 → spBase 3 4 i ≤ 40000 := by
  intro i hi
  exact Nat.le_trans (spBase_mono 3 4 hi) (by decide)
set_option maxRecDepth 100000 in
theorem bases4 (w : World) : Calls Tryz.prog 106 #[.agg kdV4] w fun e w' => e = .returned (.agg (ints (nls (basL 3 4 28))).toArray) ∧ ∃ x, w' = ext w x := by
  have HBI := Lib.hid (fun (i : Nat) (hi : i < 100) (W : World) => bits4 i hi W)
  unfold kdV4 at HBI ⊢
  obtain ⟨w1, hw1⟩ : ∃ w1, w1 = w.alloc (.cells #[.int .i64 257, .int .i64 28, .int .i64 3, .int .i64 4] 148) := ⟨_, rfl⟩
  have hz := zero_30
  obtain ⟨Z, hZ⟩ : ∃ Z, Z = z30 := ⟨_, rfl⟩
  rw [← hZ] at hz
  have hk := own_lit w w.heap.size #[Value.int .i64 257, .int .i64 28, .int .i64 3, .int .i64 4] 148 (by simp) (Nat.le_refl _)
  rw [← hw1] at hk
  have hs1 : w1.heap.size = w.heap.size + 1 := by rw [hw1]; simp
  have hb1 := box30 w1 Z hZ
  have hb2 := box30 (w1.alloc (.cells Z 150)) Z hZ
  rw [show (w1.alloc (.cells Z 150)).heap.size = w.heap.size + 2 by simp [hs1]] at hb2
  rw [hs1] at hb1
  rw [← basL_zero 3 4] at hb2
  obtain ⟨O, hO⟩ : ∃ O : List Int, O = nls (List.replicate 30 0) := ⟨_, rfl⟩
  rw [← hO] at hb1
  have HB1 := Lib.hid (hb1.up (below_alloc _ (.cells Z 150)))
  have HB2 := Lib.hid hb2
  have HK := Lib.hid ((hk.up (below_alloc w1 (.cells Z 150))).up (below_alloc _ (.cells Z 150)))
  have HBL : Hid (Below w.heap.size w ((w1.alloc (.cells Z 150)).alloc (.cells Z 150))) := Lib.hid (by rw [hw1]; exact (by repeat (first | exact Below.refl _ _ | assumption | refine b_drewN ?_ _ | refine Below.drew ?_ | refine b_ext' ?_ _ | refine b_alloc' ?_ _)))
  have HW1 := Lib.hid hw1
  have HS1 := Lib.hid hs1
  clear hw1 hZ hb1 hb2 hk hO hs1
  go_enter Tryz.func106, Tryz.ntmps106
  go_wp2
  rw [← HW1.out]
  generalize (w1.alloc (.cells Z 150)).alloc (.cells Z 150) = w3 at *
  go_loopg [4, 10] (28 + 1) (fun gk nv iv wr => ∃ k : Nat, nv = .int .i64 (spBase 3 4 k : Nat) ∧ iv = .int .i64 k ∧ k ≤ 28 ∧ BoxA wr 150 30 (w.heap.size + 2) (nls (basL 3 4 k)) ∧ BoxA wr 150 30 (w.heap.size + 1) O ∧ Own wr w.heap.size 148 (.slice (some ⟨w.heap.size, 0, none⟩) 4 4) [.int .i64 257, .int .i64 28, .int .i64 3, .int .i64 4] ∧ Below w.heap.size w wr ∧ gk = 28 + 1 - k)
  case atStart => exact ⟨0, rfl, rfl, Nat.zero_le _, HB2.out, HB1.out, HK.out, HBL.out, rfl⟩
  case round =>
    clear HB2 HB1 HK HBL
    obtain ⟨k, rfl, rfl, hk, hb2, hb1, hkk, hbel, rfl⟩ := hrel
    have HB2 := Lib.hid hb2
    have HB1 := Lib.hid hb1
    have HK := Lib.hid hkk
    have HBL := Lib.hid hbel
    have hsz := hbel.size
    have hl2 := hb2.lt
    by_cases hlt : k < 28
    · have hlti : (k : Int) < 28 := by omega
      have hc := hb2.cell (c := k) (by omega)
      rw [nls_getD] at hc
      have hf := hb2.free k
      have hst := hb2.set k (spBase 3 4 k : Nat)
      rw [nls_set, basL_set] at hst
      have HST := Lib.hid hst
      have hbs := spBase4_le k (by omega)
      have hb13 := spB4_le k (by omega)
      have hnx := spBase_step 3 4 k
      have HNX := Lib.hid hnx
      clear hb2 hb1 hkk hbel hst hnx
      obtain ⟨A, hgA, hsA, hA⟩ := (HK.out.keep HST.out.2 (.inr (by simp [Value.ownBlock]))).whole
      have hA' : A = #[.int .i64 257, .int .i64 28, .int .i64 3, .int .i64 4] := by rw [← Array.toArray_toList (xs := A), hA]
      subst hA'
      clear hA hsA
      generalize (basL 3 4 k).getD k 0 = z at *
      have HBK := Lib.hid (fun W => HBI.out k (by omega) W)
      have HN1 : Hid (((spBase 3 4 (k + 1) : Nat) : Int) = ((spBase 3 4 k : Nat) : Int) + 2 ^ (spB 4 k)) := Lib.hid (by rw [HNX.out]; norm_cast)
      have hp := Nat.pow_le_pow_right (n := 2) (by decide) hb13
      have hpi : (2 : Int) ^ (spB 4 k) ≤ 8192 := by
        have h : ((2 ^ spB 4 k : Nat) : Int) ≤ 8192 := by omega
        simpa using h
      have hpi0 : (0 : Int) ≤ (2 : Int) ^ (spB 4 k) := Int.pow_nonneg (by decide)
      generalize spBase 3 4 k = q at *
      generalize spB 4 k = b at *
      go_wp2_with (first | (refine load_box rfl 148 4 _ rfl w.heap.size rfl #[.int .i64 257, .int .i64 28, .int .i64 3, .int .i64 4] rfl hgA _ Tryz.underlying148 rfl (by kernel_rfl) ?_) | (go_at_call 107; (with_reducible refine (HBK.out _).mono ?_); rintro e w4 ⟨rfl, x4, rfl⟩))
      go_roundg (28 + 1 - (k + 1))
      case measure => omega
      case rel => exact ⟨k + 1, by rw [HN1.out], by go_num, by omega, HST.out.1.up (ext_below _ x4), (HB1.out.keep HST.out.2 (by simp)).up (ext_below _ x4), (HK.out.keep HST.out.2 (.inr (by simp [Value.ownBlock]))).up (ext_below _ x4), (HBL.out.grown HST.out.2 hsz (fun q hq => by cases hq; omega)).trans ((ext_below _ x4).mono (Nat.le_trans hsz HST.out.2.size)), rfl⟩
    · obtain rfl : k = 28 := by omega
      obtain ⟨A, hgA, hsA, hA⟩ := hb2.open
      have HA := Lib.hid (congrArg List.toArray hA)
      clear hb2 hb1 hkk hbel HB2 HK hA hlt
      go_wp2_with (first | (refine load_box rfl 150 30 _ rfl (w.heap.size + 2) rfl A hsA hgA _ Tryz.underlying150 rfl (by kernel_rfl) ?_) | (refine store_box rfl 150 30 _ _ rfl (w.heap.size + 1) rfl O (nls (basL 3 4 28)) (congrArg Value.agg HA.out) (by rw [nls_length, basL_len]) (by kernel_rfl) HB1.out ?_; intro w4 hB4 hg4; have HB4 := Lib.hid hB4; have HG4 := Lib.hid hg4; clear hB4 hg4))
      refine ret_cell rfl rfl rfl (HB4.out.load _ Tryz.underlying150 rfl (by kernel_rfl)) ?_
      exact ⟨rfl, ex_ext (HBL.out.grown HG4.out hsz (fun q hq => by cases hq; omega))⟩
def kdV2 : Array Value := #[.int .i64 0, .int .i64 30, .int .i64 1, .int .i64 2]
theorem kd2 (w : World) : Calls Tryz.prog 104 #[] w fun e w' => e = .returned (.agg kdV2) ∧ ∃ x, w' = ext w x := by
  have HO := Lib.hid (own_lit w w.heap.size #[Value.int .i64 0, .int .i64 30, .int .i64 1, .int .i64 2] 148 (by simp) (Nat.le_refl _))
  go_enter Tryz.func104, Tryz.ntmps104
  go_wp2
  refine ret_cell rfl rfl rfl (own_load HO.out _ Tryz.underlying148 rfl (by kernel_rfl)) ?_
  exact ⟨rfl, (ex_ext (by repeat (first | exact Below.refl _ _ | assumption | refine b_drewN ?_ _ | refine Below.drew ?_ | refine b_ext' ?_ _ | refine b_alloc' ?_ _)))⟩
theorem bits2 (i : Nat) (hi : i < 100) (w : World) : Calls Tryz.prog 107 #[.agg kdV2, .int .i64 i] w fun e w' => e = .returned (.int .i64 (spB 2 i : Nat)) ∧ ∃ x, w' = ext w x := by
  have h1 : (i : Int).tdiv 2 = ((i / 2 : Nat) : Int) := by norm_cast
  have hl : i / 2 < 100 := by omega
  unfold kdV2 spB
  go_enter Tryz.func107, Tryz.ntmps107
  go_wp2
  all_goals
    go_ret
    refine ⟨?_, (ex_ext (by repeat (first | exact Below.refl _ _ | assumption | refine b_drewN ?_ _ | refine Below.drew ?_ | refine b_ext' ?_ _ | refine b_alloc' ?_ _)))⟩
    first
      | (rw [show ((i / 2 - 1 : Nat) : Int) = (i : Int) / 2 - 1 by omega]; rfl)
      | (rw [show ((i / 2 - 1 : Nat) : Int) = 0 by omega]; rfl)
theorem spB2_le (i : Nat) (h : i < 30) : spB 2 i ≤ 13 := by unfold spB; omega
theorem spBase2_le : ∀ i, i ≤ 30 → spBase 1 2 i ≤ 40000 := by
  intro i hi
  exact Nat.le_trans (spBase_mono 1 2 hi) (by decide)
set_option maxRecDepth 100000 in
theorem bases2 (w : World) : Calls Tryz.prog 106 #[.agg kdV2] w fun e w' => e = .returned (.agg (ints (nls (basL 1 2 30))).toArray) ∧ ∃ x, w' = ext w x := by
  have HBI := Lib.hid (fun (i : Nat) (hi : i < 100) (W : World) => bits2 i hi W)
  unfold kdV2 at HBI ⊢
  obtain ⟨w1, hw1⟩ : ∃ w1, w1 = w.alloc (.cells #[.int .i64 0, .int .i64 30, .int .i64 1, .int .i64 2] 148) := ⟨_, rfl⟩
  have hz := zero_30
  obtain ⟨Z, hZ⟩ : ∃ Z, Z = z30 := ⟨_, rfl⟩
  rw [← hZ] at hz
  have hk := own_lit w w.heap.size #[Value.int .i64 0, .int .i64 30, .int .i64 1, .int .i64 2] 148 (by simp) (Nat.le_refl _)
  rw [← hw1] at hk
  have hs1 : w1.heap.size = w.heap.size + 1 := by rw [hw1]; simp
  have hb1 := box30 w1 Z hZ
  have hb2 := box30 (w1.alloc (.cells Z 150)) Z hZ
  rw [show (w1.alloc (.cells Z 150)).heap.size = w.heap.size + 2 by simp [hs1]] at hb2
  rw [hs1] at hb1
  rw [← basL_zero 1 2] at hb2
  obtain ⟨O, hO⟩ : ∃ O : List Int, O = nls (List.replicate 30 0) := ⟨_, rfl⟩
  rw [← hO] at hb1
  have HB1 := Lib.hid (hb1.up (below_alloc _ (.cells Z 150)))
  have HB2 := Lib.hid hb2
  have HK := Lib.hid ((hk.up (below_alloc w1 (.cells Z 150))).up (below_alloc _ (.cells Z 150)))
  have HBL : Hid (Below w.heap.size w ((w1.alloc (.cells Z 150)).alloc (.cells Z 150))) := Lib.hid (by rw [hw1]; exact (by repeat (first | exact Below.refl _ _ | assumption | refine b_drewN ?_ _ | refine Below.drew ?_ | refine b_ext' ?_ _ | refine b_alloc' ?_ _)))
  have HW1 := Lib.hid hw1
  have HS1 := Lib.hid hs1
  clear hw1 hZ hb1 hb2 hk hO hs1
  go_enter Tryz.func106, Tryz.ntmps106
  go_wp2
  rw [← HW1.out]
  generalize (w1.alloc (.cells Z 150)).alloc (.cells Z 150) = w3 at *
  go_loopg [4, 10] (30 + 1) (fun gk nv iv wr => ∃ k : Nat, nv = .int .i64 (spBase 1 2 k : Nat) ∧ iv = .int .i64 k ∧ k ≤ 30 ∧ BoxA wr 150 30 (w.heap.size + 2) (nls (basL 1 2 k)) ∧ BoxA wr 150 30 (w.heap.size + 1) O ∧ Own wr w.heap.size 148 (.slice (some ⟨w.heap.size, 0, none⟩) 4 4) [.int .i64 0, .int .i64 30, .int .i64 1, .int .i64 2] ∧ Below w.heap.size w wr ∧ gk = 30 + 1 - k)
  case atStart => exact ⟨0, rfl, rfl, Nat.zero_le _, HB2.out, HB1.out, HK.out, HBL.out, rfl⟩
  case round =>
    clear HB2 HB1 HK HBL
    obtain ⟨k, rfl, rfl, hk, hb2, hb1, hkk, hbel, rfl⟩ := hrel
    have HB2 := Lib.hid hb2
    have HB1 := Lib.hid hb1
    have HK := Lib.hid hkk
    have HBL := Lib.hid hbel
    have hsz := hbel.size
    have hl2 := hb2.lt
    by_cases hlt : k < 30
    · have hlti : (k : Int) < 30 := by omega
      have hc := hb2.cell (c := k) (by omega)
      rw [nls_getD] at hc
      have hf := hb2.free k
      have hst := hb2.set k (spBase 1 2 k : Nat)
      rw [nls_set, basL_set] at hst
      have HST := Lib.hid hst
      have hbs := spBase2_le k (by omega)
      have hb13 := spB2_le k (by omega)
      have hnx := spBase_step 1 2 k
      have HNX := Lib.hid hnx
      clear hb2 hb1 hkk hbel hst hnx
      obtain ⟨A, hgA, hsA, hA⟩ := (HK.out.keep HST.out.2 (.inr (by simp [Value.ownBlock]))).whole
      have hA' : A = #[.int .i64 0, .int .i64 30, .int .i64 1, .int .i64 2] := by rw [← Array.toArray_toList (xs := A), hA]
      subst hA'
      clear hA hsA
      generalize (basL 1 2 k).getD k 0 = z at *
      have HBK := Lib.hid (fun W => HBI.out k (by omega) W)
      have HN1 : Hid (((spBase 1 2 (k + 1) : Nat) : Int) = ((spBase 1 2 k : Nat) : Int) + 2 ^ (spB 2 k)) := Lib.hid (by rw [HNX.out]; norm_cast)
      have hp := Nat.pow_le_pow_right (n := 2) (by decide) hb13
      have hpi : (2 : Int) ^ (spB 2 k) ≤ 8192 := by
        have h : ((2 ^ spB 2 k : Nat) : Int) ≤ 8192 := by omega
        simpa using h
      have hpi0 : (0 : Int) ≤ (2 : Int) ^ (spB 2 k) := Int.pow_nonneg (by decide)
      generalize spBase 1 2 k = q at *
      generalize spB 2 k = b at *
      go_wp2_with (first | (refine load_box rfl 148 4 _ rfl w.heap.size rfl #[.int .i64 0, .int .i64 30, .int .i64 1, .int .i64 2] rfl hgA _ Tryz.underlying148 rfl (by kernel_rfl) ?_) | (go_at_call 107; (with_reducible refine (HBK.out _).mono ?_); rintro e w4 ⟨rfl, x4, rfl⟩))
      go_roundg (30 + 1 - (k + 1))
      case measure => omega
      case rel => exact ⟨k + 1, by rw [HN1.out], by go_num, by omega, HST.out.1.up (ext_below _ x4), (HB1.out.keep HST.out.2 (by simp)).up (ext_below _ x4), (HK.out.keep HST.out.2 (.inr (by simp [Value.ownBlock]))).up (ext_below _ x4), (HBL.out.grown HST.out.2 hsz (fun q hq => by cases hq; omega)).trans ((ext_below _ x4).mono (Nat.le_trans hsz HST.out.2.size)), rfl⟩
    · obtain rfl : k = 30 := by omega
      obtain ⟨A, hgA, hsA, hA⟩ := hb2.open
      have HA := Lib.hid (congrArg List.toArray hA)
      clear hb2 hb1 hkk hbel HB2 HK hA hlt
      go_wp2_with (first | (refine load_box rfl 150 30 _ rfl (w.heap.size + 2) rfl A hsA hgA _ Tryz.underlying150 rfl (by kernel_rfl) ?_) | (refine store_box rfl 150 30 _ _ rfl (w.heap.size + 1) rfl O (nls (basL 1 2 30)) (congrArg Value.agg HA.out) (by rw [nls_length, basL_len]) (by kernel_rfl) HB1.out ?_; intro w4 hB4 hg4; have HB4 := Lib.hid hB4; have HG4 := Lib.hid hg4; clear hB4 hg4))
      refine ret_cell rfl rfl rfl (HB4.out.load _ Tryz.underlying150 rfl (by kernel_rfl)) ?_
      exact ⟨rfl, ex_ext (HBL.out.grown HG4.out hsz (fun q hq => by cases hq; omega))⟩
theorem results_tmp4 {fn : Func} {t u v x : Tmp} (h : fn.results = #[.tmp t, .tmp u, .tmp v, .tmp x]) (tmps : Array Value) (P : Program) (w : World) :
    (results fn tmps).run P w = .ok (.tuple #[tmps.getD t undef, tmps.getD u undef, tmps.getD v undef, tmps.getD x undef]) w := by
  simp [results, h]
end Go.Cm

/- The walk of the document's Split. Conditions: the text is not too long. -/
namespace Go.Cm
open Go.RowKit Go.Proofs

theorem slice_to (s : ByteArray) (k : Nat) (h : k ≤ s.size) : ∃ x : ByteArray, bys x = (bys s).take k ∧ ∀ W : World, (Instr.sliceAt 9 (.string s) none (some (.int .i64 (k : Int))) none).run Tryz.prog W = .ok (.string x) W := by
  refine ⟨s.extract 0 k, by rw [bys_extract]; simp, fun W => ?_⟩
  rw [run_sliceAt_string (P := Tryz.prog) (t := 9) (h := Tryz.underlying9), run_slice_string_h (P := Tryz.prog) (ht := Tryz.underlying9) (h0 := by omega) (h2 := by omega)]
  simp
theorem slice_from (s : ByteArray) (k : Nat) (h : k ≤ s.size) : ∃ x : ByteArray, bys x = (bys s).drop k ∧ ∀ W : World, (Instr.sliceAt 9 (.string s) (some (.int .i64 (k : Int))) none none).run Tryz.prog W = .ok (.string x) W := by
  refine ⟨s.extract k s.size, by rw [bys_extract, List.take_of_length_le (by rw [List.length_drop, bys_len]; omega)], fun W => ?_⟩
  rw [run_sliceAt_string (P := Tryz.prog) (t := 9) (h := Tryz.underlying9), run_slice_string_l (P := Tryz.prog) (ht := Tryz.underlying9) (h0 := by omega) (h1 := by omega)]
  simp
/-- ..-/
theorem txt_bys (x : ByteArray) : x = ⟨(bys x).toArray⟩ := by cases x; simp [bys]
end Go.Cm

/- The walks of the bases of symbols, and of a reader's bytes. Conditions: the reader is there. -/
namespace Go.Cm
open Go.RowKit Go.Proofs

def symB (y : Nat × Nat × Bool) : Value := .tuple #[.int .i64 (y.1 : Nat), .int .i64 (y.2.1 : Nat), .bool y.2.2]
theorem results_tmp3' {fn : Func} {t u v : Tmp} (h : fn.results = #[.tmp t, .tmp u, .tmp v]) (tmps : Array Value) (P : Program) (w : World) :
    (results fn tmps).run P w = .ok (.tuple #[tmps.getD t undef, tmps.getD u undef, tmps.getD v undef]) w := by
  simp [results, h]
set_option maxRecDepth 100000 in
set_option maxHeartbeats 1000000 in
theorem ofP4 (s : Nat) (hs : s < 100000) (w : World) : Calls Tryz.prog 103 #[.agg kdV4, .int .i64 (s : Nat)] w fun e w' => e = .returned (symB (if 257 ≤ s ∧ s < 285 then (spBase 3 4 (s - 257), spB 4 (s - 257), true) else (0, 0, false))) ∧ ∃ x, w' = ext w x := by
  have HBA := Lib.hid (fun (W : World) => bases4 W)
  obtain ⟨y, hy⟩ : ∃ y, y = (if 257 ≤ s ∧ s < 285 then (spBase 3 4 (s - 257), spB 4 (s - 257), true) else (0, 0, false)) := ⟨_, rfl⟩
  rw [← hy]
  have HY := Lib.hid hy
  clear hy
  unfold kdV4 at HBA ⊢
  have hk := own_lit w w.heap.size #[Value.int .i64 257, .int .i64 28, .int .i64 3, .int .i64 4] 148 (by simp) (Nat.le_refl _)
  obtain ⟨w1, hw1⟩ : ∃ w1, w1 = w.alloc (.cells #[.int .i64 257, .int .i64 28, .int .i64 3, .int .i64 4] 148) := ⟨_, rfl⟩
  rw [← hw1] at hk
  have HK := Lib.hid hk
  have HW1 := Lib.hid hw1
  have HB1 : Hid (Below w.heap.size w w1) := Lib.hid (by rw [hw1]; exact below_alloc _ _)
  have hg : w.heap.size < w1.heap.size := hk.blk.2
  have c0 : w1.cell? ⟨w.heap.size, 0, none⟩ = some (.int .i64 257) := hk.cell (by simp)
  have c1 : w1.cell? ⟨w.heap.size, 1, none⟩ = some (.int .i64 28) := hk.cell (by simp)
  clear hk hw1
  by_cases h : 257 ≤ s ∧ s < 285
  · obtain ⟨i, hsi⟩ : ∃ i, i = s - 257 := ⟨_, rfl⟩
    rw [if_pos h, ← hsi] at HY
    have hi : i < 28 := by omega
    have HBI := Lib.hid (fun (W : World) => bits4 i (by omega) W)
    unfold kdV4 at HBI
    have h1 : (s : Int) - 257 = (i : Nat) := by omega
    have h2 : ¬ s < 257 := by omega
    have h3 : ¬ 28 ≤ i := by omega
    obtain ⟨X, hX⟩ : ∃ X, X = (ints (nls (basL 3 4 28))).toArray := ⟨_, rfl⟩
    rw [← hX] at HBA
    obtain ⟨bs, hbs⟩ : ∃ bs, bs = spBase 3 4 i := ⟨_, rfl⟩
    obtain ⟨bt, hbt⟩ : ∃ bt, bt = spB 4 i := ⟨_, rfl⟩
    rw [← hbs, ← hbt] at HY
    rw [← hbt] at HBI
    have hXi : X[i]? = some (.int .i64 (bs : Nat)) := by
      rw [hX, hbs]
      have e : (nls (basL 3 4 28)).getD i 0 = (spBase 3 4 i : Nat) := by rw [nls_getD, basL_getD _ _ _ _ (by omega), if_pos hi]
      have hl : i < (nls (basL 3 4 28)).length := by rw [nls_length, basL_len]; omega
      have h2 := ints_getD (nls (basL 3 4 28)) i hl
      rw [e] at h2
      simp only [List.getElem?_toArray]
      rw [← h2, List.getD_eq_getElem?_getD, List.getElem?_eq_getElem (by simpa using hl)]
      rfl
    have hix := run_index_arr (P := Tryz.prog) 150 3 30 Tryz.underlying150 Tryz.underlying3 (by kernel_rfl) X i (by omega) _ hXi
    have HGK : Hid (∀ w', (∃ x, w' = ext w1 x) → w'.heap[w.heap.size]? = some (.cells #[.int .i64 257, .int .i64 28, .int .i64 3, .int .i64 4] 148 (0, 0))) := Lib.hid (fun w' ⟨x, hx⟩ => by
      obtain ⟨A, hgA, hsA, hA⟩ := HK.out.whole
      have hA' : A = #[.int .i64 257, .int .i64 28, .int .i64 3, .int .i64 4] := by rw [← Array.toArray_toList (xs := A), hA]
      subst hA'
      rw [hx, heap_ext w1 x _ hg]; exact hgA)
    clear h hX hbs hbt hXi hsi hs
    go_enter Tryz.func103, Tryz.ntmps103
    go_upto_region 1 with (fail)
    rw [← HW1.out]
    go_upto_region 4 with (fail)
    refine wp_region_ext (by kernel_rfl) (by kernel_rfl) ?_
    repeat (first
      | (go_big_quiet_want; refine quiet_load_box 148 4 _ rfl w.heap.size rfl #[.int .i64 257, .int .i64 28, .int .i64 3, .int .i64 4] rfl HGK.out _ Tryz.underlying148 rfl (by kernel_rfl) ?_; go_simp; go_big_quiet_on)
      | go_big_quiet_step (first | (go_at_call 106; exact calls_in (HBA.out _)) | (go_at_call 107; exact calls_in (HBI.out _))))
    refine wpQuiet_nil ?_
    rintro w' ⟨y4, rfl⟩
    go_wp2
    refine bodyPost_ret (results_tmp3' rfl _ _ _) rfl ?_
    refine ⟨?_, ex_ext (HB1.out.trans ((ext_below w1 y4).mono HB1.out.size))⟩
    unfold symB
    rw [HY.out]
    rfl
  · rw [if_neg h] at HY
    have hor : s < 257 ∨ (¬ s < 257 ∧ ∃ k : Nat, (s : Int) - 257 = (k : Nat) ∧ decide (28 ≤ k) = true ∧ k < 100000 ∧ ¬ k < 28) := by
      by_cases h1 : s < 257
      · exact .inl h1
      · exact .inr ⟨h1, s - 257, by omega, by rw [decide_eq_true_eq]; omega, by omega, by omega⟩
    clear h
    rcases hor with h1 | ⟨h1, k, hk1, hk2, hk3, hk4⟩ <;>
    · go_enter Tryz.func103, Tryz.ntmps103
      go_upto_region 1 with (fail)
      rw [← HW1.out]
      go_wp2
      refine bodyPost_ret (results_tmp3' rfl _ _ _) rfl ?_
      refine ⟨?_, ex_ext HB1.out⟩
      unfold symB
      rw [HY.out]
      rfl
set_option maxRecDepth 100000 in
set_option maxHeartbeats 1000000 in
theorem ofP2 (s : Nat) (hs : s < 100000) (w : World) : Calls Tryz.prog 103 #[.agg kdV2, .int .i64 (s : Nat)] w fun e w' => e = .returned (symB (if 0 ≤ s ∧ s < 30 then (spBase 1 2 (s - 0), spB 2 (s - 0), true) else (0, 0, false))) ∧ ∃ x, w' = ext w x := by
  have HBA := Lib.hid (fun (W : World) => bases2 W)
  obtain ⟨y, hy⟩ : ∃ y, y = (if 0 ≤ s ∧ s < 30 then (spBase 1 2 (s - 0), spB 2 (s - 0), true) else (0, 0, false)) := ⟨_, rfl⟩
  rw [← hy]
  have HY := Lib.hid hy
  clear hy
  unfold kdV2 at HBA ⊢
  have hk := own_lit w w.heap.size #[Value.int .i64 0, .int .i64 30, .int .i64 1, .int .i64 2] 148 (by simp) (Nat.le_refl _)
  obtain ⟨w1, hw1⟩ : ∃ w1, w1 = w.alloc (.cells #[.int .i64 0, .int .i64 30, .int .i64 1, .int .i64 2] 148) := ⟨_, rfl⟩
  rw [← hw1] at hk
  have HK := Lib.hid hk
  have HW1 := Lib.hid hw1
  have HB1 : Hid (Below w.heap.size w w1) := Lib.hid (by rw [hw1]; exact below_alloc _ _)
  have hg : w.heap.size < w1.heap.size := hk.blk.2
  have c0 : w1.cell? ⟨w.heap.size, 0, none⟩ = some (.int .i64 0) := hk.cell (by simp)
  have c1 : w1.cell? ⟨w.heap.size, 1, none⟩ = some (.int .i64 30) := hk.cell (by simp)
  clear hk hw1
  by_cases h : 0 ≤ s ∧ s < 30
  · obtain ⟨i, hsi⟩ : ∃ i, i = s - 0 := ⟨_, rfl⟩
    rw [if_pos h, ← hsi] at HY
    have hi : i < 30 := by omega
    obtain rfl : i = s := by omega
    have HBI := Lib.hid (fun (W : World) => bits2 i (by omega) W)
    unfold kdV2 at HBI
    have h3 : ¬ 30 ≤ i := by omega
    obtain ⟨X, hX⟩ : ∃ X, X = (ints (nls (basL 1 2 30))).toArray := ⟨_, rfl⟩
    rw [← hX] at HBA
    obtain ⟨bs, hbs⟩ : ∃ bs, bs = spBase 1 2 i := ⟨_, rfl⟩
    obtain ⟨bt, hbt⟩ : ∃ bt, bt = spB 2 i := ⟨_, rfl⟩
    rw [← hbs, ← hbt] at HY
    rw [← hbt] at HBI
    have hXi : X[i]? = some (.int .i64 (bs : Nat)) := by
      rw [hX, hbs]
      have e : (nls (basL 1 2 30)).getD i 0 = (spBase 1 2 i : Nat) := by rw [nls_getD, basL_getD _ _ _ _ (by omega), if_pos hi]
      have hl : i < (nls (basL 1 2 30)).length := by rw [nls_length, basL_len]; omega
      have h2 := ints_getD (nls (basL 1 2 30)) i hl
      rw [e] at h2
      simp only [List.getElem?_toArray]
      rw [← h2, List.getD_eq_getElem?_getD, List.getElem?_eq_getElem (by simpa using hl)]
      rfl
    have hix := run_index_arr (P := Tryz.prog) 150 3 30 Tryz.underlying150 Tryz.underlying3 (by kernel_rfl) X i (by omega) _ hXi
    have HGK : Hid (∀ w', (∃ x, w' = ext w1 x) → w'.heap[w.heap.size]? = some (.cells #[.int .i64 0, .int .i64 30, .int .i64 1, .int .i64 2] 148 (0, 0))) := Lib.hid (fun w' ⟨x, hx⟩ => by
      obtain ⟨A, hgA, hsA, hA⟩ := HK.out.whole
      have hA' : A = #[.int .i64 0, .int .i64 30, .int .i64 1, .int .i64 2] := by rw [← Array.toArray_toList (xs := A), hA]
      subst hA'
      rw [hx, heap_ext w1 x _ hg]; exact hgA)
    clear h hX hbs hbt hXi hsi
    go_enter Tryz.func103, Tryz.ntmps103
    go_upto_region 1 with (fail)
    rw [← HW1.out]
    go_upto_region 4 with (fail)
    refine wp_region_ext (by kernel_rfl) (by kernel_rfl) ?_
    repeat (first
      | (go_big_quiet_want; refine quiet_load_box 148 4 _ rfl w.heap.size rfl #[.int .i64 0, .int .i64 30, .int .i64 1, .int .i64 2] rfl HGK.out _ Tryz.underlying148 rfl (by kernel_rfl) ?_; go_simp; go_big_quiet_on)
      | go_big_quiet_step (first | (go_at_call 106; exact calls_in (HBA.out _)) | (go_at_call 107; exact calls_in (HBI.out _))))
    refine wpQuiet_nil ?_
    rintro w' ⟨y4, rfl⟩
    go_wp2
    refine bodyPost_ret (results_tmp3' rfl _ _ _) rfl ?_
    refine ⟨?_, ex_ext (HB1.out.trans ((ext_below w1 y4).mono HB1.out.size))⟩
    unfold symB
    rw [HY.out]
    rfl
  · rw [if_neg h] at HY
    have hk2 : decide (30 ≤ s) = true := by rw [decide_eq_true_eq]; omega
    have hk3 : decide ((30 : Int) ≤ (s : Nat)) = true := by rw [decide_eq_true_eq]; omega
    clear h
    · go_enter Tryz.func103, Tryz.ntmps103
      go_upto_region 1 with (fail)
      rw [← HW1.out]
      go_wp2
      refine bodyPost_ret (results_tmp3' rfl _ _ _) rfl ?_
      refine ⟨?_, ex_ext HB1.out⟩
      unfold symB
      rw [HY.out]
      rfl
theorem lenP' (s : Nat) (hs : s < 100000) (w : World) : Calls Tryz.prog 97 #[.int .i64 (s : Nat)] w fun e w' => e = .returned (symB (lenB s)) ∧ ∃ x, w' = ext w x := by
  have HO := Lib.hid (fun W => ofP4 s hs W)
  have HKD := Lib.hid kd4
  unfold lenB
  by_cases h : s = 285
  · simp only [if_pos h]
    have hi : ((s : Int) == 285) = true := by rw [h]; rfl
    subst h
    go_enter Tryz.func97, Tryz.ntmps97
    go_wp2
    refine bodyPost_ret (results_tmp3' rfl _ _ _) rfl ?_
    exact ⟨rfl, (ex_ext (by repeat (first | exact Below.refl _ _ | assumption | refine b_drewN ?_ _ | refine Below.drew ?_ | refine b_ext' ?_ _ | refine b_alloc' ?_ _)))⟩
  · simp only [if_neg h]
    obtain ⟨y, hy⟩ : ∃ y, y = (if 257 ≤ s ∧ s < 285 then (spBase 3 4 (s - 257), spB 4 (s - 257), true) else (0, 0, false)) := ⟨_, rfl⟩
    rw [← hy] at HO ⊢
    have hi : ((s : Int) == 285) = false := by simp; omega
    have hn : ¬ s = 285 := h
    clear hy
    unfold symB at HO ⊢
    go_enter Tryz.func97, Tryz.ntmps97
    go_wp2_with (first | ((with_reducible go_at_call 102); (with_reducible refine (HKD.out _).mono ?_); rintro e w2 ⟨rfl, x2, rfl⟩) | ((with_reducible go_at_call 103); (with_reducible refine (HO.out _).mono ?_); rintro e w3 ⟨rfl, x3, rfl⟩))
    refine bodyPost_ret (results_tmp3' rfl _ _ _) rfl ?_
    exact ⟨rfl, (ex_ext (by repeat (first | exact Below.refl _ _ | assumption | refine b_drewN ?_ _ | refine Below.drew ?_ | refine b_ext' ?_ _ | refine b_alloc' ?_ _)))⟩
theorem dstP' (s : Nat) (hs : s < 100000) (w : World) : Calls Tryz.prog 98 #[.int .i64 (s : Nat)] w fun e w' => e = .returned (symB (dstB s)) ∧ ∃ x, w' = ext w x := by
  have HO := Lib.hid (fun W => ofP2 s hs W)
  have HKD := Lib.hid kd2
  have e : dstB s = (if 0 ≤ s ∧ s < 30 then (spBase 1 2 (s - 0), spB 2 (s - 0), true) else (0, 0, false)) := by unfold dstB; simp
  rw [e]
  obtain ⟨y, hy⟩ : ∃ y, y = (if 0 ≤ s ∧ s < 30 then (spBase 1 2 (s - 0), spB 2 (s - 0), true) else (0, 0, false)) := ⟨_, rfl⟩
  rw [← hy] at HO ⊢
  clear hy e
  unfold symB at HO ⊢
  go_enter Tryz.func98, Tryz.ntmps98
  go_wp2_with (first | ((with_reducible go_at_call 104); (with_reducible refine (HKD.out _).mono ?_); rintro e w2 ⟨rfl, x2, rfl⟩) | ((with_reducible go_at_call 103); (with_reducible refine (HO.out _).mono ?_); rintro e w3 ⟨rfl, x3, rfl⟩))
  refine bodyPost_ret (results_tmp3' rfl _ _ _) rfl ?_
  exact ⟨rfl, (ex_ext (by repeat (first | exact Below.refl _ _ | assumption | refine b_drewN ?_ _ | refine Below.drew ?_ | refine b_ext' ?_ _ | refine b_alloc' ?_ _)))⟩
theorem slice_mid (s : ByteArray) (a n : Nat) (h : a + n ≤ s.size) (W : World) : (Instr.sliceAt 9 (.string s) (some (.int .i64 (a : Int))) (some (.int .i64 ((a + n : Nat) : Int))) none).run Tryz.prog W = .ok (.string ⟨(((bys s).drop a).take n).toArray⟩) W := by
  rw [run_sliceAt_string (P := Tryz.prog) (t := 9) (h := Tryz.underlying9)]
  have := Go.run_slice_string (P := Tryz.prog) (w := W) 9 s .i64 .i64 (a : Int) ((a + n : Nat) : Int) Tryz.underlying9 (by omega) (by omega) (by omega)
  rw [this]
  have e : s.extract (a : Int).toNat ((a + n : Nat) : Int).toNat = ⟨(((bys s).drop a).take n).toArray⟩ := by
    rw [Int.toNat_natCast, Int.toNat_natCast, txt_bys (s.extract _ _), bys_extract, Nat.add_sub_cancel_left]
  rw [e]
set_option maxRecDepth 100000 in
set_option maxHeartbeats 1000000 in
theorem bytesRd {w : World} {g p : Nat} {s : ByteArray} (h : BoxS w g s p) (hs : s.size ≤ 4294967296) (n : Nat) (hp : p % 8 = 0) (hn : p + 8 * n ≤ 8 * s.size) : Calls Tryz.prog 85 #[.pointer (some ⟨g, 0, none⟩), .int .i64 (n : Nat)] w fun e w' => e = .returned (.tuple #[.string ⟨(((bys s).drop (p / 8)).take n).toArray⟩, .int .i64 0]) ∧ BoxS w' g s (p + 8 * n) ∧ w.grownBy w' (some g) := by
  have HB := Lib.hid h
  have HT := Lib.hid (thereS h)
  have HL := Lib.hid (leftS h hs (by omega))
  have c1 := h.c1
  have c2 := h.c2
  have f2 := h.free 2
  have hg := h.lt
  have hp8 : (p : Int).tmod 8 = 0 := by rw [Int.tmod_eq_emod_of_nonneg (by omega)]; omega
  have hp9 : (p : Int) % 8 = 0 := by omega
  obtain ⟨a, ha⟩ : ∃ a, a = p / 8 := ⟨_, rfl⟩
  have hpd : (p : Int).tdiv 8 = (a : Nat) := by rw [Int.tdiv_eq_ediv_of_nonneg (by omega)]; omega
  have hpe : (p : Int) / 8 = (a : Nat) := by omega
  obtain ⟨q, hq⟩ : ∃ q, q = 8 * s.size - p := ⟨_, rfl⟩
  rw [← hq] at HL
  obtain ⟨q8, hq8⟩ : ∃ q8, q8 = q / 8 := ⟨_, rfl⟩
  have hqd : (q : Int).tdiv 8 = (q8 : Nat) := by rw [Int.tdiv_eq_ediv_of_nonneg (by omega)]; omega
  have hqe : (q : Int) / 8 = (q8 : Nat) := by omega
  have hnl : ¬ q8 < n := by omega
  have hqb : q8 ≤ 4294967296 := by omega
  have hsl := fun W => slice_mid s a n (by omega) W
  obtain ⟨m, hm⟩ : ∃ m, m = a + n := ⟨_, rfl⟩
  rw [← hm] at hsl
  have HSL := Lib.hid hsl
  have hst := fun x => (h.up (ext_below w x)).set2 (p + 8 * n)
  obtain ⟨r, hr⟩ : ∃ r, r = p + 8 * n := ⟨_, rfl⟩
  rw [← hr] at hst ⊢
  have HST := Lib.hid hst
  clear hsl hst
  have hpn : (p : Int) + 8 * (n : Int) = (r : Nat) := by omega
  have han : (a : Int) + (n : Int) = (m : Nat) := by omega
  have hab : m ≤ 4294967296 := by omega
  have hnb : n ≤ 4294967296 := by omega
  have hpb : r ≤ 40000000000 := by omega
  have hn0 : ¬ (n : Int) < 0 := by omega
  rw [← ha]
  have HP := Lib.hid hp
  clear h ha hq hq8 hp hn hs hm hr
  go_enter Tryz.func85, Tryz.ntmps85
  go_wp2_with (first | ((with_reducible go_at_call 39); (with_reducible refine HT.out.mono ?_); rintro e w' ⟨rfl, hw⟩; rw [hw]; clear hw) | ((with_reducible go_at_call 84); (with_reducible refine HL.out.mono ?_); rintro e w1 ⟨rfl, x1, rfl⟩) | ((with_reducible show wpList _ _ _ (Oper.mk _ (.slice _ _ _ _ _) _ _ _ _ :: _) _ _); refine wpList_slice_by rfl 9 (.tmp 45) (some (.tmp 46)) (some (.tmp 49)) none rfl _ (HSL.out _) ?_))
  go_ret2
  exact ⟨rfl, (HST.out x1).1, grown_trans (grown_below (ext_below w x1) _) (HST.out x1).2⟩
end Go.Cm

/- A machine in memory; the walks of what turns it to another mode. Conditions: the machine is there. -/
namespace Go.Cm
open Go.RowKit Go.Proofs

/-- what a machine's cells hold, beside its reader and its window -/
structure MV where
  at_ : Nat
  fin : Bool
  left : Nat
  vl : Value
  vd : Value
  made : Nat
  told : Nat
  waits : ByteArray
  wrong : Nat
  vs : Value
  vf : Value
def mvC (gr gw : Nat) (m : MV) : List Value := [.pointer (some ⟨gr, 0, none⟩), .pointer (some ⟨gw, 0, none⟩), .int .i64 m.at_, .bool m.fin, .int .i64 m.left, m.vl, m.vd, .int .i64 m.made, .int .i64 m.told, .string m.waits, .int .i64 m.wrong, m.vs, m.vf]
def MBox (w : World) (B gm gr gw : Nat) (m : MV) : Prop := Own w B 76 (.slice (some ⟨gm, 0, none⟩) 13 13) (mvC gr gw m)
theorem MBox.cell {w : World} {B gm gr gw : Nat} {m : MV} (h : MBox w B gm gr gw m) {i : Nat} (hi : i < 13) : w.cell? ⟨gm, i, none⟩ = some ((mvC gr gw m).getD i undef) := Own.cell h (by simpa [mvC] using hi)
theorem MBox.free {w : World} {B gm gr gw : Nat} {m : MV} (h : MBox w B gm gr gw m) (i : Nat) : w.frozen? ⟨gm, i, none⟩ = false := Own.free h i
theorem MBox.blk {w : World} {B gm gr gw : Nat} {m : MV} (h : MBox w B gm gr gw m) : B ≤ gm ∧ gm < w.heap.size := Own.blk h
theorem MBox.up {w w' : World} {B gm gr gw : Nat} {m : MV} (h : MBox w B gm gr gw m) (hb : Below w.heap.size w w') : MBox w' B gm gr gw m := Own.up h hb
theorem MBox.fx {S : Nat → Prop} {w w' : World} {B gm gr gw : Nat} {m : MV} (h : MBox w B gm gr gw m) (hf : Fx S w w') (h1 : ¬ S gm) : MBox w' B gm gr gw m := hf.own h (fun k hk => by injection hk with hk; subst hk; exact h1)
theorem MBox.set {w : World} {B gm gr gw : Nat} {m m' : MV} (h : MBox w B gm gr gw m) (i : Nat) (v : Value) (hv : (mvC gr gw m).set i v = mvC gr gw m') : MBox (w.setCell ⟨gm, i, none⟩ v) B gm gr gw m' ∧ w.grownBy (w.setCell ⟨gm, i, none⟩ v) (some gm) := by
  have := Own.store h i v
  rw [hv] at this
  exact this
/-- what makes the next bytes -/
def fnV (k : Nat) : Value := if k = 0 then .func (.func 24) #[] #[] else if k = 1 then .func (.func 61) #[] #[] else .func (.func 62) #[] #[]
def MV.turn (m : MV) (k : Nat) : MV := { m with at_ := k, vf := if k < 3 then fnV k else m.vf }
theorem thereM {w : World} {B gm gr gw : Nat} {m : MV} (h : MBox w B gm gr gw m) : Calls Tryz.prog 25 #[.pointer (some ⟨gm, 0, none⟩)] w fun e w' => e = .returned (.bool true) ∧ w' = w := by
  have c0 : w.cell? ⟨gm, 0, none⟩ = some (.pointer (some ⟨gr, 0, none⟩)) := h.cell (by decide)
  go_enter Tryz.func25, Tryz.ntmps25
  go_wp2
  go_ret
  exact ⟨rfl, rfl⟩
set_option maxRecDepth 100000 in
theorem turnM {w : World} {B gm gr gw : Nat} {m : MV} (h : MBox w B gm gr gw m) (k : Nat) (hk : k ≤ 3) : Calls Tryz.prog 37 #[.pointer (some ⟨gm, 0, none⟩), .int .i64 (k : Nat)] w fun e w' => e = .returned (.tuple #[]) ∧ MBox w' B gm gr gw (m.turn k) ∧ w.grownBy w' (some gm) := by
  obtain ⟨h2, g2⟩ := h.set 2 (.int .i64 (k : Nat)) (m' := { m with at_ := k }) rfl
  have c2 : w.cell? ⟨gm, 2, none⟩ = some (.int .i64 m.at_) := h.cell (by decide)
  have f2 := h.free 2
  have hg := h.blk.2
  have HG2 := Lib.hid g2
  have H2 := Lib.hid h2
  have c12 : (w.setCell ⟨gm, 2, none⟩ (.int .i64 (k : Nat))).cell? ⟨gm, 12, none⟩ = some m.vf := h2.cell (by decide)
  have f12 := h2.free 12
  have hg2 := h2.blk.2
  have HS := Lib.hid (fun (v : Value) => h2.set 12 v (m' := { m with at_ := k, vf := v }) rfl)
  clear h2 g2 h
  rcases (show k = 0 ∨ k = 1 ∨ k = 2 ∨ k = 3 by omega) with rfl | rfl | rfl | rfl
  · rw [show ((0 : Nat) : Int) = 0 from rfl] at c12 f12 hg2 HS HG2
    go_enter Tryz.func37, Tryz.ntmps37
    go_wp2
    go_end0
    exact ⟨rfl, (HS.out _).1, grown_trans HG2.out (HS.out _).2⟩
  · rw [show ((1 : Nat) : Int) = 1 from rfl] at c12 f12 hg2 HS HG2
    go_enter Tryz.func37, Tryz.ntmps37
    go_wp2
    go_end0
    exact ⟨rfl, (HS.out _).1, grown_trans HG2.out (HS.out _).2⟩
  · rw [show ((2 : Nat) : Int) = 2 from rfl] at c12 f12 hg2 HS HG2
    go_enter Tryz.func37, Tryz.ntmps37
    go_wp2
    go_end0
    exact ⟨rfl, (HS.out _).1, grown_trans HG2.out (HS.out _).2⟩
  · go_enter Tryz.func37, Tryz.ntmps37
    go_wp2
    go_end0
    exact ⟨rfl, H2.out, HG2.out⟩
def MV.close (m : MV) : MV := m.turn (if m.fin then 3 else 0)
set_option maxRecDepth 100000 in
theorem closeM {w : World} {B gm gr gw : Nat} {m : MV} (h : MBox w B gm gr gw m) : Calls Tryz.prog 83 #[.pointer (some ⟨gm, 0, none⟩)] w fun e w' => e = .returned (.tuple #[]) ∧ MBox w' B gm gr gw m.close ∧ w.grownBy w' (some gm) := by
  have c3 : w.cell? ⟨gm, 3, none⟩ = some (.bool m.fin) := h.cell (by decide)
  have hg := h.blk.2
  have HT3 := Lib.hid (turnM h 3 (by decide))
  have HT0 := Lib.hid (turnM h 0 (by decide))
  clear h
  unfold MV.close
  cases hf : m.fin with
  | true =>
    rw [hf] at c3
    simp only [if_true]
    clear hf
    go_enter Tryz.func83, Tryz.ntmps83
    go_wp2_with ((with_reducible go_at_call 37); (refine HT3.out.mono ?_); rintro e w1 ⟨rfl, h1, g1⟩; have H1 := Lib.hid h1; have G1 := Lib.hid g1; clear h1 g1)
    go_end0
    exact ⟨rfl, H1.out, G1.out⟩
  | false =>
    rw [hf] at c3
    simp only [if_neg (show ¬ (false = true) by decide)]
    clear hf
    go_enter Tryz.func83, Tryz.ntmps83
    go_wp2_with ((with_reducible go_at_call 37); (refine HT0.out.mono ?_); rintro e w1 ⟨rfl, h1, g1⟩; have H1 := Lib.hid h1; have G1 := Lib.hid g1; clear h1 g1)
    go_end0
    exact ⟨rfl, H1.out, G1.out⟩
end Go.Cm

/- A machine with its reader and its window in memory; the walks of a number, and of a copy. Conditions: the machine is there. -/
namespace Go.Cm
open Go.RowKit Go.Proofs

/-- the blocks that a machine writes -/
abbrev MSet (gm gr gw : Nat) (vb : Value) (k : Nat) : Prop := k = gm ∨ k = gr ∨ k = gw ∨ vb.ownBlock = some k
structure Mach (w : World) (B gm gr gw : Nat) (vb : Value) (s : ByteArray) (p : Nat) (H : Byts) (m : MV) : Prop where
  box : MBox w B gm gr gw m
  rd : BoxS w gr s p
  win : WinAt w B gw vb H
  n1 : gm ≠ gr
  n2 : gm ≠ gw
  n3 : gr ≠ gw
  b1 : vb.ownBlock ≠ some gm
  b2 : vb.ownBlock ≠ some gr
  Br : B ≤ gr
theorem Mach.up {w w' : World} {B gm gr gw p : Nat} {vb : Value} {s : ByteArray} {H : Byts} {m : MV} (h : Mach w B gm gr gw vb s p H m) (hb : Below w.heap.size w w') : Mach w' B gm gr gw vb s p H m :=
  ⟨h.box.up hb, h.rd.up hb, h.win.up hb, h.n1, h.n2, h.n3, h.b1, h.b2, h.Br⟩
theorem Mach.B {w : World} {B gm gr gw p : Nat} {vb : Value} {s : ByteArray} {H : Byts} {m : MV} (h : Mach w B gm gr gw vb s p H m) : B ≤ w.heap.size := Nat.le_trans h.Br (Nat.le_of_lt h.rd.lt)
/-- the reader goes on -/
theorem Mach.read {w w' : World} {B gm gr gw p q : Nat} {vb : Value} {s : ByteArray} {H : Byts} {m : MV} (h : Mach w B gm gr gw vb s p H m) (hr : BoxS w' gr s q) (hg : w.grownBy w' (some gr)) : Mach w' B gm gr gw vb s q H m ∧ Fx (MSet gm gr gw vb) w w' := by
  have hf : Fx (fun k => k = gr) w w' := fx_grown hg (fun k e => by injection e with e; exact e.symm)
  exact ⟨⟨h.box.fx hf h.n1, hr, h.win.fx hf (fun e => h.n3 e.symm) (fun k e z => h.b2 (by rw [e, z])), h.n1, h.n2, h.n3, h.b1, h.b2, h.Br⟩, hf.mono (fun k e => .inr (.inl e))⟩
/-- its own cells change -/
theorem Mach.mset {w w' : World} {B gm gr gw p : Nat} {vb : Value} {s : ByteArray} {H : Byts} {m m' : MV} (h : Mach w B gm gr gw vb s p H m) (hm : MBox w' B gm gr gw m') (hg : w.grownBy w' (some gm)) : Mach w' B gm gr gw vb s p H m' ∧ Fx (MSet gm gr gw vb) w w' := by
  have hf : Fx (fun k => k = gm) w w' := fx_grown hg (fun k e => by injection e with e; exact e.symm)
  exact ⟨⟨hm, ⟨hf.own h.rd.own (fun k e z => by cases e; exact h.n1 z.symm)⟩, h.win.fx hf (fun e => h.n2 e.symm) (fun k e z => h.b1 (by rw [e, z])), h.n1, h.n2, h.n3, h.b1, h.b2, h.Br⟩, hf.mono (fun k e => .inl e)⟩
/-- its window goes on -/
theorem Mach.wset {w w' : World} {B gm gr gw p : Nat} {vb vb' : Value} {s : ByteArray} {H H' : Byts} {m : MV} (h : Mach w B gm gr gw vb s p H m) (hw : WinAt w' B gw vb' H') (hk : ∀ k, vb'.ownBlock = some k → vb.ownBlock = some k ∨ w.heap.size ≤ k) (hf : WFx gw vb w w') : Mach w' B gm gr gw vb' s p H' m ∧ Fx (MSet gm gr gw vb) w w' := by
  have hgm := h.box.blk.2
  have hgr := h.rd.lt
  refine ⟨⟨h.box.fx hf (fun e => e.elim h.n2 h.b1), ⟨hf.own h.rd.own (fun k e z => by injection e with e; subst e; exact z.elim h.n3 h.b2)⟩, hw, h.n1, h.n2, h.n3, fun e => ?_, fun e => ?_, h.Br⟩, hf.mono (fun k e => e.elim (fun z => .inr (.inr (.inl z))) (fun z => .inr (.inr (.inr z))))⟩
  · rcases hk gm e with z | z
    · exact h.b1 z
    · omega
  · rcases hk gr e with z | z
    · exact h.b2 z
    · omega
/-- a table that lies in blocks a .. b -/
def TabIv (w : World) (v : Value) (a b : Nat) (L : List Nat) : Prop := ∃ g, v = .pointer (some ⟨g, 0, none⟩) ∧ b ≤ w.heap.size ∧ ∀ w' : World, (∀ k, a ≤ k → k < b → w'.heap[k]? = w.heap[k]?) → b ≤ w'.heap.size → TabAt w' a g L
theorem TabIv.fx {S : Nat → Prop} {w w' : World} {v : Value} {a b : Nat} {L : List Nat} (h : TabIv w v a b L) (hf : Fx S w w') (hS : ∀ k, a ≤ k → k < b → ¬ S k) : TabIv w' v a b L := by
  obtain ⟨g, h1, h2, h3⟩ := h
  refine ⟨g, h1, Nat.le_trans h2 hf.size, fun w'' h4 h5 => h3 w'' (fun k ha hb => ?_) h5⟩
  rw [h4 k ha hb, hf.block k (by omega) (hS k ha hb)]
theorem TabIv.here {w : World} {v : Value} {a b : Nat} {L : List Nat} (h : TabIv w v a b L) : ∃ g, v = .pointer (some ⟨g, 0, none⟩) ∧ TabAt w a g L := by
  obtain ⟨g, h1, h2, h3⟩ := h
  exact ⟨g, h1, h3 w (fun _ _ _ => rfl) h2⟩
set_option maxRecDepth 100000 in
theorem numberM {w : World} {B gm gr gw p : Nat} {s : ByteArray} {m : MV} (h : MBox w B gm gr gw m) (hr : BoxS w gr s p) (hs : s.size ≤ 4294967296) (hp : p ≤ 8 * s.size) (y : Nat × Nat × Bool) (hy1 : y.1 ≤ 40000) (hy2 : y.2.1 ≤ 32) :
    Calls Tryz.prog 96 #[.pointer (some ⟨gm, 0, none⟩), .int .i64 (y.1 : Nat), .int .i64 (y.2.1 : Nat), .bool y.2.2] w fun e w' => e = .returned (.tuple #[.int .i64 ((numB (numS s) (8 * s.size) p y).1 : Nat), .int .i64 ((numB (numS s) (8 * s.size) p y).2.1 : Nat)]) ∧ BoxS w' gr s (numB (numS s) (8 * s.size) p y).2.2 ∧ w.grownBy w' (some gr) := by
  obtain ⟨b, n, ok⟩ := y
  simp only at hy1 hy2 ⊢
  have HR := Lib.hid hr
  cases ok with
  | false =>
    unfold numB
    simp only [if_true]
    clear hr h
    go_enter Tryz.func96, Tryz.ntmps96
    go_wp2
    go_ret2
    exact ⟨rfl, HR.out, grown_below (Below.refl _ _) _⟩
  | true =>
    unfold numB
    simp only [if_neg (show ¬ (true = false) by decide)]
    have HBT := Lib.hid (bitsS hr hs n hy2 hp)
    unfold RetBits at HBT
    have hv : (bitsA (numS s) (8 * s.size) p n).1 < 2 ^ 32 := by
      unfold bitsA
      split
      · exact Nat.lt_of_lt_of_le (valN_lt _ _ _) (Nat.pow_le_pow_right (by decide) hy2)
      · exact Nat.pow_pos (by decide)
    generalize bitsA (numS s) (8 * s.size) p n = D at *
    obtain ⟨v, er, q⟩ := D
    simp only at HBT hv ⊢
    have c0 : w.cell? ⟨gm, 0, none⟩ = some (.pointer (some ⟨gr, 0, none⟩)) := h.cell (by decide)
    have hg := h.blk.2
    have hbv : b + v ≤ 10000000000 := by omega
    clear h hr
    go_enter Tryz.func96, Tryz.ntmps96
    go_wp2_with ((with_reducible go_at_call 76); (with_reducible refine HBT.out.mono ?_); rintro e w1 ⟨rfl, hb1, hg1⟩; have HB1 := Lib.hid hb1; have HG1 := Lib.hid hg1; clear hb1 hg1)
    go_ret2
    exact ⟨by go_num, HB1.out, HG1.out⟩
end Go.Cm

/- The walk of a copy's making. Conditions: the machine is there, its table of distances lies apart. -/
namespace Go.Cm
open Go.RowKit Go.Proofs

theorem TabAt.up' {w w' : World} {B g : Nat} {L : List Nat} (h : TabAt w B g L) (hb : Below w.heap.size w w') : TabAt w' B g L := by
  obtain ⟨E, fs, vf, h1, h2⟩ := h
  exact ⟨E, fs, vf, h1.up hb, h2⟩
/-- what a call that makes bytes answers: y is what the step does -/
def RetMake (B gm gr gw : Nat) (vb : Value) (s : ByteArray) (h0 : Byts) (m : MV) (M : MV → Prop) (y : Nat × IS) (w : World) (e : Ending) (w' : World) : Prop :=
  ∃ c p' H' vb' m', e = .returned (.tuple #[.string c, .int .i64 (y.1 : Nat)]) ∧ Mach w' B gm gr gw vb' s p' H' m' ∧ Fx (MSet gm gr gw vb) w w' ∧ (∀ k, vb'.ownBlock = some k → vb.ownBlock = some k ∨ w.heap.size ≤ k) ∧
    (y.1 = 0 → p' = y.2.p ∧ H' = y.2.h ∧ y.2.h = h0 ++ bys c ∧ M m') ∧ (y.1 ≠ 0 → m' = m)
set_option maxRecDepth 100000 in
set_option maxHeartbeats 2000000 in
theorem copiedM {w : World} {B gm gr gw p tc td : Nat} {vb : Value} {s : ByteArray} {z : IS} {m : MV} (h : Mach w B gm gr gw vb s p z.h m) (ht : TabIv w m.vd tc td z.di) (ha : ∀ k, tc ≤ k → k < td → ¬ MSet gm gr gw vb k) (h15 : ∀ x ∈ z.di, x ≤ 15) (hs : s.size ≤ 4294967296) (hp : p ≤ 8 * s.size) (sym : Nat) (hsy : sym < 100000) (hdl : z.di.length < 100000) :
    Calls Tryz.prog 87 #[.pointer (some ⟨gm, 0, none⟩), .int .i64 (sym : Nat)] w (RetMake B gm gr gw vb s z.h m (fun m' => m' = m) (cpyI (numS s) (8 * s.size) z sym p) w) := by
  obtain ⟨Y, hY⟩ : ∃ Y, Y = cpyI (numS s) (8 * s.size) z sym p := ⟨_, rfl⟩
  rw [← hY]
  have HY := Lib.hid hY
  clear hY
  unfold cpyI at HY
  have HLN := Lib.hid (fun W => lenP' sym hsy W)
  have hle := fun h => lenB_le (s := sym) h
  have hb1 : (lenB sym).1 ≤ 40000 ∧ (lenB sym).2.1 ≤ 32 := by
    by_cases h : (lenB sym).2.2 = true
    · obtain ⟨a, b, -⟩ := hle h; omega
    · have : lenB sym = (0, 0, false) := by
        unfold lenB at h ⊢
        by_cases h1 : sym = 285
        · rw [if_pos h1] at h; exact absurd rfl h
        · rw [if_neg h1] at h ⊢
          by_cases h2 : 257 ≤ sym ∧ sym < 285
          · rw [if_pos h2] at h; exact absurd rfl h
          · rw [if_neg h2]
      rw [this]; decide
  have HN1 := Lib.hid (fun (W : World) (hb : Below w.heap.size w W) => numberM (h.box.up hb) (h.rd.up hb) hs hp (lenB sym) hb1.1 hb1.2)
  have hn1 : (numB (numS s) (8 * s.size) p (lenB sym)).2.1 = 0 → (numB (numS s) (8 * s.size) p (lenB sym)).1 ≤ 300 ∧ (numB (numS s) (8 * s.size) p (lenB sym)).2.2 ≤ 8 * s.size := fun e => by
    obtain ⟨a1, a2, a3, a4⟩ := numB_ok e
    obtain ⟨l1, l2, l3, l4⟩ := hle a1
    have := valN_lt (numS s) p (lenB sym).2.1
    omega
  generalize numB (numS s) (8 * s.size) p (lenB sym) = D1 at *
  unfold symB at HLN
  generalize lenB sym = L1 at *
  obtain ⟨l1, l2, l3⟩ := L1
  obtain ⟨n, e1, p1⟩ := D1
  simp only at HY HLN HN1 hn1
  have HM := Lib.hid h
  have HNN := Lib.hid hn1
  clear h hn1 hle hb1
  go_enter Tryz.func87, Tryz.ntmps87
  go_upto_region 2 with (first | ((with_reducible go_at_call 97); (with_reducible refine (HLN.out _).mono ?_); rintro e w1 ⟨rfl, x1, rfl⟩) | ((with_reducible go_at_call 96); (with_reducible refine (HN1.out _ (ext_below w x1)).mono ?_); rintro e w2 ⟨rfl, hr2, hg2⟩; have HR2 := Lib.hid hr2; have HG2 := Lib.hid hg2; clear hr2 hg2))
  obtain ⟨hM2, hF2⟩ := (HM.out.up (ext_below w x1)).read HR2.out HG2.out
  have HM2 := Lib.hid hM2
  have HF2 := Lib.hid ((fx_below (S := MSet gm gr gw vb) (ext_below w x1)).trans hF2)
  clear hM2 hF2 HR2 HG2
  by_cases he1 : e1 = 0
  · subst he1
    rw [if_neg (fun h => h rfl)] at HY
    obtain ⟨hn3, hp1⟩ := HNN.out rfl
    have HN3 := Lib.hid hn3
    have HP1 := Lib.hid hp1
    have hT2 := ht.fx HF2.out (fun k h1 h2 => ha k h1 h2)
    obtain ⟨gt, hgt, hT⟩ := hT2.here
    have HTI := Lib.hid hT2
    have HRD := Lib.hid (readP (hT.up' (below_drewN w2 1)) (HM2.out.rd.up (below_drewN w2 1)) h15 hs hp1)
    rw [← World.drew_is_drewN] at HRD
    unfold RetRead at HRD
    have c0 : w2.cell? ⟨gm, 0, none⟩ = some (.pointer (some ⟨gr, 0, none⟩)) := HM2.out.box.cell (by decide)
    have c6 : w2.cell? ⟨gm, 6, none⟩ = some (.pointer (some ⟨gt, 0, none⟩)) := by rw [← hgt]; exact HM2.out.box.cell (by decide)
    have hgm := HM2.out.box.blk.2
    have hne : some gm ≠ some gr := fun e => HM2.out.n1 (by injection e)
    unfold cpyI2 at HY
    clear hT2 hT hn3 hp1 HNN
    go_wp2_with (fail)
    refine wp_region_phases (fun w' => ∃ x, w' = chg w2 (some gr) x) [([0,1,2,3,4,5,6,7],[8]), ([9,10,11,12,13],[])] (by kernel_rfl) (by kernel_rfl) (ex_chg (grown_drew _ _)) ?_
    (unfold wpPhases; simp only [pick, List.map_cons, List.map_nil, List.getD_cons_zero, List.getD_cons_succ])
    repeat (go_big_quiet_step (fail))
    refine wpQuiet_nil ?_
    unfold wpAct
    go_wp2_with ((with_reducible go_at_call 86); (with_reducible refine HRD.out.mono ?_); rintro e w3 ⟨a, er, d, rfl, hrn, hb3, hg3⟩; have HR3 := Lib.hid hrn; have HB3 := Lib.hid hb3; have HG3 := Lib.hid (grown_trans (grown_drew w2 (some gr)) hg3); clear hrn hb3 hg3)
    refine ⟨ex_chg HG3.out, ?_⟩
    unfold wpAct
    (unfold wpPhases; simp only [pick, List.map_cons, List.map_nil, List.getD_cons_zero, List.getD_cons_succ])
    repeat (go_big_quiet_step (fail))
    refine wpQuiet_nil ?_
    unfold wpAct
    unfold wpPhases
    intro hz; clear hz
    obtain ⟨ra, re, rd⟩ := read_one HR3.out (readF_ok z.di (numS s / 2 ^ p1) (8 * s.size - p1))
    rw [← ra, ← re, ← rd] at HY
    have HRL := Lib.hid (read_le HR3.out)
    have HRA : Hid (a < 100000) := Lib.hid (by
      rcases HR3.out with ⟨h1, -⟩ | ⟨-, h1, -⟩ <;> omega)
    obtain ⟨hM3, hF3⟩ := HM2.out.read HB3.out HG3.out
    have HM3 := Lib.hid hM3
    have HF3 := Lib.hid (HF2.out.trans hF3)
    clear hM3 hF3 HB3 HG3 HRD HM2 HF2 c0 c6 hgm ra re rd HTI hgt
    by_cases her : er = 0
    · subst her
      rw [if_neg (fun h => h rfl)] at HY
      have HP3 : Hid (p1 + d ≤ 8 * s.size) := Lib.hid (by have := HRL.out; have := HP1.out; omega)
      have HDS := Lib.hid (fun W => dstP' a HRA.out W)
      have hle := fun h => dstB_le (s := a) h
      have hb1 : (dstB a).1 ≤ 40000 ∧ (dstB a).2.1 ≤ 32 := by
        by_cases h : (dstB a).2.2 = true
        · obtain ⟨x1, x2, x3⟩ := hle h
          have : 0 < 2 ^ (dstB a).2.1 := Nat.pow_pos (by decide)
          omega
        · have : dstB a = (0, 0, false) := by
            unfold dstB at h ⊢
            by_cases h1 : a < 30
            · rw [if_pos h1] at h; exact absurd rfl h
            · rw [if_neg h1]
          rw [this]; decide
      have HN4 := Lib.hid (fun (W : World) (hb : Below w3.heap.size w3 W) => numberM (HM3.out.box.up hb) (HM3.out.rd.up hb) hs HP3.out (dstB a) hb1.1 hb1.2)
      have hn4 : (numB (numS s) (8 * s.size) (p1 + d) (dstB a)).2.1 = 0 → 1 ≤ (numB (numS s) (8 * s.size) (p1 + d) (dstB a)).1 ∧ (numB (numS s) (8 * s.size) (p1 + d) (dstB a)).1 ≤ 40000 := fun e => by
        obtain ⟨a1, a2, a3, a4⟩ := numB_ok e
        obtain ⟨x1, x2, x3⟩ := hle a1
        have := valN_lt (numS s) (p1 + d) (dstB a).2.1
        omega
      generalize numB (numS s) (8 * s.size) (p1 + d) (dstB a) = D4 at *
      unfold symB at HDS
      generalize dstB a = L4 at *
      obtain ⟨q1, q2, q3⟩ := L4
      obtain ⟨dd, e4, p4⟩ := D4
      simp only at HY HDS HN4 hn4
      have HN5 := Lib.hid hn4
      clear hn4 hle hb1 HR3 HRL HRA
      unfold cpyI3 at HY
      simp only at HY
      go_upto_region 8 with (first | ((with_reducible go_at_call 98); (with_reducible refine (HDS.out _).mono ?_); rintro e w4 ⟨rfl, x4, rfl⟩) | ((with_reducible go_at_call 96); (with_reducible refine (HN4.out _ (ext_below w3 x4)).mono ?_); rintro e w5 ⟨rfl, hr5, hg5⟩; have HR5 := Lib.hid hr5; have HG5 := Lib.hid hg5; clear hr5 hg5))
      obtain ⟨hM5, hF5⟩ := (HM3.out.up (ext_below w3 x4)).read HR5.out HG5.out
      have HM5 := Lib.hid hM5
      have HF5 := Lib.hid (HF3.out.trans ((fx_below (S := MSet gm gr gw vb) (ext_below w3 x4)).trans hF5))
      clear hM5 hF5 HR5 HG5 HM3 HF3
      by_cases he4 : e4 = 0
      · subst he4
        rw [if_neg (fun h => h rfl)] at HY
        obtain ⟨hd1, hd2⟩ := HN5.out rfl
        have HCP := Lib.hid (copyWn HM5.out.win HM5.out.B dd n hd1 hd2 (by have := HN3.out; omega))
        unfold RetCopy at HCP
        have c1 : w5.cell? ⟨gm, 1, none⟩ = some (.pointer (some ⟨gw, 0, none⟩)) := HM5.out.box.cell (by decide)
        have hgm := HM5.out.box.blk.2
        by_cases hbig : min z.h.length 32768 < dd
        · simp only [if_pos hbig] at HCP
          rw [if_pos hbig] at HY
          clear hbig hd1 hd2
          go_wp2_with ((with_reducible go_at_call 99); (with_reducible refine HCP.out.mono ?_); rintro e w6 ⟨rfl, hw6⟩; rw [hw6]; clear hw6)
          go_ret2
          refine ⟨⟨#[]⟩, p4, z.h, vb, m, by rw [HY.out]; rfl, HM5.out, HF5.out, fun k e => .inl e, fun e => ?_, fun _ => rfl⟩
          rw [HY.out] at e
          cases e
        · simp only [if_neg hbig] at HCP
          rw [if_neg hbig] at HY
          clear hbig hd1 hd2
          go_wp2_with ((with_reducible go_at_call 99); (with_reducible refine HCP.out.mono ?_); rintro e w6 ⟨c, v6, rfl, hc6, hl6, hw6, hk6, hf6⟩; have HC6 := Lib.hid hc6; have HW6 := Lib.hid hw6; have HK6 := Lib.hid hk6; have HF6 := Lib.hid hf6; clear hc6 hw6 hk6 hf6 hl6)
          go_ret2
          obtain ⟨hM7, hF7⟩ := HM5.out.wset HW6.out HK6.out HF6.out
          refine ⟨⟨c.toArray⟩, p4, z.h ++ c, v6, m, by rw [HY.out]; rfl, hM7, HF5.out.trans hF7, fun k e => (HK6.out k e).imp id (fun h => Nat.le_trans HF5.out.size h), fun e => ?_, fun _ => rfl⟩
          rw [HY.out]
          exact ⟨rfl, HC6.out.symm, by rw [bys_mk]; exact HC6.out, rfl⟩
      · rw [if_pos he4] at HY
        have hei : ((e4 : Int) != 0) = true := by simpa using he4
        go_wp2
        go_ret2
        refine ⟨⟨#[]⟩, p4, z.h, vb, m, by rw [HY.out]; rfl, HM5.out, HF5.out, fun k e => .inl e, fun e => ?_, fun _ => rfl⟩
        rw [HY.out] at e
        exact absurd e he4
    · rw [if_pos her] at HY
      have hei : ((er : Int) != 0) = true := by simpa using her
      go_wp2
      go_ret2
      refine ⟨⟨#[]⟩, p1 + d, z.h, vb, m, by rw [HY.out]; rfl, HM3.out, HF3.out, fun k e => .inl e, fun e => ?_, fun _ => rfl⟩
      rw [HY.out] at e
      exact absurd e her
  · rw [if_pos he1] at HY
    have hei : ((e1 : Int) != 0) = true := by simpa using he1
    go_wp2
    go_ret2
    refine ⟨⟨#[]⟩, p1, z.h, vb, m, by rw [HY.out]; rfl, HM2.out, HF2.out, fun k e => .inl e, fun e => ?_, fun _ => rfl⟩
    rw [HY.out] at e
    exact absurd e he1
end Go.Cm

/- The walk of a coded block's next bytes. Conditions: the machine is there, its tables lie apart. -/
namespace Go.Cm
open Go.RowKit Go.Proofs

def MRel (z : IS) (m : MV) : Prop := m.at_ = z.md ∧ m.fin = z.fin ∧ (z.md = 1 → m.left = z.left) ∧ (z.md < 3 → m.vf = fnV z.md)
def MKeep (m m' : MV) : Prop := m'.vl = m.vl ∧ m'.vd = m.vd ∧ m'.made = m.made ∧ m'.told = m.told ∧ m'.waits = m.waits ∧ m'.wrong = m.wrong ∧ m'.vs = m.vs
theorem MKeep.refl (m : MV) : MKeep m m := ⟨rfl, rfl, rfl, rfl, rfl, rfl, rfl⟩
theorem MRel.close {z : IS} {m : MV} (h : MRel z m) : MRel (closeI z) m.close ∧ MKeep m m.close := by
  obtain ⟨h1, h2, h3, h4⟩ := h
  unfold closeI MV.close MV.turn
  refine ⟨⟨by show (if m.fin = true then 3 else 0) = _; rw [h2], h2, fun e => ?_, fun e => ?_⟩, rfl, rfl, rfl, rfl, rfl, rfl, rfl⟩
  · have e' : (if z.fin = true then 3 else 0) = 1 := e
    split at e' <;> cases e'
  · have e' : (if z.fin = true then 3 else 0) < 3 := e
    show (if (if m.fin = true then 3 else 0) < 3 then fnV (if m.fin = true then 3 else 0) else m.vf) = fnV (if z.fin = true then 3 else 0)
    rw [h2, if_pos e']
theorem MRel.of {z z' : IS} {m : MV} (h : MRel z m) (h1 : z'.md = z.md) (h2 : z'.fin = z.fin) (h3 : z'.left = z.left) : MRel z' m := by
  obtain ⟨a, b, c, d⟩ := h
  exact ⟨a.trans h1.symm, b.trans h2.symm, fun e => by rw [h3]; exact c (by rw [← h1]; exact e), fun e => by rw [h1]; exact d (by rw [← h1]; exact e)⟩
theorem cpyI_same {N T s p : Nat} {z : IS} : (cpyI N T z s p).2.md = z.md ∧ (cpyI N T z s p).2.fin = z.fin ∧ (cpyI N T z s p).2.left = z.left := by
  unfold cpyI
  split
  · exact ⟨rfl, rfl, rfl⟩
  · unfold cpyI2
    split
    · exact ⟨rfl, rfl, rfl⟩
    · unfold cpyI3
      split
      · exact ⟨rfl, rfl, rfl⟩
      · split <;> exact ⟨rfl, rfl, rfl⟩
theorem RetMake.mono {B gm gr gw : Nat} {vb : Value} {s : ByteArray} {h0 : Byts} {m : MV} {M M' : MV → Prop} {y : Nat × IS} {w : World} {e : Ending} {w' : World} (h : RetMake B gm gr gw vb s h0 m M y w e w') (hM : y.1 = 0 → ∀ x, M x → M' x) : RetMake B gm gr gw vb s h0 m M' y w e w' := by
  obtain ⟨c, p', H', vb', m', h1, h2, h3, h4, h5, h6⟩ := h
  exact ⟨c, p', H', vb', m', h1, h2, h3, h4, fun e => (let ⟨a, b, c, d⟩ := h5 e; ⟨a, b, c, hM e _ d⟩), h6⟩
/-- a call's answer, where memory was changed ahead of it -/
theorem RetMake.from {B gm gr gw : Nat} {vb : Value} {s : ByteArray} {h0 : Byts} {m : MV} {M : MV → Prop} {y : Nat × IS} {w w1 : World} {e : Ending} {w' : World} (hf : Fx (MSet gm gr gw vb) w w1) (h : RetMake B gm gr gw vb s h0 m M y w1 e w') : RetMake B gm gr gw vb s h0 m M y w e w' := by
  obtain ⟨c, p', H', vb', m', h1, h2, h3, h4, h5, h6⟩ := h
  exact ⟨c, p', H', vb', m', h1, h2, hf.trans h3, fun k e => (h4 k e).imp id (fun q => Nat.le_trans hf.size q), h5, h6⟩
set_option maxRecDepth 100000 in
set_option maxHeartbeats 2000000 in
theorem codedM {w : World} {B gm gr gw ta tb tc td : Nat} {vb : Value} {s : ByteArray} {z : IS} {m : MV} (h : Mach w B gm gr gw vb s z.p z.h m) (hl : TabIv w m.vl ta tb z.li) (ht : TabIv w m.vd tc td z.di) (ha : ∀ k, tc ≤ k → k < td → ¬ MSet gm gr gw vb k)
    (h15l : ∀ x ∈ z.li, x ≤ 15) (h15 : ∀ x ∈ z.di, x ≤ 15) (hs : s.size ≤ 4294967296) (hp : z.p ≤ 8 * s.size) (hll : z.li.length < 100000) (hdl : z.di.length < 100000) (hr : MRel z m) :
    Calls Tryz.prog 62 #[.pointer (some ⟨gm, 0, none⟩)] w (RetMake B gm gr gw vb s z.h m (fun m' => MRel (codI (numS s) (8 * s.size) z).2 m' ∧ MKeep m m') (codI (numS s) (8 * s.size) z) w) := by
  obtain ⟨Y, hY⟩ : ∃ Y, Y = codI (numS s) (8 * s.size) z := ⟨_, rfl⟩
  rw [← hY]
  have HY := Lib.hid hY
  clear hY
  unfold codI codI2 at HY
  have HM := Lib.hid h
  obtain ⟨gt, hgt, hT⟩ := hl.here
  have HRD := Lib.hid (readP (hT.up' (below_drewN w 1)) (h.rd.up (below_drewN w 1)) h15l hs hp)
  rw [← World.drew_is_drewN] at HRD
  unfold RetRead at HRD
  have c0 : w.cell? ⟨gm, 0, none⟩ = some (.pointer (some ⟨gr, 0, none⟩)) := h.box.cell (by decide)
  have c5 : w.cell? ⟨gm, 5, none⟩ = some (.pointer (some ⟨gt, 0, none⟩)) := by rw [← hgt]; exact h.box.cell (by decide)
  have hgm := h.box.blk.2
  have hne : some gm ≠ some gr := fun e => h.n1 (by injection e)
  clear h hT
  go_enter Tryz.func62, Tryz.ntmps62
  go_wp2_with (fail)
  refine wp_region_phases (fun w' => ∃ x, w' = chg w (some gr) x) [([0,1,2,3,4,5,6,7],[8]), ([9,10,11,12,13],[])] (by kernel_rfl) (by kernel_rfl) (ex_chg (grown_drew _ _)) ?_
  (unfold wpPhases; simp only [pick, List.map_cons, List.map_nil, List.getD_cons_zero, List.getD_cons_succ])
  repeat (go_big_quiet_step (fail))
  refine wpQuiet_nil ?_
  unfold wpAct
  go_wp2_with ((with_reducible go_at_call 86); (with_reducible refine HRD.out.mono ?_); rintro e w3 ⟨a, er, d, rfl, hrn, hb3, hg3⟩; have HR3 := Lib.hid hrn; have HB3 := Lib.hid hb3; have HG3 := Lib.hid (grown_trans (grown_drew w (some gr)) hg3); clear hrn hb3 hg3)
  refine ⟨ex_chg HG3.out, ?_⟩
  unfold wpAct
  (unfold wpPhases; simp only [pick, List.map_cons, List.map_nil, List.getD_cons_zero, List.getD_cons_succ])
  repeat (go_big_quiet_step (fail))
  refine wpQuiet_nil ?_
  unfold wpAct
  unfold wpPhases
  intro hz; clear hz
  obtain ⟨ra, re, rd⟩ := read_one HR3.out (readF_ok z.li (numS s / 2 ^ z.p) (8 * s.size - z.p))
  rw [← ra, ← re, ← rd] at HY
  have HRL := Lib.hid (read_le HR3.out)
  have HRA : Hid (a < 100000) := Lib.hid (by
    rcases HR3.out with ⟨h1, -⟩ | ⟨-, h1, -⟩ <;> omega)
  obtain ⟨hM3, hF3⟩ := HM.out.read HB3.out HG3.out
  have HM3 := Lib.hid hM3
  have HF3 := Lib.hid hF3
  have HT3 := Lib.hid (ht.fx hF3 (fun k h1 h2 => ha k h1 h2))
  clear hM3 hF3 HB3 HG3 HRD HM c0 c5 hgm ra re rd hgt ht hl
  by_cases her : er = 0
  · subst her
    rw [if_neg (fun h => h rfl)] at HY
    have HP3 : Hid (z.p + d ≤ 8 * s.size) := Lib.hid (by have := HRL.out; omega)
    by_cases h256 : a = 256
    · rw [if_pos h256] at HY
      subst h256
      have HCL := Lib.hid (closeM HM3.out.box)
      go_wp2_with ((with_reducible go_at_call 83); (with_reducible refine HCL.out.mono ?_); rintro e w4 ⟨rfl, h4, g4⟩; have H4 := Lib.hid h4; have G4 := Lib.hid g4; clear h4 g4)
      go_ret2
      obtain ⟨hM4, hF4⟩ := HM3.out.mset H4.out G4.out
      refine ⟨⟨#[]⟩, z.p + d, z.h, vb, m.close, by rw [HY.out]; rfl, hM4, HF3.out.trans hF4, fun k e => .inl e, fun _ => ?_, fun e => ?_⟩
      · rw [HY.out]
        exact ⟨rfl, rfl, by simp [closeI, bys], (hr.of (z' := { z with p := z.p + d }) rfl rfl rfl).close⟩
      · rw [HY.out] at e; exact absurd rfl e
    · rw [if_neg h256] at HY
      have h256i : ((a : Int) == 256) = false := by simp; omega
      by_cases hgt : 256 < a
      · rw [if_pos hgt] at HY
        have hga : (a : Int) > 256 := by omega
        have hgn : 256 < a := hgt
        have hsm := cpyI_same (N := numS s) (T := 8 * s.size) (z := z) (s := a) (p := z.p + d)
        have HCO := Lib.hid (copiedM HM3.out HT3.out ha h15 hs HP3.out a HRA.out hdl)
        rw [← HY.out] at HCO hsm
        have HSM := Lib.hid hsm
        clear hsm hgt
        go_wp2_with ((with_reducible go_at_call 87); (with_reducible refine HCO.out.mono ?_); rintro e w4 hret; have HRT := Lib.hid (RetMake.from HF3.out hret); obtain ⟨c, p', H', vb', m', rfl, -⟩ := hret)
        go_ret2
        exact HRT.out.mono (fun _ x hx => by
          obtain ⟨s1, s2, s3⟩ := HSM.out
          rw [hx]
          exact ⟨hr.of s1 s2 s3, MKeep.refl m⟩)
      · rw [if_neg hgt] at HY
        have hga : ¬ 256 < a := hgt
        have ha8 : a < 256 := by omega
        clear hgt
        have hb8 : IntKind.u8.wrap (a : Int) = (a : Int) := by unfold IntKind.wrap; simp [IntKind.bits, IntKind.signed]; omega
        have h5b := own_lit w3 w3.heap.size #[.int .u8 (a : Nat)] 5 (by simp) (Nat.le_refl _)
        have hcv := run_bytes_string (P := Tryz.prog) (w3.alloc (.cells #[.int .u8 (a : Nat)] 5)) 54 9 5 Tryz.underlying54 Tryz.underlying5 Tryz.underlying9 (.slice (some ⟨w3.heap.size, 0, none⟩) 1 1) [UInt8.ofNat a] (by
          rw [byte_u8 a ha8]
          exact h5b.sl)
        have HCV := Lib.hid hcv
        have HA5 := Lib.hid (below_alloc w3 (.cells #[.int .u8 (a : Nat)] 5))
        have HM5 := Lib.hid (HM3.out.up HA5.out)
        have HF5 := Lib.hid (HF3.out.trans (fx_below (S := MSet gm gr gw vb) HA5.out))
        obtain ⟨cs, hcs⟩ : ∃ cs : ByteArray, cs = ⟨[UInt8.ofNat a].toArray⟩ := ⟨_, rfl⟩
        have HPU := Lib.hid (putWn HM5.out.win HM5.out.B cs (by rw [hcs]; show [UInt8.ofNat a].toArray.size ≤ _; simp))
        have HCS := Lib.hid hcs
        rw [← hcs] at HCV
        clear h5b hcv hcs
        go_upto_region 10 with ((with_reducible show wpList _ _ _ (Oper.mk _ (.convert _ _ _) _ _ _ _ :: _) _ _); refine wpList_conv_by rfl 54 9 (.tmp 38) rfl _ HCV.out ?_)
        have hby : bys cs = [UInt8.ofNat a] := by rw [HCS.out, bys_mk]
        rw [hby] at HPU
        generalize w3.alloc (.cells #[.int .u8 (a : Nat)] 5) = w5 at *
        have c1 : w5.cell? ⟨gm, 1, none⟩ = some (.pointer (some ⟨gw, 0, none⟩)) := HM5.out.box.cell (by decide)
        have hgm := HM5.out.box.blk.2
        clear HCV HA5 HM3 HF3 HT3
        go_wp2_with ((with_reducible go_at_call 35); (with_reducible refine HPU.out.mono ?_); rintro e w6 ⟨rfl, v6, hw6, hk6, hf6⟩; have HW6 := Lib.hid hw6; have HK6 := Lib.hid hk6; have HF6 := Lib.hid hf6; clear hw6 hk6 hf6)
        go_ret2
        obtain ⟨hM7, hF7⟩ := HM5.out.wset HW6.out HK6.out HF6.out
        refine ⟨cs, z.p + d, z.h ++ [UInt8.ofNat a], v6, m, by rw [HY.out]; rfl, hM7, HF5.out.trans hF7, fun k e => (HK6.out k e).imp id (fun h => Nat.le_trans HF5.out.size h), fun e => ?_, fun _ => rfl⟩
        rw [HY.out, hby]
        exact ⟨rfl, rfl, rfl, hr.of rfl rfl rfl, MKeep.refl m⟩
  · rw [if_pos her] at HY
    have hei : ((er : Int) != 0) = true := by simpa using her
    go_wp2
    go_ret2
    refine ⟨⟨#[]⟩, z.p + d, z.h, vb, m, by rw [HY.out]; rfl, HM3.out, HF3.out, fun k e => .inl e, fun e => ?_, fun _ => rfl⟩
    rw [HY.out] at e
    exact absurd e her
end Go.Cm
