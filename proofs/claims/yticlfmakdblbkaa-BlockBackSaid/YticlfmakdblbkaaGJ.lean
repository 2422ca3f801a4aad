/- Texts of this claim, joined: walks of small functions and plain facts about them. Conditions: as each says. -/
import Derived.Test.YticlfmakdblbkaaGE
import Derived.Test.YticlfmakdblbkaaGI
import Derived.Test.YticlfmakdblbkaaGC
import Derived.Deep.LoopGhost
/- The writing of a head, in plain Lean: numbers that are put one behind the other. Conditions: none. -/
namespace Go.Cm

def putS (xs : List (Nat × Nat)) (st : Nat × Nat) : Nat × Nat := xs.foldl (fun st x => (st.1 + x.1 * 2 ^ st.2, st.2 + x.2)) st
theorem putS_nil (st : Nat × Nat) : putS [] st = st := rfl
theorem putS_cons (x : Nat × Nat) (xs : List (Nat × Nat)) (st : Nat × Nat) : putS (x :: xs) st = putS xs (st.1 + x.1 * 2 ^ st.2, st.2 + x.2) := rfl
theorem putS_append (xs ys : List (Nat × Nat)) (st : Nat × Nat) : putS (xs ++ ys) st = putS ys (putS xs st) := by unfold putS; rw [List.foldl_append]
theorem putS_snoc (xs : List (Nat × Nat)) (x : Nat × Nat) (st : Nat × Nat) : putS (xs ++ [x]) st = ((putS xs st).1 + x.1 * 2 ^ (putS xs st).2, (putS xs st).2 + x.2) := by rw [putS_append]; rfl
theorem putS_len (xs : List (Nat × Nat)) : ∀ (st : Nat × Nat), (putS xs st).2 = st.2 + (xs.map Prod.snd).sum := by
  induction xs with
  | nil => intro st; simp [putS_nil]
  | cons x xs ih => intro st; rw [putS_cons, ih]; simp; omega
def ordS : List (Nat × Nat) := ordN.map fun s => (if s < 16 then 4 else 0, 3)
def codS (l : List Nat) : List (Nat × Nat) := l.map fun n => (turnN n 4, 4)
def lenS (n m : Nat) : List (Nat × Nat) := [(n - 257, 5), (m - 1, 5), (15, 4)]
def dynS (l1 l2 : List Nat) : List (Nat × Nat) := lenS l1.length l2.length ++ (ordS ++ (codS l1 ++ codS l2))
def alignW (st : Nat × Nat) : Nat × Nat := (st.1, alignN st.2)
def finN (b : Bool) : Nat := if b then 1 else 0
/-- what stands in a writer behind a head -/
def writeN (H : HeadN) (st : Nat × Nat) : Nat × Nat :=
  if H.kind = 0 then putS [(H.size, 16), (65535 - H.size, 16)] (alignW (putS [(finN H.fin, 1), (0, 2)] st))
  else if H.kind = 1 then putS [(finN H.fin, 1), (1, 2)] st
  else putS (dynS H.lits H.dists) (putS [(finN H.fin, 1), (2, 2)] st)
theorem ordS_take (k : Nat) (h : k < 19) : ordS.take (k + 1) = ordS.take k ++ [(if ordN.getD k 0 < 16 then 4 else 0, 3)] := by
  have : ∀ k, k < 19 → ordS.take (k + 1) = ordS.take k ++ [(if ordN.getD k 0 < 16 then 4 else 0, 3)] := by decide
  exact this k h
theorem codS_take (l : List Nat) (k : Nat) (h : k < l.length) : codS (l.take (k + 1)) = codS (l.take k) ++ [(turnN (l.getD k 0) 4, 4)] := by
  unfold codS
  rw [take_succ_getD l k 0 h, List.map_append]; rfl
theorem codS_len (l : List Nat) (st : Nat × Nat) : (putS (codS l) st).2 = st.2 + 4 * l.length := by
  rw [putS_len]
  congr 1
  induction l with
  | nil => rfl
  | cons x l ih => simp [codS] at ih ⊢; omega
theorem ordS_len (k : Nat) (st : Nat × Nat) : (putS (ordS.take k) st).2 ≤ st.2 + 57 := by
  rw [putS_len]
  have hs : ∀ k, ((ordS.take k).map Prod.snd).sum ≤ 57 := fun k => by
    by_cases h : k < 20
    · have : ∀ k, k < 20 → ((ordS.take k).map Prod.snd).sum ≤ 57 := by decide
      exact this k h
    · rw [List.take_of_length_le (by show 19 ≤ k; omega)]; decide
  have := hs k
  omega
end Go.Cm

/- A writer's state while numbers are put, and the walks of its Align. Conditions: the writer is there. -/
namespace Go.Cm
open Go.RowKit Go.Proofs

/-- the program's writer in block g, whose row was vb0 in world w0 -/
def WSt (w0 : World) (B g : Nat) (vb0 : Value) (st : Nat × Nat) (W : World) : Prop := ∃ vb, WrtV W B g st.1 st.2 vb ∧ Below B w0 W ∧ Fr g vb0 vb w0 W
theorem WSt.start {w : World} {B g N L : Nat} {vb : Value} (h : WrtV w B g N L vb) : WSt w B g vb (N, L) w := ⟨vb, h, Below.refl _ _, Fr.refl _ _ _⟩
theorem WSt.up {w0 W W' : World} {B g : Nat} {vb0 : Value} {st : Nat × Nat} (h : WSt w0 B g vb0 st W) (hb : Below W.heap.size W W') (hB : B ≤ W.heap.size) : WSt w0 B g vb0 st W' := by
  obtain ⟨vb, h1, h2, h3⟩ := h
  exact ⟨vb, h1.up hb, h2.trans (hb.mono hB), h3.below hb⟩
theorem WSt.bel {w0 W : World} {B g : Nat} {vb0 : Value} {st : Nat × Nat} (h : WSt w0 B g vb0 st W) : Below B w0 W := by
  obtain ⟨vb, h1, h2, h3⟩ := h; exact h2
theorem WSt.lt {w0 W : World} {B g : Nat} {vb0 : Value} {st : Nat × Nat} (h : WSt w0 B g vb0 st W) : g < W.heap.size ∧ B ≤ g := by
  obtain ⟨vb, h1, h2, h3⟩ := h; exact ⟨h1.box.lt, h1.ge⟩
theorem WSt.size {w0 W : World} {B g : Nat} {vb0 : Value} {st : Nat × Nat} (h : WSt w0 B g vb0 st W) : w0.heap.size ≤ W.heap.size := h.bel.size
/-- a block that was there and is none of the writer's stays -/
theorem WSt.own {w0 W : World} {B g B' E : Nat} {vb0 v : Value} {st : Nat × Nat} {xs : List Value} (h : WSt w0 B g vb0 st W) (ho : Own w0 B' E v xs) (h1 : v.ownBlock ≠ some g) (h2 : ∀ k, v.ownBlock = some k → vb0.ownBlock ≠ some k) : Own W B' E v xs := by
  obtain ⟨vb, -, -, h3⟩ := h
  exact ho.of_blk fun k hk => h3.1 k (ho.lt k hk).2 (fun e => h1 (by rw [hk, e])) (h2 k hk)
/-- a writing that begins where one has ended -/
theorem WSt.join {w0 W : World} {B g : Nat} {vb0 : Value} {st st' : Nat × Nat} {P : Program} {f : FuncId} {args : Array Value} {Q : Ending → Prop} (h : WSt w0 B g vb0 st W)
    (hc : ∀ vb, WrtV W B g st.1 st.2 vb → Calls P f args W fun e w' => Q e ∧ WSt W B g vb st' w') : Calls P f args W fun e w' => Q e ∧ WSt w0 B g vb0 st' w' := by
  obtain ⟨vb, h1, h2, h3⟩ := h
  exact (hc vb h1).mono fun e w' ⟨hq, vb', g1, g2, g3⟩ => ⟨hq, vb', g1, h2.trans g2, h3.trans g3⟩
theorem putW {w0 W : World} {B g : Nat} {vb0 : Value} {st : Nat × Nat} (h : WSt w0 B g vb0 st W) (v n : Nat) (hv : v < 2 ^ n) (hn : n ≤ 32) (hL : st.2 + n ≤ 34359738368) :
    Calls Try.prog 21 #[.pointer (some ⟨g, 0, none⟩), .int .i64 v, .int .i64 n] W fun e w' => e = .returned (.int .i64 0) ∧ WSt w0 B g vb0 (st.1 + v * 2 ^ st.2, st.2 + n) w' :=
  h.join (Q := fun e => e = .returned (.int .i64 0)) fun _ hb => (putV hb v n hv hn hL).mono fun _ _ ⟨he, vb', h1, h2, h3⟩ => ⟨he, vb', h1, h2, h3⟩
theorem codeW {w0 W : World} {B g : Nat} {vb0 : Value} {st : Nat × Nat} (h : WSt w0 B g vb0 st W) (v n : Nat) (hv : v < 2 ^ n) (hn : n ≤ 32) (hL : st.2 + n ≤ 34359738368) :
    Calls Try.prog 61 #[.pointer (some ⟨g, 0, none⟩), .int .i64 v, .int .i64 n] W fun e w' => e = .returned (.int .i64 0) ∧ WSt w0 B g vb0 (st.1 + turnN v n * 2 ^ st.2, st.2 + n) w' :=
  h.join (Q := fun e => e = .returned (.int .i64 0)) fun _ hb => (codeV hb v n hv hn hL).mono fun _ _ ⟨he, vb', h1, h2, h3⟩ => ⟨he, vb', h1, h2, h3⟩
theorem alignWP {w0 W : World} {B g : Nat} {vb0 : Value} {st : Nat × Nat} (h : WSt w0 B g vb0 st W) (hL : st.2 ≤ 1000000) :
    Calls Try.prog 41 #[.pointer (some ⟨g, 0, none⟩)] W fun e w' => e = .returned (.tuple #[]) ∧ WSt w0 B g vb0 (alignW st) w' := by
  obtain ⟨N, L⟩ := st
  have HW := Lib.hid h
  obtain ⟨vb, h1, -, -⟩ := h
  have HBX := Lib.hid h1.box
  have c3 := h1.box.c3
  have hg := h1.box.lt
  have hr : L % 8 < 8 := Nat.mod_lt _ (by decide)
  by_cases h0 : L % 8 = 0
  · have HA : Hid (alignW (N, L) = (N, L)) := Lib.hid (by unfold alignW alignN; dsimp only; congr 1; omega)
    rw [h0] at c3
    rw [HA.out]
    clear h1 h0
    go_enter Try.func41, Try.ntmps41
    go_wp2_with (go_at_call 43; refine (thereP HBX.out).mono ?_; rintro e w' ⟨rfl, hw'⟩; rw [hw']; clear hw')
    go_end0
    exact ⟨rfl, HW.out⟩
  · have HA : Hid (alignW (N, L) = (N + 0 * 2 ^ L, L + (8 - L % 8))) := Lib.hid (by unfold alignW alignN; dsimp only; rw [Nat.zero_mul, Nat.add_zero]; congr 1; omega)
    have HPW := Lib.hid (putW HW.out 0 (8 - L % 8) (Nat.two_pow_pos _) (by omega) (by simp only at hL ⊢; omega))
    rw [show ((0 : Nat) : Int) = 0 from rfl] at HPW
    have hi : ((L % 8 : Nat) : Int) > 0 := by omega
    have hsub : (8 : Int) - ((L % 8 : Nat) : Int) = ((8 - L % 8 : Nat) : Int) := by omega
    rw [HA.out]
    clear h1 h0
    generalize hm : L % 8 = m at *
    generalize 8 - m = d at *
    go_enter Try.func41, Try.ntmps41
    go_wp2_with (first | (go_at_call 43; refine (thereP HBX.out).mono ?_; rintro e w' ⟨rfl, hw'⟩; rw [hw']; clear hw') | (go_at_call 21; (with_reducible refine HPW.out.mono ?_); rintro e w2 ⟨rfl, hq⟩; have HQ := Lib.hid hq; clear hq))
    go_end0
    exact ⟨rfl, HQ.out⟩
end Go.Cm

/- Whether both codes of a block fit, for any ints; what is wrong of a head. Conditions: the lists read as lists. -/
namespace Go.Cm
open Go.RowKit Go.Proofs

def fits2I (l1 l2 : List Int) : Nat := if l1.getD 256 0 = 0 then 21 else if fitsE l1 true ≠ 0 then fitsE l1 true else fitsE l2 true
theorem fits2_nls (l1 l2 : List Nat) : fits2I (nls l1) (nls l2) = fits2 l1 l2 := by
  unfold fits2I fits2
  rw [nls_getD]
  by_cases h : l1.getD 256 0 = 0
  · rw [if_pos h, if_pos (by omega)]
  · rw [if_neg h, if_neg (by omega)]
theorem fits2PI (u v : Value) (lits dists : List Int) (w : World) (hu : IntsAt w u lits) (hv : IntsAt w v dists) (h256 : 256 < lits.length) :
    Calls Try.prog 57 #[u, v] w fun e w' => e = .returned (.int .i64 (fits2I lits dists : Nat)) ∧ Below w.heap.size w w' := by
  have HF1 := Lib.hid (fitsP u lits true w hu)
  have HF2 := Lib.hid (fun W (hb : Below w.heap.size w W) => fitsP v dists true W (hv.up hb))
  obtain ⟨oa, cap, b, off, hvv, hd, hc⟩ := hu.open
  subst hvv
  have hcell := hc 256 h256
  have hix := index_any (P := Try.prog) 31 3 Try.underlying31 (by kernel_rfl) hd
  have hm := hd.len
  have hbb := hd.hblk (by omega)
  have hli : (256 : Int) < (lits.length : Int) := by omega
  obtain ⟨r, hr⟩ : ∃ r, r = fits2I lits dists := ⟨_, rfl⟩
  rw [← hr]
  unfold fits2I at hr
  have HR := Lib.hid hr
  clear hc hd hu hv hr
  generalize fitsE lits true = e1 at *
  generalize fitsE dists true = e2 at *
  generalize lits.getD 256 0 = y at *
  generalize lits.length = m at *
  by_cases hy : y = 0
  · have h21 : r = 21 := by rw [HR.out]; exact if_pos hy
    subst h21 hy
    clear HR
    go_enter Try.func57, Try.ntmps57
    go_wp2
    go_ret
    exact ⟨rfl, Below.refl _ _⟩
  · have hy' : (y == 0) = false := by simpa using hy
    by_cases he : e1 = 0
    · have h2 : r = e2 := by rw [HR.out, if_neg hy]; exact if_neg (by omega)
      subst h2 he
      clear HR hy
      go_enter Try.func57, Try.ntmps57
      go_wp2_with (first | (go_at_call 55; (with_reducible refine HF1.out.mono ?_); rintro e w1 ⟨rfl, hb1⟩; (have HB1 := Lib.hid hb1; have HFF := Lib.hid (HF2.out w1 HB1.out); clear hb1)) | (go_at_call 55; (with_reducible refine HFF.out.mono ?_); rintro e w2 ⟨rfl, hb2⟩; (have HB2 := Lib.hid (below_up HB1.out hb2); clear hb2)))
      go_ret
      exact ⟨rfl, HB2.out⟩
    · have h2 : r = e1 := by rw [HR.out, if_neg hy]; exact if_pos he
      have he' : ((e1 : Int) != 0) = true := by simpa using he
      subst h2
      clear HR hy he
      go_enter Try.func57, Try.ntmps57
      go_wp2_with (go_at_call 55; (with_reducible refine HF1.out.mono ?_); rintro e w1 ⟨rfl, hb1⟩; (have HB1 := Lib.hid hb1; clear hb1))
      go_ret
      exact ⟨rfl, HB1.out⟩

theorem fits2RI (u v : Value) (lits dists : List Int) (w : World) (hu : IntsAt w u lits) (hv : IntsAt w v dists) (h256 : 256 < lits.length) :
    Calls Try.prog 45 #[u, v] w fun e w' => e = .returned (.int .i64 (fits2I lits dists : Nat)) ∧ Below w.heap.size w w' := by
  have HF1 := Lib.hid (fitsR u lits true w hu)
  have HF2 := Lib.hid (fun W (hb : Below w.heap.size w W) => fitsR v dists true W (hv.up hb))
  obtain ⟨oa, cap, b, off, hvv, hd, hc⟩ := hu.open
  subst hvv
  have hcell := hc 256 h256
  have hix := index_any (P := Try.prog) 31 3 Try.underlying31 (by kernel_rfl) hd
  have hm := hd.len
  have hbb := hd.hblk (by omega)
  have hli : (256 : Int) < (lits.length : Int) := by omega
  obtain ⟨r, hr⟩ : ∃ r, r = fits2I lits dists := ⟨_, rfl⟩
  rw [← hr]
  unfold fits2I at hr
  have HR := Lib.hid hr
  clear hc hd hu hv hr
  generalize fitsE lits true = e1 at *
  generalize fitsE dists true = e2 at *
  generalize lits.getD 256 0 = y at *
  generalize lits.length = m at *
  by_cases hy : y = 0
  · have h21 : r = 21 := by rw [HR.out]; exact if_pos hy
    subst h21 hy
    clear HR
    go_enter Try.func45, Try.ntmps45
    go_wp2
    go_ret
    exact ⟨rfl, Below.refl _ _⟩
  · have hy' : (y == 0) = false := by simpa using hy
    by_cases he : e1 = 0
    · have h2 : r = e2 := by rw [HR.out, if_neg hy]; exact if_neg (by omega)
      subst h2 he
      clear HR hy
      go_enter Try.func45, Try.ntmps45
      go_wp2_with (first | (go_at_call 62; (with_reducible refine HF1.out.mono ?_); rintro e w1 ⟨rfl, hb1⟩; (have HB1 := Lib.hid hb1; have HFF := Lib.hid (HF2.out w1 HB1.out); clear hb1)) | (go_at_call 62; (with_reducible refine HFF.out.mono ?_); rintro e w2 ⟨rfl, hb2⟩; (have HB2 := Lib.hid (below_up HB1.out hb2); clear hb2)))
      go_ret
      exact ⟨rfl, HB2.out⟩
    · have h2 : r = e1 := by rw [HR.out, if_neg hy]; exact if_pos he
      have he' : ((e1 : Int) != 0) = true := by simpa using he
      subst h2
      clear HR hy he
      go_enter Try.func45, Try.ntmps45
      go_wp2_with (go_at_call 62; (with_reducible refine HF1.out.mono ?_); rintro e w1 ⟨rfl, hb1⟩; (have HB1 := Lib.hid hb1; clear hb1))
      go_ret
      exact ⟨rfl, HB1.out⟩

def mayI (k z : Int) (l1 l2 : List Int) : Nat :=
  if k = 0 then (if z < 0 ∨ 65535 < z then 1 else 0)
  else if k = 1 then 0
  else if k = 2 then (if l1.length < 257 ∨ 286 < l1.length ∨ l2.length < 1 ∨ 30 < l2.length then 1 else fits2I l1 l2)
  else 1
set_option maxRecDepth 100000 in
theorem mayP (f : Bool) (k z : Int) (u1 u2 : Value) (l1 l2 : List Int) (w : World) (h1 : IntsAt w u1 l1) (h2 : IntsAt w u2 l2) :
    Calls Try.prog 40 #[.agg #[.bool f, .int .i64 k, .int .i64 z, u1, u2]] w fun e w' => e = .returned (.int .i64 (mayI k z l1 l2 : Nat)) ∧ Below w.heap.size w w' := by
  have HF := Lib.hid (fun (h : 256 < l1.length) (W : World) (hb : Below w.heap.size w W) => fits2PI u1 u2 l1 l2 W (h1.up hb) (h2.up hb) h)
  obtain ⟨o1, c1, b1, f1, rfl, hd1, -⟩ := h1.open
  obtain ⟨o2, c2, b2, f2, rfl, hd2, -⟩ := h2.open
  have hm1 := hd1.len
  have hm2 := hd2.len
  obtain ⟨r, hr⟩ : ∃ r, r = mayI k z l1 l2 := ⟨_, rfl⟩
  rw [← hr]
  unfold mayI at hr
  have HR := Lib.hid hr
  clear h1 h2 hd1 hd2 hr
  by_cases hk0 : k = 0
  · subst hk0
    by_cases hz0 : z < 0
    · have HR2 : Hid (r = 1) := Lib.hid (by rw [HR.out, if_pos rfl, if_pos (.inl hz0)])
      rw [HR2.out]
      clear HR HF
      go_enter Try.func40, Try.ntmps40
      go_wp2
      go_ret
      exact ⟨rfl, (by repeat (first | exact Below.refl _ _ | assumption | refine b_drewN ?_ _ | refine Below.drew ?_ | refine b_ext' ?_ _ | refine b_alloc' ?_ _))⟩
    · by_cases hz1 : z > 65535
      · have HR2 : Hid (r = 1) := Lib.hid (by rw [HR.out, if_pos rfl, if_pos (.inr hz1)])
        rw [HR2.out]
        clear HR HF
        go_enter Try.func40, Try.ntmps40
        go_wp2
        go_ret
        exact ⟨rfl, (by repeat (first | exact Below.refl _ _ | assumption | refine b_drewN ?_ _ | refine Below.drew ?_ | refine b_ext' ?_ _ | refine b_alloc' ?_ _))⟩
      · have HR2 : Hid (r = 0) := Lib.hid (by rw [HR.out, if_pos rfl, if_neg (by omega)])
        rw [HR2.out]
        clear HR HF
        go_enter Try.func40, Try.ntmps40
        go_wp2
        go_ret
        exact ⟨rfl, (by repeat (first | exact Below.refl _ _ | assumption | refine b_drewN ?_ _ | refine Below.drew ?_ | refine b_ext' ?_ _ | refine b_alloc' ?_ _))⟩
  · have hk0' : (k == 0) = false := by simpa using hk0
    by_cases hk1 : k = 1
    · subst hk1
      have HR2 : Hid (r = 0) := Lib.hid (by rw [HR.out, if_neg hk0, if_pos rfl])
      rw [HR2.out]
      clear HR HF hk0 hk0'
      go_enter Try.func40, Try.ntmps40
      go_wp2
      go_ret
      exact ⟨rfl, (by repeat (first | exact Below.refl _ _ | assumption | refine b_drewN ?_ _ | refine Below.drew ?_ | refine b_ext' ?_ _ | refine b_alloc' ?_ _))⟩
    · have hk1' : (k == 1) = false := by simpa using hk1
      by_cases hk2 : k = 2
      · subst hk2
        have HR3 : Hid (r = if l1.length < 257 ∨ 286 < l1.length ∨ l2.length < 1 ∨ 30 < l2.length then 1 else fits2I l1 l2) := Lib.hid (by rw [HR.out, if_neg hk0, if_neg hk1, if_pos rfl])
        clear HR hk0 hk0' hk1 hk1'
        by_cases ha : l1.length < 257
        · have hai : (l1.length : Int) < 257 := by omega
          have HR2 : Hid (r = 1) := Lib.hid (by rw [HR3.out, if_pos (.inl ha)])
          rw [HR2.out]
          clear HR3 HF ha
          generalize l1.length = n1 at *
          generalize l2.length = n2 at *
          go_enter Try.func40, Try.ntmps40
          go_wp2
          go_ret
          exact ⟨rfl, (by repeat (first | exact Below.refl _ _ | assumption | refine b_drewN ?_ _ | refine Below.drew ?_ | refine b_ext' ?_ _ | refine b_alloc' ?_ _))⟩
        · have hai : ¬ (l1.length : Int) < 257 := by omega
          by_cases hb : 286 < l1.length
          · have hbi : (l1.length : Int) > 286 := by omega
            have HR2 : Hid (r = 1) := Lib.hid (by rw [HR3.out, if_pos (.inr (.inl hb))])
            rw [HR2.out]
            clear HR3 HF ha hb
            generalize l1.length = n1 at *
            generalize l2.length = n2 at *
            go_enter Try.func40, Try.ntmps40
            go_wp2
            go_ret
            exact ⟨rfl, (by repeat (first | exact Below.refl _ _ | assumption | refine b_drewN ?_ _ | refine Below.drew ?_ | refine b_ext' ?_ _ | refine b_alloc' ?_ _))⟩
          · have hbi : ¬ (l1.length : Int) > 286 := by omega
            by_cases hc : l2.length < 1
            · have hci : (l2.length : Int) < 1 := by omega
              have HR2 : Hid (r = 1) := Lib.hid (by rw [HR3.out, if_pos (.inr (.inr (.inl hc)))])
              rw [HR2.out]
              clear HR3 HF ha hb hc
              generalize l1.length = n1 at *
              generalize l2.length = n2 at *
              go_enter Try.func40, Try.ntmps40
              go_wp2
              go_ret
              exact ⟨rfl, (by repeat (first | exact Below.refl _ _ | assumption | refine b_drewN ?_ _ | refine Below.drew ?_ | refine b_ext' ?_ _ | refine b_alloc' ?_ _))⟩
            · have hci : ¬ (l2.length : Int) < 1 := by omega
              by_cases hd : 30 < l2.length
              · have hdi : (l2.length : Int) > 30 := by omega
                have HR2 : Hid (r = 1) := Lib.hid (by rw [HR3.out, if_pos (.inr (.inr (.inr hd)))])
                rw [HR2.out]
                clear HR3 HF ha hb hc hd
                generalize l1.length = n1 at *
                generalize l2.length = n2 at *
                go_enter Try.func40, Try.ntmps40
                go_wp2
                go_ret
                exact ⟨rfl, (by repeat (first | exact Below.refl _ _ | assumption | refine b_drewN ?_ _ | refine Below.drew ?_ | refine b_ext' ?_ _ | refine b_alloc' ?_ _))⟩
              · have hdi : ¬ (l2.length : Int) > 30 := by omega
                have HR2 : Hid (r = fits2I l1 l2) := Lib.hid (by rw [HR3.out, if_neg (by omega)])
                rw [HR2.out]
                have HFC := Lib.hid (HF.out (by omega))
                clear HR3 HF ha hb hc hd
                generalize fits2I l1 l2 = fe at *
                generalize l1.length = n1 at *
                generalize l2.length = n2 at *
                go_enter Try.func40, Try.ntmps40
                go_wp2_with (go_at_call 57; (with_reducible refine (HFC.out _ (by repeat (first | exact Below.refl _ _ | assumption | refine b_drewN ?_ _ | refine Below.drew ?_ | refine b_ext' ?_ _ | refine b_alloc' ?_ _))).mono ?_); rintro e w2 ⟨rfl, hb2⟩; have HB2 := Lib.hid hb2; clear hb2)
                go_ret
                exact ⟨rfl, below_up (below_alloc _ _) HB2.out⟩
      · have hk2' : (k == 2) = false := by simpa using hk2
        have HR2 : Hid (r = 1) := Lib.hid (by rw [HR.out, if_neg hk0, if_neg hk1, if_neg hk2])
        rw [HR2.out]
        clear HR HF hk0 hk1 hk2
        go_enter Try.func40, Try.ntmps40
        go_wp2
        go_ret
        exact ⟨rfl, (by repeat (first | exact Below.refl _ _ | assumption | refine b_drewN ?_ _ | refine Below.drew ?_ | refine b_ext' ?_ _ | refine b_alloc' ?_ _))⟩
end Go.Cm

/- The walk of the writing of a dynamic block's lengths. Conditions: the writer is there, the lengths are right. -/
namespace Go.Cm
open Go.RowKit Go.Proofs

theorem alloc_below {B : Nat} {w : World} (hB : B ≤ w.heap.size) (o : Obj) : Below B w (w.alloc o) := (Below.refl B w).alloc hB o
set_option maxRecDepth 100000 in
set_option maxHeartbeats 4000000 in
theorem lengthsP {w : World} {B g N L : Nat} {vb0 : Value} (h : WrtV w B g N L vb0) (f : Bool) (k z : Int) (u1 u2 : Value) (l1 l2 : List Nat) (hu1 : ∀ W, Below B w W → IntsAt W u1 (nls l1)) (hu2 : ∀ W, Below B w W → IntsAt W u2 (nls l2))
    (hn1 : 257 ≤ l1.length) (hn1' : l1.length ≤ 286) (hn2 : 1 ≤ l2.length) (hn2' : l2.length ≤ 30) (h1 : ∀ x ∈ l1, x ≤ 15) (h2 : ∀ x ∈ l2, x ≤ 15) (hL : L ≤ 100000) :
    Calls Try.prog 42 #[.pointer (some ⟨g, 0, none⟩), .agg #[.bool f, .int .i64 k, .int .i64 z, u1, u2]] w fun e w' => e = .returned (.tuple #[]) ∧ WSt w B g vb0 (putS (dynS l1 l2) (N, L)) w' := by
  have hBw : B ≤ w.heap.size := by have := h.ge; have := h.box.lt; omega
  have hgw := h.box.lt
  have hvb : ∀ q, vb0.ownBlock = some q → q < w.heap.size := fun q hq => (h.own.lt q hq).2
  have HU1 := Lib.hid hu1
  have HU2 := Lib.hid hu2
  obtain ⟨o1, c1, b1, f1, hv1, -⟩ := (hu1 w (Below.refl _ _)).open
  obtain ⟨o2, c2, b2, f2, hv2, -⟩ := (hu2 w (Below.refl _ _)).open
  rw [nls_length] at hv1 hv2
  subst hv1 hv2
  have H15a := Lib.hid (fun j (hj : j < l1.length) => h1 _ (getD_mem l1 j 0 hj))
  have H15b := Lib.hid (fun j (hj : j < l2.length) => h2 _ (getD_mem l2 j 0 hj))
  have HA := Lib.hid (ownH w f k z o1 o2 l1.length l2.length c1 c2 33)
  have HS1 := Lib.hid (WSt.start (h.up (below_alloc w (.cells #[.bool f, .int .i64 k, .int .i64 z, .slice o1 l1.length c1, .slice o2 l2.length c2] 33))))
  have HB1 : Hid (Below B w (w.alloc (.cells #[.bool f, .int .i64 k, .int .i64 z, .slice o1 l1.length c1, .slice o2 l2.length c2] 33))) := Lib.hid (alloc_below hBw _)
  have hl1 : w.heap.size < (w.alloc (.cells #[.bool f, .int .i64 k, .int .i64 z, .slice o1 l1.length c1, .slice o2 l2.length c2] 33)).heap.size := by simp
  have HST : Hid (putS (dynS l1 l2) (N, L) = putS (codS l2) (putS (codS l1) (putS ordS (putS (lenS l1.length l2.length) (N, L))))) := Lib.hid (by unfold dynS; rw [putS_append, putS_append, putS_append])
  obtain ⟨st3, hst3⟩ : ∃ st, st = putS (lenS l1.length l2.length) (N, L) := ⟨_, rfl⟩
  have HS3 := Lib.hid hst3
  rw [← hst3] at HST
  have HL3 : Hid (st3.2 = L + 14) := Lib.hid (by rw [hst3, putS_len]; rfl)
  have HE := Lib.hid HST.out
  obtain ⟨D, hD⟩ : ∃ D, D = putS (dynS l1 l2) (N, L) := ⟨_, rfl⟩
  rw [← hD]
  rw [← hD] at HE
  clear h hu1 hu2 h1 h2 HST hst3 hD
  have HO : Hid (∃ O : Array Value, (∀ j, j < 19 → O[j]? = some (.int .i64 (ordN.getD j 0 : Nat))) ∧ ∀ W : World, Calls Try.prog 53 #[] W fun e w' => e = .returned (.agg O) ∧ Below W.heap.size W w') := Lib.hid ⟨_, fun j hj => ordA j hj, fun W => ordP W⟩
  obtain ⟨O, hOA, hOP⟩ := HO.out
  have HOA := Lib.hid hOA
  have HOP := Lib.hid hOP
  have hs1 : (l1.length : Int) - 257 = ((l1.length - 257 : Nat) : Int) := by omega
  have hs2 : (l2.length : Int) - 1 = ((l2.length - 1 : Nat) : Int) := by omega
  clear HO hOA hOP
  have HA3 : Hid (∀ st W, WSt (w.alloc (.cells #[.bool f, .int .i64 k, .int .i64 z, .slice o1 l1.length c1, .slice o2 l2.length c2] 33)) B g vb0 st W → Own W w.heap.size 33 (.slice (some ⟨w.heap.size, 0, none⟩) 5 5) [.bool f, .int .i64 k, .int .i64 z, .slice o1 l1.length c1, .slice o2 l2.length c2]) := Lib.hid (fun st W h => h.own HA.out (fun e => by have e2 : some w.heap.size = some g := e; injection e2 with e2; omega) (fun q hq e => by have e2 : some w.heap.size = some q := hq; injection e2 with e2; have := hvb q e; omega))
  have hw1 := HA.out.blk.2
  have HC3 : Hid (∀ st W, WSt (w.alloc (.cells #[.bool f, .int .i64 k, .int .i64 z, .slice o1 l1.length c1, .slice o2 l2.length c2] 33)) B g vb0 st W → w.heap.size < W.heap.size) := Lib.hid (fun st W h => Nat.lt_of_lt_of_le hw1 h.size)
  have hp5 : l1.length - 257 < 2 ^ 5 := by omega
  have hp5' : l2.length - 1 < 2 ^ 5 := by omega
  clear hw1 HA
  generalize hn : l1.length = n1 at *
  have HN1 := Lib.hid hn
  clear hn
  generalize hn : l2.length = n2 at *
  have HN2 := Lib.hid hn
  clear hn
  generalize hm1 : n1 - 257 = m1 at *
  generalize hm2 : n2 - 1 = m2 at *
  have HM1 := Lib.hid hm1
  have HM2 := Lib.hid hm2
  clear hm1 hm2
  have HP1 := Lib.hid (putW HS1.out m1 5 hp5 (by omega) (by simp only; omega))
  rw [show ((5 : Nat) : Int) = 5 from rfl] at HP1
  have e10 := HA3.out _ _ HS1.out
  have x13 := e10.cell (i := 3) (by simp)
  have y1 := e10.blk.2
  clear e10
  go_enter Try.func42, Try.ntmps42
  go_upto_region 4 with (go_at_call 21; first | ((with_reducible refine HP1.out.mono ?_); rintro e w2 ⟨rfl, hq⟩; (have HS2 := Lib.hid hq; have HP2 := Lib.hid (putW hq m2 5 hp5' (by omega) (by simp only; omega)); rw [show ((5 : Nat) : Int) = 5 from rfl] at HP2; have x24 := (HA3.out _ _ hq).cell (i := 4) (by simp); have y2 := HC3.out _ _ hq; clear hq HP1 x13 y1)) | ((with_reducible refine HP2.out.mono ?_); rintro e w3 ⟨rfl, hq⟩; (have HP3 := Lib.hid (putW hq 15 4 (by decide) (by omega) (by simp only; omega)); rw [show ((4 : Nat) : Int) = 4 from rfl, show ((15 : Nat) : Int) = 15 from rfl] at HP3; clear hq HP2 x24 y2 HS2)) | ((with_reducible refine HP3.out.mono ?_); rintro e w4 ⟨rfl, hq⟩; (have HS4 : Hid (WSt (w.alloc (.cells #[.bool f, .int .i64 k, .int .i64 z, .slice o1 n1 c1, .slice o2 n2 c2] 33)) B g vb0 st3 w4) := Lib.hid (by rw [HS3.out]; unfold lenS; rw [HM1.out, HM2.out]; exact hq); clear hq HP3)))
  clear HS1
  go_wp2_with (go_at_call 53; (with_reducible refine (HOP.out _).mono ?_); rintro e w5 ⟨rfl, hb5⟩; (have HS5 := Lib.hid (HS4.out.up hb5 (Nat.le_trans (Nat.le_trans hBw (Nat.le_of_lt hl1)) HS4.out.size)); clear hb5 HOP))
  clear HS4 HS3
  go_loopg [26] 20 (fun gk i wr => ∃ j, j ≤ 19 ∧ i = .int .i64 (j : Nat) ∧ WSt (w.alloc (.cells #[.bool f, .int .i64 k, .int .i64 z, .slice o1 n1 c1, .slice o2 n2 c2] 33)) B g vb0 (putS (ordS.take j) st3) wr ∧ gk = 20 - j)
  case atStart => exact ⟨0, Nat.zero_le _, rfl, HS5.out, rfl⟩
  case round =>
    clear HS5
    obtain ⟨j, hj, rfl, hs, hgk⟩ := hrel
    have HSW := Lib.hid hs
    clear hs
    by_cases hlt : j < 19
    · have hji : (j : Int) < 19 := by omega
      have hcell := HOA.out j hlt
      have hixO := run_index_arr (P := Try.prog) 82 3 19 Try.underlying82 Try.underlying3 (by kernel_rfl) O j hlt _ hcell
      have hy := ordN_lt j
      have HTK : Hid (putS (ordS.take (j + 1)) st3 = ((putS (ordS.take j) st3).1 + (if ordN.getD j 0 < 16 then 4 else 0) * 2 ^ (putS (ordS.take j) st3).2, (putS (ordS.take j) st3).2 + 3)) := Lib.hid (by rw [ordS_take j hlt, putS_snoc])
      have hlen : (putS (ordS.take j) st3).2 ≤ 200000 := by
        have := ordS_len j st3
        have := HL3.out
        omega
      generalize ordN.getD j 0 = y at *
      by_cases hy16 : y < 16
      · have hyi : ¬ (y : Int) ≥ 16 := by omega
        have HPX := Lib.hid (putW HSW.out 4 3 (by decide) (by omega) (by omega))
        rw [show ((4 : Nat) : Int) = 4 from rfl, show ((3 : Nat) : Int) = 3 from rfl] at HPX
        have HTK2 : Hid (putS (ordS.take (j + 1)) st3 = ((putS (ordS.take j) st3).1 + 4 * 2 ^ (putS (ordS.take j) st3).2, (putS (ordS.take j) st3).2 + 3)) := Lib.hid (by rw [HTK.out, if_pos hy16])
        clear hy16 HTK
        go_wp2_with (go_at_call 21; (with_reducible refine HPX.out.mono ?_); rintro e w6 ⟨rfl, hq⟩; have HQ := Lib.hid hq; clear hq)
        go_roundg (20 - (j + 1))
        case measure => omega
        case rel => exact ⟨j + 1, by omega, by go_num, by rw [HTK2.out]; exact HQ.out, rfl⟩
      · have hyi : (y : Int) ≥ 16 := by omega
        have HPX := Lib.hid (putW HSW.out 0 3 (by decide) (by omega) (by omega))
        rw [show ((0 : Nat) : Int) = 0 from rfl, show ((3 : Nat) : Int) = 3 from rfl] at HPX
        have HTK2 : Hid (putS (ordS.take (j + 1)) st3 = ((putS (ordS.take j) st3).1 + 0 * 2 ^ (putS (ordS.take j) st3).2, (putS (ordS.take j) st3).2 + 3)) := Lib.hid (by rw [HTK.out, if_neg hy16])
        clear hy16 HTK
        go_wp2_with (go_at_call 21; (with_reducible refine HPX.out.mono ?_); rintro e w6 ⟨rfl, hq⟩; have HQ := Lib.hid hq; clear hq)
        go_roundg (20 - (j + 1))
        case measure => omega
        case rel => exact ⟨j + 1, by omega, by go_num, by rw [HTK2.out]; exact HQ.out, rfl⟩
    · obtain rfl : j = 19 := by omega
      have HT19 : Hid (putS (ordS.take 19) st3 = putS ordS st3) := Lib.hid (by rw [List.take_of_length_le (by decide)])
      have hl4 : (putS ordS st3).2 ≤ 100071 := by
        have h1 := ordS_len 19 st3
        rw [HT19.out] at h1
        have := HL3.out
        omega
      rw [HT19.out] at HSW
      obtain ⟨st4, hst4⟩ : ∃ st, st = putS ordS st3 := ⟨_, rfl⟩
      rw [← hst4] at HE HSW hl4
      have e10 := HA3.out _ _ HSW.out
      have x3 := e10.cell (i := 3) (by simp)
      have x4 := e10.cell (i := 4) (by simp)
      have y3 := e10.blk.2
      obtain ⟨vb4, hv4, hb4, hf4⟩ := HSW.out
      have hBr : B ≤ wr.heap.size := Nat.le_trans hBw (Nat.le_trans (Nat.le_of_lt hl1) hb4.size)
      have HFR : Hid (Fr g vb0 vb4 w (wr.alloc (.cells #[.slice o1 n1 c1, .slice o2 n2 c2] 31))) := Lib.hid ((((Fr.refl g vb0 w).below (below_alloc w (.cells #[.bool f, .int .i64 k, .int .i64 z, .slice o1 n1 c1, .slice o2 n2 c2] 33))).trans hf4).below (below_alloc wr _))
      have HBW : Hid (Below B w (wr.alloc (.cells #[.slice o1 n1 c1, .slice o2 n2 c2] 31))) := Lib.hid ((HB1.out.trans hb4).alloc hBr _)
      have HS5 := Lib.hid (WSt.start (hv4.up (below_alloc wr (.cells #[.slice o1 n1 c1, .slice o2 n2 c2] 31))))
      have hro := own_lit wr wr.heap.size #[.slice o1 n1 c1, .slice o2 n2 c2] 31 (by simp) (Nat.le_refl _)
      have HRO : Hid (Own (wr.alloc (.cells #[.slice o1 n1 c1, .slice o2 n2 c2] 31)) wr.heap.size 31 (.slice (some ⟨wr.heap.size, 0, none⟩) 2 2) [.slice o1 n1 c1, .slice o2 n2 c2]) := Lib.hid hro
      have hgr : g < wr.heap.size := hv4.box.lt
      have hvb4 : ∀ q, vb4.ownBlock = some q → q < wr.heap.size := fun q hq => (hv4.own.lt q hq).2
      have hrd : Hd (wr.alloc (.cells #[.slice o1 n1 c1, .slice o2 n2 c2] 31)) (some ⟨wr.heap.size, 0, none⟩) 2 2 wr.heap.size 0 := ⟨fun _ => rfl, Nat.le_refl _, by decide, by decide, fun _ => by simp⟩
      have HRIX := Lib.hid (fun (W : World) (m : Nat) (hm : m < 2) => index_any (P := Try.prog) 90 31 Try.underlying90 (by kernel_rfl) hrd W .i64 (m : Int) (by omega) (by omega))
      have HI : Hid (∃ stI : Nat → Nat × Nat, stI 0 = st4 ∧ stI 1 = putS (codS l1) st4 ∧ stI 2 = putS (codS l2) (putS (codS l1) st4)) := Lib.hid ⟨fun m => match m with | 0 => st4 | 1 => putS (codS l1) st4 | _ => putS (codS l2) (putS (codS l1) st4), rfl, rfl, rfl⟩
      obtain ⟨stI, hi0, hi1, hi2⟩ := HI.out
      have HI2 := Lib.hid hi2
      have HKEY : Hid (∀ m, m < 2 → ∃ o n c l, ([Value.slice o1 n1 c1, Value.slice o2 n2 c2].getD m undef) = .slice o n c ∧ (∀ W, Below B w W → IntsAt W (.slice o n c) (nls l)) ∧ n = l.length ∧ (∀ j, j < l.length → l.getD j 0 ≤ 15) ∧ putS (codS l) (stI m) = stI (m + 1) ∧ n ≤ 286 ∧ (stI m).2 ≤ 200000) := Lib.hid (fun m hm => by
        match m, hm with
        | 0, _ => exact ⟨o1, n1, c1, l1, rfl, HU1.out, HN1.out.symm, fun j hj => H15a.out j (by have := HN1.out; omega), by rw [hi0, hi1], hn1', by rw [hi0]; omega⟩
        | 1, _ => exact ⟨o2, n2, c2, l2, rfl, HU2.out, HN2.out.symm, fun j hj => H15b.out j (by have := HN2.out; omega), by rw [hi1, hi2], by omega, by rw [hi1, codS_len, HN1.out]; omega⟩
        | m + 2, h => omega)
      have HI0 := Lib.hid hi0
      clear hst4 e10 HSW hv4 hb4 hf4 hro hrd hi0 hi1 hi2 HI HT19 HL3 HA3 HC3 HOA HU1 HU2 H15a H15b
      go_wp2
      generalize wr.alloc (.cells #[.slice o1 n1 c1, .slice o2 n2 c2] 31) = w5 at *
      generalize wr.heap.size = rb at *
      go_loopg [41] 3 (fun gk i W => ∃ m, m ≤ 2 ∧ i = .int .i64 (m : Nat) ∧ WSt w5 B g vb4 (stI m) W ∧ gk = 3 - m)
      case atStart => exact ⟨0, Nat.zero_le _, rfl, by rw [HI0.out]; exact HS5.out, rfl⟩
      case round =>
        clear HS5 HI0
        obtain ⟨m, hm, rfl, hs, hgk⟩ := hrel
        have HSW := Lib.hid hs
        clear hs
        by_cases hlt : m < 2
        · have hmi : (m : Int) < 2 := by omega
          obtain ⟨o, n, c, l, hcell0, hul, hnl, h15, hst, hn286, hle⟩ := HKEY.out m hlt
          have hro2 := HSW.out.own HRO.out (fun e => by have e2 : some rb = some g := e; injection e2 with e2; omega) (fun q hq e => by have e2 : some rb = some q := hq; injection e2 with e2; have := hvb4 q e; omega)
          have hcell := hro2.cell (i := m) (by simpa using hlt)
          rw [hcell0] at hcell
          have hrbw := hro2.blk.2
          have hix := fun W => HRIX.out W m hlt
          simp only [Nat.zero_add, Int.toNat_natCast] at hix
          have HUL := Lib.hid hul
          have HNL := Lib.hid hnl
          have H15 := Lib.hid h15
          have HSTM := Lib.hid hst
          clear hcell0 hul hnl h15 hst hro2
          go_wp2
          go_loopg [47] (n + 1) (fun gq i W => ∃ q, q ≤ n ∧ i = .int .i64 (q : Nat) ∧ WSt w5 B g vb4 (putS (codS (l.take q)) (stI m)) W ∧ gq = n + 1 - q)
          case atStart => exact ⟨0, Nat.zero_le _, rfl, by simpa [codS, putS] using HSW.out, rfl⟩
          case round =>
            clear HSW hcell hrbw hix
            obtain ⟨q, hq, rfl, hs2, hgq⟩ := hrel
            have HSQ := Lib.hid hs2
            clear hs2
            by_cases hlq : q < n
            · have hqi : (q : Int) < (n : Int) := by omega
              have hql : q < l.length := by have := HNL.out; omega
              obtain ⟨oa', cap', b', off', hv', hd', hc'⟩ := (HUL.out _ (HBW.out.trans HSQ.out.bel)).open
              rw [nls_length, ← HNL.out] at hv' hd'
              rw [nls_length] at hc'
              injection hv' with q1 q2 q3
              subst q1 q3
              have hix2 := index_any (P := Try.prog) 31 3 Try.underlying31 (by kernel_rfl) hd'
              have hbb := hd'.hblk (by omega)
              have hx := hc' q hql
              rw [nls_getD] at hx
              have hx15 := H15.out q hql
              have HCK : Hid (putS (codS (l.take (q + 1))) (stI m) = ((putS (codS (l.take q)) (stI m)).1 + turnN (l.getD q 0) 4 * 2 ^ (putS (codS (l.take q)) (stI m)).2, (putS (codS (l.take q)) (stI m)).2 + 4)) := Lib.hid (by rw [codS_take l q hql, putS_snoc])
              have hlen : (putS (codS (l.take q)) (stI m)).2 ≤ 300000 := by rw [codS_len, List.length_take]; omega
              have hx16 : l.getD q 0 < 2 ^ 4 := by omega
              have HPC := Lib.hid (codeW HSQ.out (l.getD q 0) 4 hx16 (by omega) (by omega))
              rw [show ((4 : Nat) : Int) = 4 from rfl] at HPC
              have hm' := hd'.len
              clear hc' hd' H15 hx16
              generalize l.getD q 0 = y at *
              go_wp2_with (go_at_call 61; (with_reducible refine HPC.out.mono ?_); rintro e w6 ⟨rfl, hqq⟩; have HQ := Lib.hid hqq; clear hqq)
              go_roundg (n + 1 - (q + 1))
              case measure => omega
              case rel => exact ⟨q + 1, by omega, by go_num, by rw [HCK.out]; exact HQ.out, rfl⟩
            · obtain rfl : q = n := by omega
              have HF : Hid (putS (codS (l.take q)) (stI m) = stI (m + 1)) := Lib.hid (by rw [List.take_of_length_le (by have := HNL.out; omega)]; exact HSTM.out)
              rw [HF.out] at HSQ
              clear hlq
              go_wp2
              go_roundg (3 - (m + 1))
              case measure => omega
              case rel => exact ⟨m + 1, by omega, by go_num, HSQ.out, rfl⟩
        · obtain rfl : m = 2 := by omega
          clear hlt
          go_wp2
          go_end0
          refine ⟨rfl, ?_⟩
          rw [HE.out, ← HI2.out]
          obtain ⟨vb, h1, h2, h3⟩ := HSW.out
          exact ⟨vb, h1, HBW.out.trans h2, HFR.out.trans h3⟩
end Go.Cm

/- The walk of the program's Write of a head. Conditions: the writer is there, the lists read as lists. -/
namespace Go.Cm
open Go.RowKit Go.Proofs

theorem fitsE_zero {l : List Int} {o : Bool} (h : fitsE l o = 0) : errI l = 0 := by
  apply Classical.byContradiction; intro hn
  rw [fitsE_bad o hn] at h; exact hn h
theorem fits2I_zero {l1 l2 : List Int} (h : fits2I l1 l2 = 0) : errI l1 = 0 ∧ errI l2 = 0 := by
  unfold fits2I at h
  split at h
  · cases h
  · split at h
    · rename_i h1; exact absurd h h1
    · rename_i h1; exact ⟨fitsE_zero (by simpa using h1), fitsE_zero h⟩
theorem errI_nat {l : List Int} (h : errI l = 0) : l = nls (l.map Int.toNat) ∧ ∀ x ∈ l.map Int.toNat, x ≤ 15 := by
  obtain ⟨L, rfl, -, h15, -⟩ := errI_list h
  rw [nls_toNat]; exact ⟨rfl, h15⟩
theorem mayI_dyn {z : Int} {l1 l2 : List Int} (h : mayI 2 z l1 l2 = 0) : 257 ≤ l1.length ∧ l1.length ≤ 286 ∧ 1 ≤ l2.length ∧ l2.length ≤ 30 ∧ l1 = nls (l1.map Int.toNat) ∧ l2 = nls (l2.map Int.toNat) ∧ (∀ x ∈ l1.map Int.toNat, x ≤ 15) ∧ (∀ x ∈ l2.map Int.toNat, x ≤ 15) ∧ fits2I l1 l2 = 0 := by
  unfold mayI at h
  rw [if_neg (by decide), if_neg (by decide), if_pos rfl] at h
  by_cases hc : l1.length < 257 ∨ 286 < l1.length ∨ l2.length < 1 ∨ 30 < l2.length
  · rw [if_pos hc] at h; cases h
  · rw [if_neg hc] at h
    obtain ⟨e1, e2⟩ := fits2I_zero h
    obtain ⟨a1, a2⟩ := errI_nat e1
    obtain ⟨b1, b2⟩ := errI_nat e2
    exact ⟨by omega, by omega, by omega, by omega, a1, b1, a2, b2, h⟩
/-- what stands in a writer behind a head that may be written -/
def wrI (f : Bool) (k z : Int) (l1 l2 : List Int) (st : Nat × Nat) : Nat × Nat :=
  if k = 0 then putS [(z.toNat, 16), (65535 - z.toNat, 16)] (alignW (putS [(finN f, 1), (0, 2)] st))
  else if k = 1 then putS [(finN f, 1), (1, 2)] st
  else putS (dynS (l1.map Int.toNat) (l2.map Int.toNat)) (putS [(finN f, 1), (2, 2)] st)
theorem WSt.from1 {w w1 W : World} {B g : Nat} {vb0 : Value} {st : Nat × Nat} (h : WSt w1 B g vb0 st W) (hb : Below w.heap.size w w1) (hB : B ≤ w.heap.size) : WSt w B g vb0 st W := by
  obtain ⟨vb, h1, h2, h3⟩ := h
  exact ⟨vb, h1, (hb.mono hB).trans h2, ((Fr.refl g vb0 w).below hb).trans h3⟩

set_option maxRecDepth 100000 in
set_option maxHeartbeats 4000000 in
theorem writeHP {w : World} {B g N L : Nat} {vb0 : Value} (h : WrtV w B g N L vb0) (f : Bool) (k z : Int) (u1 u2 : Value) (l1 l2 : List Int) (hu1 : ∀ W, Below B w W → IntsAt W u1 l1) (hu2 : ∀ W, Below B w W → IntsAt W u2 l2) (hL : L ≤ 1000) :
    Calls Try.prog 18 #[.pointer (some ⟨g, 0, none⟩), .agg #[.bool f, .int .i64 k, .int .i64 z, u1, u2]] w fun e w' => e = .returned (.int .i64 (mayI k z l1 l2 : Nat)) ∧ WSt w B g vb0 (if mayI k z l1 l2 = 0 then wrI f k z l1 l2 (N, L) else (N, L)) w' := by
  have hBw : B ≤ w.heap.size := by have := h.ge; have := h.box.lt; omega
  have hgw := h.box.lt
  have hvb : ∀ q, vb0.ownBlock = some q → q < w.heap.size := fun q hq => (h.own.lt q hq).2
  have HU1 := Lib.hid hu1
  have HU2 := Lib.hid hu2
  obtain ⟨o1, c1, b1, f1, hv1, -⟩ := (hu1 w (Below.refl _ _)).open
  obtain ⟨o2, c2, b2, f2, hv2, -⟩ := (hu2 w (Below.refl _ _)).open
  subst hv1 hv2
  obtain ⟨n1, hn1⟩ : ∃ n, n = l1.length := ⟨_, rfl⟩
  obtain ⟨n2, hn2⟩ : ∃ n, n = l2.length := ⟨_, rfl⟩
  rw [← hn1] at HU1 ⊢
  rw [← hn2] at HU2 ⊢
  clear hu1 hu2 hn1 hn2
  have HMAY := Lib.hid (fun (W : World) (hb : Below B w W) => mayP f k z _ _ l1 l2 W (HU1.out W hb) (HU2.out W hb))
  obtain ⟨w1, hw1⟩ : ∃ w1, w1 = w.alloc (.cells #[.bool f, .int .i64 k, .int .i64 z, .slice o1 n1 c1, .slice o2 n2 c2] 33) := ⟨_, rfl⟩
  have hA := ownH w f k z o1 o2 n1 n2 c1 c2 33
  rw [← hw1] at hA
  have hb1 : Below w.heap.size w w1 := by rw [hw1]; exact below_alloc _ _
  have HB1 := Lib.hid hb1
  have HS1 := Lib.hid (WSt.start (h.up hb1))
  have HA := Lib.hid hA
  have HW1 := Lib.hid hw1
  have HA3 : Hid (∀ st W, WSt w1 B g vb0 st W → Own W w.heap.size 33 (.slice (some ⟨w.heap.size, 0, none⟩) 5 5) [.bool f, .int .i64 k, .int .i64 z, .slice o1 n1 c1, .slice o2 n2 c2]) := Lib.hid (fun st W h => h.own HA.out (fun e => by have e2 : some w.heap.size = some g := e; injection e2 with e2; omega) (fun q hq e => by have e2 : some w.heap.size = some q := hq; injection e2 with e2; have := hvb q e; omega))
  have HBL : Hid (∀ st W, WSt w1 B g vb0 st W → Below B w W) := Lib.hid (fun st W h => (HB1.out.mono hBw).trans h.bel)
  have HP0 : Hid (Calls Try.prog 21 #[.pointer (some ⟨g, 0, none⟩), .int .i64 0, .int .i64 0] w1 fun e w' => e = .returned (.int .i64 0) ∧ WSt w1 B g vb0 (N, L) w') := Lib.hid ((putW HS1.out 0 0 (by decide) (by omega) (by simp only; omega)).mono fun e w' ⟨he, hs⟩ => ⟨he, by simpa using hs⟩)
  clear h hw1 hA hb1 HA
  obtain ⟨r, hr⟩ : ∃ r, r = mayI k z l1 l2 := ⟨_, rfl⟩
  rw [← hr]
  rw [← hr] at HMAY
  obtain ⟨D, hD⟩ : ∃ D, D = if r = 0 then wrI f k z l1 l2 (N, L) else (N, L) := ⟨_, rfl⟩
  rw [← hD]
  have HD := Lib.hid hD
  clear hD
  have HR := Lib.hid hr
  clear hr
  go_enter Try.func18, Try.ntmps18
  go_upto_region 5 with (first | (go_at_call 21; rw [← HW1.out]; (with_reducible refine HP0.out.mono ?_); rintro e w2 ⟨rfl, hq⟩; (have HS2 := Lib.hid hq; obtain ⟨A, hA, hAs, hAl⟩ := (HA3.out _ _ hq).whole; have hAe : A = #[.bool f, .int .i64 k, .int .i64 z, .slice o1 n1 c1, .slice o2 n2 c2] := (by rw [← Array.toArray_toList (xs := A), hAl]); subst hAe; clear hq hAs hAl HP0)) | (refine load_box rfl 33 5 _ rfl w.heap.size rfl #[.bool f, .int .i64 k, .int .i64 z, .slice o1 n1 c1, .slice o2 n2 c2] rfl hA _ Try.underlying33 rfl (by kernel_rfl) ?_) | (go_at_call 40; (with_reducible refine (HMAY.out _ (HBL.out _ _ HS2.out)).mono ?_); rintro e w3 ⟨rfl, hb3⟩; (have HS3 := Lib.hid (HS2.out.up hb3 (Nat.le_trans hBw (HBL.out _ _ HS2.out).size)); clear hb3 hA HS2 HMAY)))
  by_cases hr0 : r = 0
  · subst hr0
    cases f with
    | false =>
      have HP1 : Hid (Calls Try.prog 21 #[.pointer (some ⟨g, 0, none⟩), .int .i64 0, .int .i64 1] w3 fun e w' => e = .returned (.int .i64 0) ∧ WSt w1 B g vb0 (N + 0 * 2 ^ L, L + 1) w') := Lib.hid (putW HS3.out 0 1 (by decide) (by omega) (by simp only; omega))
      have x0 := (HA3.out _ _ HS3.out).cell (i := 0) (by simp)
      have y0 := (HA3.out _ _ HS3.out).blk.2
      by_cases hk0 : k = 0
      · subst hk0
        have hz : 0 ≤ z ∧ z ≤ 65535 := by
          have h := HR.out
          unfold mayI at h
          rw [if_pos rfl] at h
          apply Classical.byContradiction; intro hn
          rw [if_pos (by omega)] at h
          cases h
        obtain ⟨zn, rfl⟩ : ∃ zn : Nat, z = (zn : Int) := ⟨z.toNat, by omega⟩
        have hzn : zn ≤ 65535 := by omega
        have HPK : Hid (∀ (W : World) (st : Nat × Nat), WSt w1 B g vb0 st W → st.2 + 2 ≤ 1000000 → Calls Try.prog 21 #[.pointer (some ⟨g, 0, none⟩), .int .i64 0, .int .i64 2] W fun e w' => e = .returned (.int .i64 0) ∧ WSt w1 B g vb0 (st.1 + 0 * 2 ^ st.2, st.2 + 2) w') := Lib.hid (fun W st h hl => putW h 0 2 (by decide) (by omega) (by omega))
        have HDE : Hid (D = putS [(zn, 16), (65535 - zn, 16)] (alignW (putS [(0, 1), (0, 2)] (N, L)))) := Lib.hid (by rw [HD.out, if_pos rfl]; unfold wrI; rw [if_pos rfl, Int.toNat_natCast]; rfl)
        have hxr := bits_turn zn (by omega)
        have HAL := Lib.hid (fun (W : World) (st : Nat × Nat) (h : WSt w1 B g vb0 st W) (hl : st.2 ≤ 1000000) => alignWP h hl)
        have HP6 := Lib.hid (fun (W : World) (st : Nat × Nat) (v : Nat) (h : WSt w1 B g vb0 st W) (hv : v < 2 ^ 16) (hl : st.2 + 16 ≤ 34359738368) => putW h v 16 hv (by omega) hl)
        rw [show ((16 : Nat) : Int) = 16 from rfl] at HP6
        have hal : (alignW (N + 0 * 2 ^ L + 0 * 2 ^ (L + 1), L + 1 + 2)).2 ≤ 2000 := by show alignN (L + 1 + 2) ≤ 2000; unfold alignN; omega
        clear HD HR
        have hznt : 65535 - zn < 2 ^ 16 := by omega
        have hznt0 : zn < 2 ^ 16 := by omega
        generalize hzt : 65535 - zn = zt at *
        go_wp2_with (first | (go_at_call 21; first | ((with_reducible refine HP1.out.mono ?_); rintro e w4 ⟨rfl, hq⟩; (have HS4 := Lib.hid hq; have x1 := (HA3.out _ _ hq).cell (i := 1) (by simp); have y1 := (HA3.out _ _ hq).blk.2; have HP2 := Lib.hid (HPK.out _ _ hq (by simp only; omega)); clear hq HP1)) | ((with_reducible refine HP2.out.mono ?_); rintro e w5 ⟨rfl, hq⟩; (have HS5 := Lib.hid hq; have x2 := (HA3.out _ _ hq).cell (i := 1) (by simp); have y2 := (HA3.out _ _ hq).blk.2; have HA5 := Lib.hid (HAL.out _ _ hq (by simp only; omega)); clear hq HP2 HS4 x1 y1)) | ((with_reducible refine HPZ.out.mono ?_); rintro e w7 ⟨rfl, hq⟩; (have HS7 := Lib.hid hq; have x4 := (HA3.out _ _ hq).cell (i := 2) (by simp); have y4 := (HA3.out _ _ hq).blk.2; have HPY := Lib.hid (HP6.out _ _ zt hq hznt (by simp only; omega)); clear hq HPZ HS6 x3 y3)) | ((with_reducible refine HPY.out.mono ?_); rintro e w8 ⟨rfl, hq⟩; (have HS8 := Lib.hid hq; clear hq HPY))) | (go_at_call 41; (with_reducible refine HA5.out.mono ?_); rintro e w6 ⟨rfl, hq⟩; (have HS6 := Lib.hid hq; have x3 := (HA3.out _ _ hq).cell (i := 2) (by simp); have y3 := (HA3.out _ _ hq).blk.2; have HPZ := Lib.hid (HP6.out _ _ zn hq hznt0 (by omega)); clear hq HA5)))
        go_ret
        rw [HDE.out]
        exact ⟨rfl, HS8.out.from1 HB1.out hBw⟩
      · have hk0' : (k == 0) = false := by simpa using hk0
        by_cases hk1 : k = 1
        · subst hk1
          have HPK : Hid (∀ (W : World) (st : Nat × Nat), WSt w1 B g vb0 st W → st.2 + 2 ≤ 1000000 → Calls Try.prog 21 #[.pointer (some ⟨g, 0, none⟩), .int .i64 1, .int .i64 2] W fun e w' => e = .returned (.int .i64 0) ∧ WSt w1 B g vb0 (st.1 + 1 * 2 ^ st.2, st.2 + 2) w') := Lib.hid (fun W st h hl => putW h 1 2 (by decide) (by omega) (by omega))
          have HDE : Hid (D = putS [(0, 1), (1, 2)] (N, L)) := Lib.hid (by rw [HD.out, if_pos rfl]; unfold wrI; rw [if_neg hk0, if_pos rfl]; rfl)
          clear HD HR
          go_wp2_with (go_at_call 21; first | ((with_reducible refine HP1.out.mono ?_); rintro e w4 ⟨rfl, hq⟩; (have HS4 := Lib.hid hq; have x1 := (HA3.out _ _ hq).cell (i := 1) (by simp); have y1 := (HA3.out _ _ hq).blk.2; have HP2 := Lib.hid (HPK.out _ _ hq (by simp only; omega)); clear hq HP1)) | ((with_reducible refine HP2.out.mono ?_); rintro e w5 ⟨rfl, hq⟩; (have HS5 := Lib.hid hq; have x2 := (HA3.out _ _ hq).cell (i := 1) (by simp); have y2 := (HA3.out _ _ hq).blk.2; clear hq HP2 HS4 x1 y1)))
          go_ret
          rw [HDE.out]
          exact ⟨rfl, HS5.out.from1 HB1.out hBw⟩
        · have hk2 : k = 2 := by
            have h := HR.out
            unfold mayI at h
            rw [if_neg hk0, if_neg hk1] at h
            apply Classical.byContradiction; intro hn
            rw [if_neg hn] at h
            cases h
          subst hk2
          have HPK : Hid (∀ (W : World) (st : Nat × Nat), WSt w1 B g vb0 st W → st.2 + 2 ≤ 1000000 → Calls Try.prog 21 #[.pointer (some ⟨g, 0, none⟩), .int .i64 2, .int .i64 2] W fun e w' => e = .returned (.int .i64 0) ∧ WSt w1 B g vb0 (st.1 + 2 * 2 ^ st.2, st.2 + 2) w') := Lib.hid (fun W st h hl => putW h 2 2 (by decide) (by omega) (by omega))
          have HDE : Hid (D = putS (dynS (l1.map Int.toNat) (l2.map Int.toNat)) (putS [(0, 1), (2, 2)] (N, L))) := Lib.hid (by rw [HD.out, if_pos rfl]; unfold wrI; rw [if_neg hk0, if_neg hk1]; rfl)
          obtain ⟨m1, m2, m3, m4, m5, m6, m7, m8, -⟩ := mayI_dyn HR.out.symm
          have HLNG : Hid (∀ (W : World) (st : Nat × Nat), WSt w1 B g vb0 st W → st.2 ≤ 100000 → Calls Try.prog 42 #[.pointer (some ⟨g, 0, none⟩), .agg #[.bool false, .int .i64 2, .int .i64 z, .slice o1 n1 c1, .slice o2 n2 c2]] W fun e w' => e = .returned (.tuple #[]) ∧ WSt w1 B g vb0 (putS (dynS (l1.map Int.toNat) (l2.map Int.toNat)) st) w') := Lib.hid (fun W st h hl => h.join (Q := fun e => e = .returned (.tuple #[])) fun vb hb => lengthsP hb _ _ _ _ _ _ _ (fun W' hb' => by rw [← m5]; exact HU1.out W' ((HBL.out _ _ h).trans hb')) (fun W' hb' => by rw [← m6]; exact HU2.out W' ((HBL.out _ _ h).trans hb')) (by simpa using m1) (by simpa using m2) (by simpa using m3) (by simpa using m4) m7 m8 hl)
          clear HD HR m1 m2 m3 m4 m5 m6 m7 m8
          go_wp2_with (first | (go_at_call 21; first | ((with_reducible refine HP1.out.mono ?_); rintro e w4 ⟨rfl, hq⟩; (have HS4 := Lib.hid hq; have x1 := (HA3.out _ _ hq).cell (i := 1) (by simp); have y1 := (HA3.out _ _ hq).blk.2; have HP2 := Lib.hid (HPK.out _ _ hq (by simp only; omega)); clear hq HP1)) | ((with_reducible refine HP2.out.mono ?_); rintro e w5 ⟨rfl, hq⟩; (have HS5 := Lib.hid hq; have x2 := (HA3.out _ _ hq).cell (i := 1) (by simp); have y2 := (HA3.out _ _ hq).blk.2; obtain ⟨A, hA, hAs, hAl⟩ := (HA3.out _ _ hq).whole; have hAe : A = #[.bool false, .int .i64 2, .int .i64 z, .slice o1 n1 c1, .slice o2 n2 c2] := (by rw [← Array.toArray_toList (xs := A), hAl]); subst hAe; have HLN := Lib.hid (HLNG.out _ _ hq (by simp only; omega)); clear hq HP2 HS4 x1 y1))) | (refine load_box rfl 33 5 _ rfl w.heap.size rfl #[.bool false, .int .i64 2, .int .i64 z, .slice o1 n1 c1, .slice o2 n2 c2] rfl hA _ Try.underlying33 rfl (by kernel_rfl) ?_) | (go_at_call 42; (with_reducible refine HLN.out.mono ?_); rintro e w7 ⟨rfl, hq⟩; (have HS7 := Lib.hid hq; clear hq)))
          go_ret
          rw [HDE.out]
          exact ⟨rfl, HS7.out.from1 HB1.out hBw⟩
    | true =>
      have HP1 : Hid (Calls Try.prog 21 #[.pointer (some ⟨g, 0, none⟩), .int .i64 1, .int .i64 1] w3 fun e w' => e = .returned (.int .i64 0) ∧ WSt w1 B g vb0 (N + 1 * 2 ^ L, L + 1) w') := Lib.hid (putW HS3.out 1 1 (by decide) (by omega) (by simp only; omega))
      have x0 := (HA3.out _ _ HS3.out).cell (i := 0) (by simp)
      have y0 := (HA3.out _ _ HS3.out).blk.2
      by_cases hk0 : k = 0
      · subst hk0
        have hz : 0 ≤ z ∧ z ≤ 65535 := by
          have h := HR.out
          unfold mayI at h
          rw [if_pos rfl] at h
          apply Classical.byContradiction; intro hn
          rw [if_pos (by omega)] at h
          cases h
        obtain ⟨zn, rfl⟩ : ∃ zn : Nat, z = (zn : Int) := ⟨z.toNat, by omega⟩
        have hzn : zn ≤ 65535 := by omega
        have HPK : Hid (∀ (W : World) (st : Nat × Nat), WSt w1 B g vb0 st W → st.2 + 2 ≤ 1000000 → Calls Try.prog 21 #[.pointer (some ⟨g, 0, none⟩), .int .i64 0, .int .i64 2] W fun e w' => e = .returned (.int .i64 0) ∧ WSt w1 B g vb0 (st.1 + 0 * 2 ^ st.2, st.2 + 2) w') := Lib.hid (fun W st h hl => putW h 0 2 (by decide) (by omega) (by omega))
        have HDE : Hid (D = putS [(zn, 16), (65535 - zn, 16)] (alignW (putS [(1, 1), (0, 2)] (N, L)))) := Lib.hid (by rw [HD.out, if_pos rfl]; unfold wrI; rw [if_pos rfl, Int.toNat_natCast]; rfl)
        have hxr := bits_turn zn (by omega)
        have HAL := Lib.hid (fun (W : World) (st : Nat × Nat) (h : WSt w1 B g vb0 st W) (hl : st.2 ≤ 1000000) => alignWP h hl)
        have HP6 := Lib.hid (fun (W : World) (st : Nat × Nat) (v : Nat) (h : WSt w1 B g vb0 st W) (hv : v < 2 ^ 16) (hl : st.2 + 16 ≤ 34359738368) => putW h v 16 hv (by omega) hl)
        rw [show ((16 : Nat) : Int) = 16 from rfl] at HP6
        have hal : (alignW (N + 1 * 2 ^ L + 0 * 2 ^ (L + 1), L + 1 + 2)).2 ≤ 2000 := by show alignN (L + 1 + 2) ≤ 2000; unfold alignN; omega
        clear HD HR
        have hznt : 65535 - zn < 2 ^ 16 := by omega
        have hznt0 : zn < 2 ^ 16 := by omega
        generalize hzt : 65535 - zn = zt at *
        go_wp2_with (first | (go_at_call 21; first | ((with_reducible refine HP1.out.mono ?_); rintro e w4 ⟨rfl, hq⟩; (have HS4 := Lib.hid hq; have x1 := (HA3.out _ _ hq).cell (i := 1) (by simp); have y1 := (HA3.out _ _ hq).blk.2; have HP2 := Lib.hid (HPK.out _ _ hq (by simp only; omega)); clear hq HP1)) | ((with_reducible refine HP2.out.mono ?_); rintro e w5 ⟨rfl, hq⟩; (have HS5 := Lib.hid hq; have x2 := (HA3.out _ _ hq).cell (i := 1) (by simp); have y2 := (HA3.out _ _ hq).blk.2; have HA5 := Lib.hid (HAL.out _ _ hq (by simp only; omega)); clear hq HP2 HS4 x1 y1)) | ((with_reducible refine HPZ.out.mono ?_); rintro e w7 ⟨rfl, hq⟩; (have HS7 := Lib.hid hq; have x4 := (HA3.out _ _ hq).cell (i := 2) (by simp); have y4 := (HA3.out _ _ hq).blk.2; have HPY := Lib.hid (HP6.out _ _ zt hq hznt (by simp only; omega)); clear hq HPZ HS6 x3 y3)) | ((with_reducible refine HPY.out.mono ?_); rintro e w8 ⟨rfl, hq⟩; (have HS8 := Lib.hid hq; clear hq HPY))) | (go_at_call 41; (with_reducible refine HA5.out.mono ?_); rintro e w6 ⟨rfl, hq⟩; (have HS6 := Lib.hid hq; have x3 := (HA3.out _ _ hq).cell (i := 2) (by simp); have y3 := (HA3.out _ _ hq).blk.2; have HPZ := Lib.hid (HP6.out _ _ zn hq hznt0 (by omega)); clear hq HA5)))
        go_ret
        rw [HDE.out]
        exact ⟨rfl, HS8.out.from1 HB1.out hBw⟩
      · have hk0' : (k == 0) = false := by simpa using hk0
        by_cases hk1 : k = 1
        · subst hk1
          have HPK : Hid (∀ (W : World) (st : Nat × Nat), WSt w1 B g vb0 st W → st.2 + 2 ≤ 1000000 → Calls Try.prog 21 #[.pointer (some ⟨g, 0, none⟩), .int .i64 1, .int .i64 2] W fun e w' => e = .returned (.int .i64 0) ∧ WSt w1 B g vb0 (st.1 + 1 * 2 ^ st.2, st.2 + 2) w') := Lib.hid (fun W st h hl => putW h 1 2 (by decide) (by omega) (by omega))
          have HDE : Hid (D = putS [(1, 1), (1, 2)] (N, L)) := Lib.hid (by rw [HD.out, if_pos rfl]; unfold wrI; rw [if_neg hk0, if_pos rfl]; rfl)
          clear HD HR
          go_wp2_with (go_at_call 21; first | ((with_reducible refine HP1.out.mono ?_); rintro e w4 ⟨rfl, hq⟩; (have HS4 := Lib.hid hq; have x1 := (HA3.out _ _ hq).cell (i := 1) (by simp); have y1 := (HA3.out _ _ hq).blk.2; have HP2 := Lib.hid (HPK.out _ _ hq (by simp only; omega)); clear hq HP1)) | ((with_reducible refine HP2.out.mono ?_); rintro e w5 ⟨rfl, hq⟩; (have HS5 := Lib.hid hq; have x2 := (HA3.out _ _ hq).cell (i := 1) (by simp); have y2 := (HA3.out _ _ hq).blk.2; clear hq HP2 HS4 x1 y1)))
          go_ret
          rw [HDE.out]
          exact ⟨rfl, HS5.out.from1 HB1.out hBw⟩
        · have hk2 : k = 2 := by
            have h := HR.out
            unfold mayI at h
            rw [if_neg hk0, if_neg hk1] at h
            apply Classical.byContradiction; intro hn
            rw [if_neg hn] at h
            cases h
          subst hk2
          have HPK : Hid (∀ (W : World) (st : Nat × Nat), WSt w1 B g vb0 st W → st.2 + 2 ≤ 1000000 → Calls Try.prog 21 #[.pointer (some ⟨g, 0, none⟩), .int .i64 2, .int .i64 2] W fun e w' => e = .returned (.int .i64 0) ∧ WSt w1 B g vb0 (st.1 + 2 * 2 ^ st.2, st.2 + 2) w') := Lib.hid (fun W st h hl => putW h 2 2 (by decide) (by omega) (by omega))
          have HDE : Hid (D = putS (dynS (l1.map Int.toNat) (l2.map Int.toNat)) (putS [(1, 1), (2, 2)] (N, L))) := Lib.hid (by rw [HD.out, if_pos rfl]; unfold wrI; rw [if_neg hk0, if_neg hk1]; rfl)
          obtain ⟨m1, m2, m3, m4, m5, m6, m7, m8, -⟩ := mayI_dyn HR.out.symm
          have HLNG : Hid (∀ (W : World) (st : Nat × Nat), WSt w1 B g vb0 st W → st.2 ≤ 100000 → Calls Try.prog 42 #[.pointer (some ⟨g, 0, none⟩), .agg #[.bool true, .int .i64 2, .int .i64 z, .slice o1 n1 c1, .slice o2 n2 c2]] W fun e w' => e = .returned (.tuple #[]) ∧ WSt w1 B g vb0 (putS (dynS (l1.map Int.toNat) (l2.map Int.toNat)) st) w') := Lib.hid (fun W st h hl => h.join (Q := fun e => e = .returned (.tuple #[])) fun vb hb => lengthsP hb _ _ _ _ _ _ _ (fun W' hb' => by rw [← m5]; exact HU1.out W' ((HBL.out _ _ h).trans hb')) (fun W' hb' => by rw [← m6]; exact HU2.out W' ((HBL.out _ _ h).trans hb')) (by simpa using m1) (by simpa using m2) (by simpa using m3) (by simpa using m4) m7 m8 hl)
          clear HD HR m1 m2 m3 m4 m5 m6 m7 m8
          go_wp2_with (first | (go_at_call 21; first | ((with_reducible refine HP1.out.mono ?_); rintro e w4 ⟨rfl, hq⟩; (have HS4 := Lib.hid hq; have x1 := (HA3.out _ _ hq).cell (i := 1) (by simp); have y1 := (HA3.out _ _ hq).blk.2; have HP2 := Lib.hid (HPK.out _ _ hq (by simp only; omega)); clear hq HP1)) | ((with_reducible refine HP2.out.mono ?_); rintro e w5 ⟨rfl, hq⟩; (have HS5 := Lib.hid hq; have x2 := (HA3.out _ _ hq).cell (i := 1) (by simp); have y2 := (HA3.out _ _ hq).blk.2; obtain ⟨A, hA, hAs, hAl⟩ := (HA3.out _ _ hq).whole; have hAe : A = #[.bool true, .int .i64 2, .int .i64 z, .slice o1 n1 c1, .slice o2 n2 c2] := (by rw [← Array.toArray_toList (xs := A), hAl]); subst hAe; have HLN := Lib.hid (HLNG.out _ _ hq (by simp only; omega)); clear hq HP2 HS4 x1 y1))) | (refine load_box rfl 33 5 _ rfl w.heap.size rfl #[.bool true, .int .i64 2, .int .i64 z, .slice o1 n1 c1, .slice o2 n2 c2] rfl hA _ Try.underlying33 rfl (by kernel_rfl) ?_) | (go_at_call 42; (with_reducible refine HLN.out.mono ?_); rintro e w7 ⟨rfl, hq⟩; (have HS7 := Lib.hid hq; clear hq)))
          go_ret
          rw [HDE.out]
          exact ⟨rfl, HS7.out.from1 HB1.out hBw⟩
  · have hr0' : ((r : Int) != 0) = true := by simpa using hr0
    have HDE : Hid (D = (N, L)) := Lib.hid (by rw [HD.out, if_neg hr0])
    clear HR hr0
    go_wp2
    go_ret
    rw [HDE.out]
    exact ⟨rfl, HS3.out.from1 HB1.out hBw⟩
end Go.Cm

/- A head that was read: where the reader stands then, and that it may be written. Conditions: none. -/
namespace Go.Cm

theorem xb_mono {N T n : Nat} {st : Nat × Nat} (h : st.2 ≤ T) : st.2 ≤ (xb N T n st).2.2 ∧ (xb N T n st).2.2 ≤ T := by
  obtain ⟨e, p⟩ := st
  unfold xb
  split
  · have := bitsA_le (N := N) (n := n) (show p ≤ T from h)
    exact ⟨this.2, this.1⟩
  · exact ⟨Nat.le_refl _, h⟩
theorem xf_place (e : Nat) (st : Nat × Nat) : (xf e st).2 = st.2 := by unfold xf; split <;> rfl
theorem codeK_mono {N T c : Nat} {x : List Nat × (Nat × Nat)} (h : x.2.2 ≤ T) : ∀ k, x.2.2 ≤ (codeK N T c k x).2.2 ∧ (codeK N T c k x).2.2 ≤ T
  | 0 => ⟨Nat.le_refl _, h⟩
  | k + 1 => by
    have ih := codeK_mono (N := N) (c := c) h k
    rw [codeK_step]
    split
    · have := xb_mono (N := N) (n := 3) ih.2
      exact ⟨Nat.le_trans ih.1 this.1, this.2⟩
    · exact ih
theorem repN_mono {N T a : Nat} {l : List Nat} {st : Nat × Nat} (h : st.2 ≤ T) : st.2 ≤ (repN N T a l st).2.2.2 ∧ (repN N T a l st).2.2.2 ≤ T := by
  unfold repN
  split
  · exact xb_mono h
  · split
    · split
      · show st.2 ≤ (xf 4 st).2 ∧ (xf 4 st).2 ≤ T
        rw [xf_place]; exact ⟨Nat.le_refl _, h⟩
      · exact xb_mono h
    · exact xb_mono h
theorem rowN_mono {N T : Nat} {L : List Nat} {n : Nat} : ∀ (f : Nat) (l : List Nat) (st : Nat × Nat), st.2 ≤ T → st.2 ≤ (rowN N T L n f l st).2.2 ∧ (rowN N T L n f l st).2.2 ≤ T
  | 0, _, _, h => ⟨Nat.le_refl _, h⟩
  | f + 1, l, st, h => by
    by_cases hc : st.1 = 0 ∧ l.length < n
    · obtain ⟨en, p⟩ := st
      obtain ⟨h0, hlt⟩ := hc
      simp only at h0; subst h0
      rw [rowN_step N T L n f l p hlt]
      have hf := (readF_facts L (N / 2 ^ p) (T - p)).2.1
      generalize readF L (N / 2 ^ p) (T - p) = r at *
      have hd : p + r.2.2 ≤ T := by simp only at h; omega
      unfold rowStep
      split
      · exact ⟨Nat.le_refl _, h⟩
      · split
        · have := rowN_mono (N := N) (L := L) (n := n) f (l ++ [r.1]) (0, p + r.2.2) hd
          exact ⟨Nat.le_trans (Nat.le_add_right _ _) this.1, this.2⟩
        · have hm := repN_mono (N := N) (a := r.1) (l := l) (st := (0, p + r.2.2)) hd
          generalize repN N T r.1 l (0, p + r.2.2) = m at *
          split
          · show p ≤ (xf 3 m.2.2).2 ∧ (xf 3 m.2.2).2 ≤ T
            rw [xf_place]
            exact ⟨Nat.le_trans (Nat.le_add_right _ _) hm.1, hm.2⟩
          · have := rowN_mono (N := N) (L := L) (n := n) f (l ++ List.replicate m.1 m.2.1) m.2.2 hm.2
            exact ⟨Nat.le_trans (Nat.le_trans (Nat.le_add_right _ _) hm.1) this.1, this.2⟩
    · rw [rowN_stop _ _ _ _ _ _ _ hc]
      exact ⟨Nat.le_refl _, h⟩
theorem dynL_ok {N T a b : Nat} {k : List Nat × (Nat × Nat)} (h : (dynL N T a b k).2.2.1 = 0) (hp : k.2.2 ≤ T) :
    (dynL N T a b k).1.length = 257 + a ∧ (dynL N T a b k).2.1.length = 1 + b ∧ fits2 (dynL N T a b k).1 (dynL N T a b k).2.1 = 0 ∧ k.2.2 ≤ (dynL N T a b k).2.2.2 ∧ (dynL N T a b k).2.2.2 ≤ T ∧ k.2.1 = 0 := by
  unfold dynL at h ⊢
  split at h
  · rename_i h1; exact absurd h h1
  · rename_i h1
    rw [if_neg h1]
    split at h
    · rename_i h2; exact absurd h h2
    · rename_i h2
      rw [if_neg h2]
      split at h
      · rename_i h3; exact absurd h h3
      · rename_i h3
        rw [if_neg h3]
        have hl := rowN_len N T k.1 (257 + a + (1 + b)) (257 + a + (1 + b) + 1) [] k.2 (Nat.zero_le _) (by simp) (by simpa using h3)
        have hm := rowN_mono (N := N) (T := T) (L := k.1) (n := 257 + a + (1 + b)) (257 + a + (1 + b) + 1) [] k.2 hp
        generalize rowN N T k.1 (257 + a + (1 + b)) (257 + a + (1 + b) + 1) [] k.2 = r at *
        refine ⟨?_, ?_, h, hm.1, hm.2, by simpa using h1⟩
        · rw [List.length_take]; omega
        · rw [List.length_drop]; omega
theorem xf3_ne {st : Nat × Nat} : (xf 3 st).1 ≠ 0 := by
  unfold xf; split
  · exact Nat.succ_ne_zero 2
  · assumption
theorem codeK_ok {N T c : Nat} {x : List Nat × (Nat × Nat)} (h : (codeK N T c 19 x).2.1 = 0) : x.2.1 = 0 := by
  apply Classical.byContradiction; intro hn
  rw [codeK_err N T c 19 x hn] at h; exact hn h
theorem dynN_ok {N T p : Nat} (h : (dynN N T (0, p)).2.2.1 = 0) (hp : p ≤ T) :
    257 ≤ (dynN N T (0, p)).1.length ∧ (dynN N T (0, p)).1.length ≤ 286 ∧ 1 ≤ (dynN N T (0, p)).2.1.length ∧ (dynN N T (0, p)).2.1.length ≤ 30 ∧ fits2 (dynN N T (0, p)).1 (dynN N T (0, p)).2.1 = 0 ∧ p ≤ (dynN N T (0, p)).2.2.2 ∧ (dynN N T (0, p)).2.2.2 ≤ T := by
  unfold dynN at h ⊢
  have m1 := xb_mono (N := N) (n := 5) (st := (0, p)) hp
  generalize xb N T 5 (0, p) = r1 at *
  have m2 := xb_mono (N := N) (n := 5) (st := r1.2) m1.2
  generalize xb N T 5 r1.2 = r2 at *
  have m3 := xb_mono (N := N) (n := 4) (st := r2.2) m2.2
  generalize xb N T 4 r2.2 = r3 at *
  unfold dynM at h ⊢
  generalize hst : (if 286 < 257 + r1.1 ∨ 30 < 1 + r2.1 then xf 3 r3.2 else r3.2) = st at *
  have hst2 : st.2 = r3.2.2 := by rw [← hst]; split; exact xf_place _ _; rfl
  have mk := codeK_mono (N := N) (T := T) (c := r3.1) (x := (List.replicate 19 0, st)) (by show st.2 ≤ T; rw [hst2]; exact m3.2) 19
  obtain ⟨a1, a2, a3, a4, a5, a6⟩ := dynL_ok h mk.2
  have h0 := codeK_ok a6
  have hnb : ¬ (286 < 257 + r1.1 ∨ 30 < 1 + r2.1) := fun hc => by
    rw [if_pos hc] at hst
    rw [← hst] at h0
    exact xf3_ne h0
  have mk1 : st.2 ≤ _ := mk.1
  have m1' : p ≤ r1.2.2 := m1.1
  refine ⟨by rw [a1]; omega, by rw [a1]; omega, by rw [a2]; omega, by rw [a2]; omega, a3, ?_, a5⟩
  exact Nat.le_trans m1' (Nat.le_trans m2.1 (Nat.le_trans m3.1 (Nat.le_trans (Nat.le_of_eq hst2.symm) (Nat.le_trans mk1 a4))))
theorem storedN_ok {N T p : Nat} (h : (storedN N T (0, p)).2.1 = 0) (hp : alignN p ≤ T) : p ≤ (storedN N T (0, p)).2.2 ∧ (storedN N T (0, p)).2.2 ≤ T ∧ (storedN N T (0, p)).1 ≤ 65535 := by
  unfold storedN at h ⊢
  dsimp only at h ⊢
  have m1 := xb_mono (N := N) (n := 16) (st := (0, alignN p)) hp
  have l1 := xb_lt N T 16 (0, alignN p)
  generalize xb N T 16 (0, alignN p) = r1 at *
  have m2 := xb_mono (N := N) (n := 16) (st := r1.2) m1.2
  generalize xb N T 16 r1.2 = r2 at *
  have ha : p ≤ alignN p := by unfold alignN; omega
  have m1' : alignN p ≤ r1.2.2 := m1.1
  split at h
  · rename_i hc
    rw [if_pos hc]
    exact ⟨Nat.le_trans ha (Nat.le_trans m1' m2.1), m2.2, by omega⟩
  · rename_i hc
    exfalso
    unfold xf at h
    split at h
    · cases h
    · rename_i h2; exact h2 h
/-- a head that was read -/
theorem headF_ok {N T p : Nat} (h8 : 8 ∣ T) (_hp : p ≤ T) (h : (headF N T p).2.1 = 0) :
    p + 3 ≤ (headF N T p).2.2 ∧ (headF N T p).2.2 ≤ T ∧ mayI ((headF N T p).1.kind : Nat) ((headF N T p).1.size : Nat) (nls (headF N T p).1.lits) (nls (headF N T p).1.dists) = 0 := by
  obtain ⟨r1, h1⟩ : ∃ r1, r1 = bitsA N T p 1 := ⟨_, rfl⟩
  obtain ⟨a, e1, p1⟩ := r1
  obtain ⟨r2, h2⟩ : ∃ r2, r2 = bitsA N T p1 2 := ⟨_, rfl⟩
  obtain ⟨k, e2, p2⟩ := r2
  by_cases hb : e1 ≠ 0 ∨ e2 ≠ 0
  · rw [head_bad h1.symm h2.symm hb] at h; cases h
  · obtain ⟨q1, q2⟩ : e1 = 0 ∧ e2 = 0 := by omega
    subst q1 q2
    have hp1 : p1 = p + 1 ∧ p + 1 ≤ T := by
      unfold bitsA at h1
      split at h1
      · rename_i hc
        injection h1 with _ h1
        injection h1 with _ h1
        exact ⟨h1, hc⟩
      · injection h1 with _ h1
        injection h1 with h1 _
        cases h1
    have hp2 : p2 = p + 3 ∧ p + 3 ≤ T := by
      rw [hp1.1] at h2
      unfold bitsA at h2
      split at h2
      · rename_i hc
        injection h2 with _ h2
        injection h2 with _ h2
        exact ⟨h2, by omega⟩
      · injection h2 with _ h2
        injection h2 with h2 _
        cases h2
    have hal : alignN p2 ≤ T := by unfold alignN; omega
    rw [head_good h1.symm h2.symm] at h ⊢
    unfold kindN at h ⊢
    rw [if_neg (fun z => z rfl)] at h ⊢
    by_cases k0 : k = 0
    · rw [if_pos k0] at h ⊢
      by_cases hs : (storedN N T (0, p2)).2.1 ≠ 0
      · rw [if_pos hs] at h; exact absurd h hs
      · rw [if_neg hs]
        have h0 : (storedN N T (0, p2)).2.1 = 0 := by simpa using hs
        obtain ⟨b1, b2, b3⟩ := storedN_ok h0 hal
        refine ⟨by show p + 3 ≤ (storedN N T (0, p2)).2.2; omega, b2, ?_⟩
        show mayI 0 (((storedN N T (0, p2)).1 : Nat) : Int) _ _ = 0
        unfold mayI
        rw [if_pos rfl, if_neg (by omega)]
    · rw [if_neg k0] at h ⊢
      by_cases k1 : k = 1
      · rw [if_pos k1]
        refine ⟨by show p + 3 ≤ p2; omega, by show p2 ≤ T; omega, ?_⟩
        show mayI 1 0 _ _ = 0
        unfold mayI
        rw [if_neg (by decide), if_pos rfl]
      · rw [if_neg k1] at h ⊢
        by_cases k2 : k = 2
        · rw [if_pos k2] at h ⊢
          by_cases hs : (dynN N T (0, p2)).2.2.1 ≠ 0
          · rw [if_pos hs] at h; exact absurd h hs
          · rw [if_neg hs]
            have h0 : (dynN N T (0, p2)).2.2.1 = 0 := by simpa using hs
            obtain ⟨b1, b2, b3, b4, b5, b6, b7⟩ := dynN_ok h0 (show p2 ≤ T by omega)
            refine ⟨by show p + 3 ≤ (dynN N T (0, p2)).2.2.2; omega, b7, ?_⟩
            show mayI 2 0 (nls (dynN N T (0, p2)).1) (nls (dynN N T (0, p2)).2.1) = 0
            unfold mayI
            rw [if_neg (by decide), if_neg (by decide), if_pos rfl, nls_length, nls_length, if_neg (by omega), fits2_nls, b5]
        · rw [if_neg k2] at h; cases h
theorem headF_zero {N T p : Nat} (h : (headF N T p).2.1 ≠ 0) : (headF N T p).1 = HeadN.zero := by
  have key : ∀ (fin : Bool) (k : Nat) (st : Nat × Nat), (kindN N T p fin k st).2.1 ≠ 0 → (kindN N T p fin k st).1 = HeadN.zero := by
    intro fin k st h
    unfold kindN at h ⊢
    by_cases h1 : st.1 ≠ 0
    · rw [if_pos h1]
    · rw [if_neg h1] at h ⊢
      by_cases h2 : k = 0
      · rw [if_pos h2] at h ⊢
        by_cases h3 : (storedN N T st).2.1 ≠ 0
        · rw [if_pos h3]
        · rw [if_neg h3] at h; exact absurd rfl h
      · rw [if_neg h2] at h ⊢
        by_cases h3 : k = 1
        · rw [if_pos h3] at h; exact absurd rfl h
        · rw [if_neg h3] at h ⊢
          by_cases h4 : k = 2
          · rw [if_pos h4] at h ⊢
            by_cases h5 : (dynN N T st).2.2.1 ≠ 0
            · rw [if_pos h5]
            · rw [if_neg h5] at h; exact absurd rfl h
          · rw [if_neg h4]
  exact key _ _ _ h
end Go.Cm

/- The walk of the law BlockStands. Conditions: the arguments read as data. -/
namespace Go.Cm
open Go.RowKit Go.Proofs

set_option maxRecDepth 100000 in
set_option maxHeartbeats 4000000 in
theorem blockStands (s : ByteArray) (at' : Int) (w : World) (hs63 : s.size ≤ 140737488351232) (ha1 : -9223372036854775808 ≤ at') (ha2 : at' ≤ 9223372036854775807) :
    Calls Try.prog 5 #[.string s, .int .i64 at'] w fun e w' => e = .returned (.bool true) ∧ ∃ x, w' = ext w x := by
  by_cases hbig : s.size > 5000
  · have hbi : (s.size : Int) > 5000 := by omega
    go_enter Try.func5, Try.ntmps5
    go_wp2_with (go_at_call 8; refine (knownP _).mono ?_; rintro e w1 ⟨rfl, x, rfl⟩)
    go_ret
    exact ⟨rfl, (ex_ext (by repeat (first | exact Below.refl _ _ | assumption | refine b_drewN ?_ _ | refine Below.drew ?_ | refine b_ext' ?_ _ | refine b_alloc' ?_ _)))⟩
  · have hbi : ¬ (s.size : Int) > 5000 := by omega
    have hs1 : s.size ≤ 5000 := by omega
    have hs : s.size ≤ 4294967296 := by omega
    have em : 8 * (s.size : Int) + 1 = ((8 * s.size + 1 : Nat) : Int) := by omega
    have HCT := Lib.hid (countN at' (8 * s.size + 1) ha1 ha2 (by omega) (by omega))
    obtain ⟨em1, hem1⟩ : ∃ em1 : Nat, em1 = 8 * s.size + 1 := ⟨_, rfl⟩
    rw [← hem1] at em HCT
    have hmm : em1 ≤ 40001 := by omega
    have HEM := Lib.hid hem1
    have HS1 := Lib.hid hs1
    have HNS := Lib.hid (fun (W : World) (k : Nat) (hk : k < em1) => newS s k hs (by omega) W)
    have HRP := Lib.hid (fun (W : World) (g k : Nat) (hk : k < em1) (h : BoxS W g s k) => readHP h hs (by omega))
    unfold RetHead at HRP
    have HOK := Lib.hid (fun (k : Nat) (hk : k < em1) (h : (headF (numS s) (8 * s.size) k).2.1 = 0) => headF_ok (N := numS s) (T := 8 * s.size) (p := k) ⟨s.size, rfl⟩ (by omega) h)
    clear hem1 hbig hs63 hs1 hs ha1 ha2
    go_enter Try.func5, Try.ntmps5
    go_upto_region 7 with (first | (go_at_call 9; refine (HCT.out _).mono ?_; rintro e w1 ⟨⟨k, rfl, hk⟩, x1, rfl⟩; (have HB1 := Lib.hid (ext_below w x1); have hk4 : k ≤ 40001 := by omega)) | (go_at_call 10; (with_reducible refine (HNS.out _ k hk).mono ?_); rintro e w2 ⟨gr, rfl, hx, hge, hb⟩; (have HX2 := Lib.hid hx; have HB2 := Lib.hid (below_up HB1.out hb); have hgr : w.heap.size ≤ gr := Nat.le_trans (size_ext _ _) hge; have hl2 := hx.lt; clear hx hge hb)))
    have HRP3 := Lib.hid (HRP.out w2 gr k hk HX2.out)
    have HOK2 := Lib.hid (HOK.out k hk)
    have HER := Lib.hid (headF_err (N := numS s) (T := 8 * s.size) (p := k))
    have HZE := Lib.hid (headF_zero (N := numS s) (T := 8 * s.size) (p := k))
    clear HRP HCT HNS HX2 HB1 HOK
    generalize headF (numS s) (8 * s.size) k = D at *
    go_upto_region 8 with (go_at_call 12; (with_reducible refine HRP3.out.mono ?_); rintro e w4 ⟨v1, v2, rfl, ho1, ho2, hx, hg⟩; (have HX4 := Lib.hid hx; have hb4 : Below w.heap.size w w4 := HB2.out.grown hg HB2.out.size (fun k e => by injection e with e; omega); have HB4 := Lib.hid hb4; have HO1 := Lib.hid ho1; have HO2 := Lib.hid ho2; obtain ⟨o1, c1, g1, hv1, -⟩ := ho1.cases; obtain ⟨o2, c2, g2, hv2, -⟩ := ho2.cases; subst hv1 hv2; generalize (ints (nls D.1.lits)).length = n1 at *; generalize (ints (nls D.1.dists)).length = n2 at *; have hs4 := hb4.size; clear ho1 ho2 hx hg hb4 HRP3))
    have HHA := Lib.hid (ownH w4 D.1.fin (D.1.kind : Nat) (D.1.size : Nat) o1 o2 n1 n2 c1 c2 33)
    have HBA := Lib.hid (below_alloc w4 (.cells #[.bool D.1.fin, .int .i64 (D.1.kind : Nat), .int .i64 (D.1.size : Nat), .slice o1 n1 c1, .slice o2 n2 c2] 33))
    have HX5 := Lib.hid (HX4.out.up HBA.out)
    have HO1' := Lib.hid (HO1.out.up HBA.out)
    have HO2' := Lib.hid (HO2.out.up HBA.out)
    have HB5 := Lib.hid (HB4.out.trans (HBA.out.mono hs4))
    clear HX4 HO1 HO2 HB4 HBA
    generalize w4.alloc (.cells #[.bool D.1.fin, .int .i64 (D.1.kind : Nat), .int .i64 (D.1.size : Nat), .slice o1 n1 c1, .slice o2 n2 c2] 33) = w5 at *
    generalize w4.heap.size = b1 at *
    have hs5 := HB5.out.size
    obtain ⟨A, hA, hAs, hAl⟩ := HHA.out.whole
    have hAe : A = #[.bool D.1.fin, .int .i64 (D.1.kind : Nat), .int .i64 (D.1.size : Nat), .slice o1 n1 c1, .slice o2 n2 c2] := by rw [← Array.toArray_toList (xs := A), hAl]
    subst hAe
    have hb1 := HHA.out.blk.2
    have HAT : Hid (∀ W, Below w5.heap.size w5 W → Calls Try.prog 16 #[.pointer (some ⟨gr, 0, none⟩)] W fun e w' => e = .returned (.int .i64 (D.2.2 : Nat)) ∧ w' = W) := Lib.hid (fun W hb => atS (HX5.out.up hb))
    clear hAs hAl HX5
    by_cases he : D.2.1 = 0
    · obtain ⟨q1, q2, q3⟩ := HOK2.out he
      have HOP := Lib.hid (openP w5)
      have HBW := Lib.hid (fun (W : World) (hb : Below w5.heap.size w5 W) => hb.block b1 hb1)
      have HMAY := Lib.hid q3
      have hq1 : ((D.2.2 : Nat) : Int) ≥ (k : Int) + 3 := by omega
      have hq2 : ((D.2.2 : Nat) : Int) ≤ 8 * (s.size : Int) := by omega
      have hei : ((D.2.1 : Int) != 0) = false := by simp [he]
      clear q1 q2 q3 HOK2 HER HZE
      generalize D.2.2 = pe at *
      generalize D.2.1 = er at *
      go_upto_region 11 with (go_at_call 20; (with_reducible refine HOP.out.mono ?_); rintro e w6 ⟨gw, rfl, hw, hb6⟩; (have HW6 := Lib.hid hw; have HB6 := Lib.hid hb6; clear hw hb6))
      obtain ⟨vb, hv⟩ := HW6.out.v
      have HWR : Hid (Calls Try.prog 18 #[.pointer (some ⟨gw, 0, none⟩), .agg #[.bool D.1.fin, .int .i64 (D.1.kind : Nat), .int .i64 (D.1.size : Nat), .slice o1 n1 c1, .slice o2 n2 c2]] w6 fun e w' => e = .returned (.int .i64 0) ∧ Below w5.heap.size w6 w') := Lib.hid ((writeHP hv D.1.fin (D.1.kind : Nat) (D.1.size : Nat) (.slice o1 n1 c1) (.slice o2 n2 c2) (nls D.1.lits) (nls D.1.dists) (fun W hb => show IntsAt W _ _ from HO1'.out.sl.up (HB6.out.trans hb)) (fun W hb => show IntsAt W _ _ from HO2'.out.sl.up (HB6.out.trans hb)) (Nat.zero_le _)).mono fun e w' ⟨h1, h2⟩ => ⟨by rw [h1, HMAY.out]; rfl, h2.bel⟩)
      have hA6 := (HB6.out.block b1 hb1).trans hA
      have HH6 := Lib.hid (HHA.out.up HB6.out)
      have z0 := HH6.out.cell (i := 0) (by simp)
      have z1 := HH6.out.cell (i := 1) (by simp)
      have z2 := HH6.out.cell (i := 2) (by simp)
      have z3 := HH6.out.cell (i := 3) (by simp)
      have z4 := HH6.out.cell (i := 4) (by simp)
      have hb16 : b1 < w6.heap.size := Nat.lt_of_lt_of_le hb1 HB6.out.size
      have HAT6 := Lib.hid (HAT.out w6 HB6.out)
      clear hA hv HW6 HOP HAT
      go_wp2_with (first | (go_at_call 16; (with_reducible refine HAT6.out.mono ?_); rintro e w7 ⟨rfl, hw7⟩; rw [hw7]; clear hw7) | (refine load_box rfl 33 5 _ rfl b1 rfl #[.bool D.1.fin, .int .i64 (D.1.kind : Nat), .int .i64 (D.1.size : Nat), .slice o1 n1 c1, .slice o2 n2 c2] rfl hA6 _ Try.underlying33 rfl (by kernel_rfl) ?_) | (go_at_call 18; (with_reducible refine HWR.out.mono ?_); rintro e w8 ⟨rfl, hb8⟩; (have HB8 := Lib.hid (HB6.out.trans hb8); clear hb8)) | (go_at_call 8; refine (knownP _).mono ?_; rintro e w9 ⟨rfl, x9, rfl⟩))
      go_ret
      have hb58 := HB5.out.trans (HB8.out.mono hs5)
      exact ⟨rfl, ex_ext (hb58.trans ((ext_below _ _).mono hb58.size))⟩
    · have hei : ((D.2.1 : Int) != 0) = true := by simpa using he
      have hpe : D.2.2 = k := HER.out he
      have hze : D.1 = HeadN.zero := HZE.out he
      have HSM := Lib.hid (fun (W : World) (hb : Below w5.heap.size w5 W) => sameT D.1.fin (D.1.kind : Nat) (D.1.size : Nat) (.slice o1 n1 c1) (.slice o2 n2 c2) (.slice none 0 0) (.slice none 0 0) [] [] W (show IntsAt W _ _ from by have h := HO1'.out.sl.up hb; rw [hze] at h; exact h) (show IntsAt W _ _ from by have h := HO2'.out.sl.up hb; rw [hze] at h; exact h) (Sl.nil W) (Sl.nil W))
      have HTK := Lib.hid (takenP D.1.fin (D.1.kind : Nat) (D.1.size : Nat) o1 o2 n1 n2 c1 c2 w5)
      have HAT6 := Lib.hid (HAT.out w5 (Below.refl _ _))
      rw [hpe] at HAT6
      have hf1 : D.1.fin = false := by rw [hze]; rfl
      have hf2 : D.1.kind = 0 := by rw [hze]; rfl
      have hf3 : D.1.size = 0 := by rw [hze]; rfl
      rw [hf1, hf2, hf3] at HSM HTK hA
      rw [show ((0 : Nat) : Int) = 0 from rfl] at HSM HTK hA
      have hh5 := HHA.out
      rw [hf1, hf2, hf3] at hh5
      have z0 := hh5.cell (i := 0) (by simp)
      have z1 := hh5.cell (i := 1) (by simp)
      have z2 := hh5.cell (i := 2) (by simp)
      have z3 := hh5.cell (i := 3) (by simp)
      have z4 := hh5.cell (i := 4) (by simp)
      rw [show ((0 : Nat) : Int) = 0 from rfl] at z1 z2
      clear HAT HOK2 HER HZE hze he hpe hh5
      generalize D.2.1 = er at *
      go_wp2_with (first | (go_at_call 16; (with_reducible refine HAT6.out.mono ?_); rintro e w7 ⟨rfl, hw7⟩; rw [hw7]; clear hw7) | (refine load_box rfl 33 5 _ rfl b1 rfl _ rfl hA _ Try.underlying33 rfl (by kernel_rfl) ?_) | (go_at_call 15; (with_reducible refine HTK.out.mono ?_); rintro e w8 ⟨rfl, x8, rfl⟩) | (go_at_call 14; (with_reducible refine (HSM.out _ (ext_below _ _)).mono ?_); rintro e w9 ⟨rfl, x9, rfl⟩) | (go_at_call 8; refine (knownP _).mono ?_; rintro e w9 ⟨rfl, x10, rfl⟩))
      go_ret
      have hbz : Below w5.heap.size w5 (ext (ext (ext w5 x8) x9) x10) := (by repeat (first | exact Below.refl _ _ | assumption | refine b_drewN ?_ _ | refine Below.drew ?_ | refine b_ext' ?_ _ | refine b_alloc' ?_ _))
      exact ⟨rfl, ex_ext (HB5.out.trans (hbz.mono hs5))⟩
end Go.Cm
