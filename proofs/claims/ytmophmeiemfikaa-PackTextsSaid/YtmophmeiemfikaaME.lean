/- Texts of this claim, joined: walks of small functions and plain facts about them. Conditions: as each says. -/
import Derived.Test.YtmophmeiemfikaaMD
import Derived.Test.YtmophmeiemfikaaRows
import Derived.WalkKit
import Derived.WalkSpells
import Derived.WalkLawsBesides
import Derived.Deep.QuietTactic
import Derived.BigQuiet
import Derived.Lib.Hide
import Derived.Laws.Small
import Derived.Deep.LoopGhost
import Derived.Laws.BitsLemmas
import Derived.Deep.DeepCutAuto
import Derived.Laws.IdiomStrings
import Derived.Deep.CutBlock
import Derived.Deep.CutRange
/- The walk of the program's Split. Conditions: the text is not too long. -/
namespace Go.Cm
open Go.RowKit Go.Proofs

/-- the first n of a slice, with room for no more -/
theorem Sl.lowm {P : Program} {w : World} {v : Value} {l : List Value} (h : Sl w v l) (t E : TypeId) (ht : P.underlying t = some (.slice E)) (hE : (P.info? E).map (·.size) = some 1) (n : Nat) (hn : n ≤ l.length) :
    ∃ u, (∀ W : World, (Instr.sliceAt t v none (some (.int .i64 (n : Int))) (some (.int .i64 (n : Int)))).run P W = .ok u W) ∧ Sl w u (l.take n) := by
  obtain ⟨oa, cap, b, off, rfl, hd, hc⟩ := h
  obtain ⟨h1, h2⟩ := run_cut t E ht hE
  have hcap := hd.hcap
  have hl : (l.take n).length = n := by rw [List.length_take]; omega
  refine ⟨sliced oa 0 n n 1, fun W => ?_, ?_⟩
  · rw [run_sliceAt_slice (P := P) (t := t) (h := h1), run_slice_hm (t := t) (ht := h1) (h0 := by omega) (h2 := by omega) (h3 := by omega), h2]
    simp [Result.andThen]
  · refine ⟨if n = 0 then oa else oa.map (·.add (0 * 1)), n, b, off, by rw [hl]; simp [sliced], ⟨fun h0 => ?_, by omega, by have := hd.hmax; omega, by have := hd.hsml; omega, fun h0 => hd.hblk (by omega)⟩, fun i hi => ?_⟩
    · rw [hl] at h0
      rw [if_neg (by omega), hd.hat (by omega)]
      simp [add_off]
    · rw [hl] at hi
      rw [hc i (by omega)]
      simp [List.getD, hi]
theorem bytesV_take (t : Byts) (n : Nat) : (bytesV t).take n = bytesV (t.take n) := by simp [bytesV, List.map_take]
theorem bytesV_drop (t : Byts) (n : Nat) : (bytesV t).drop n = bytesV (t.drop n) := by simp [bytesV, List.map_drop]
theorem part_one (kd : Int) (tx : ByteArray) (o1 : Option Addr) (n1 c1 : Nat) : ∀ u ∈ ([[Value.int .i64 kd, .string tx, .slice o1 n1 c1, .slice none 0 0, .slice none 0 0]] : List (List Value)).flatten, u.oneCell' = true := by
  intro u hu; simp at hu; rcases hu with rfl | rfl | rfl | rfl | rfl <;> rfl
theorem part_len (kd : Int) (tx : ByteArray) (o1 : Option Addr) (n1 c1 : Nat) : ∀ x ∈ ([[Value.int .i64 kd, .string tx, .slice o1 n1 c1, .slice none 0 0, .slice none 0 0]] : List (List Value)), x.length = 5 := by
  intro x hx; simp at hx; subst hx; rfl
theorem part_lit (w : World) (T : Nat) (kd : Int) (tx : ByteArray) (o1 : Option Addr) (n1 c1 : Nat) : SlK 5 (w.alloc (.cells #[.int .i64 kd, .string tx, .slice o1 n1 c1, .slice none 0 0, .slice none 0 0] T)) (.slice (some ⟨w.heap.size, 0, none⟩) 1 1) [[.int .i64 kd, .string tx, .slice o1 n1 c1, .slice none 0 0, .slice none 0 0]] := by
  have h := slK_lit 5 w #[.int .i64 kd, .string tx, .slice o1 n1 c1, .slice none 0 0, .slice none 0 0] T [[.int .i64 kd, .string tx, .slice o1 n1 c1, .slice none 0 0, .slice none 0 0]] rfl (part_len kd tx o1 n1 c1) (by simp)
  simpa using h
theorem wpList_min_by {P : Program} {ops : Array Oper} {rest : List Oper} {o : Oper} {a : Act} {w : World} {Q : Exit → Act → World → Prop} (hgd : o.guard = none) (x y : Operand) (t1 t2 : TypeId) (ho : o.op = .call { callee := .builtin .min, args := #[x, y], argTypes := #[t1, t2] }) (m n k : Nat) (hx : a.eval x = .int .i64 m) (hy : a.eval y = .int .i64 n) (hk : k = min m n)
    (h : wpList P ops Q rest (a.put o.dst (.int .i64 k)) w) : wpList P ops Q (o :: rest) a w := by
  have hr := run_min_int2 (P := P) (w := w) #[t1, t2] o.type .i64 .i64 (m : Int) (n : Int)
  have hkk : (if (n : Int) < (m : Int) then (n : Int) else (m : Int)) = (k : Int) := by rw [hk]; split <;> omega
  rw [hkk] at hr
  refine wpList_plain hgd fun K hK => ?_
  unfold Oper.wp execOp
  simp only [ho, resolve, invoke, builtin, Sem.run_bind, Sem.run_pure, Result.andThen_ok, List.map_toArray, List.map_cons, List.map_nil, hx, hy, hr]
  exact hK _ _ h
theorem wpList_slice_by {P : Program} {ops : Array Oper} {rest : List Oper} {o : Oper} {a : Act} {w : World} {Q : Exit → Act → World → Prop} (hgd : o.guard = none) (t : TypeId) (x : Operand) (lo hi mx : Option Operand) (ho : o.op = .slice t x lo hi mx) (v : Value) (hr : (Instr.sliceAt t (a.eval x) (lo.map a.eval) (hi.map a.eval) (mx.map a.eval)).run P w = .ok v w)
    (h : wpList P ops Q rest (a.put o.dst v) w) : wpList P ops Q (o :: rest) a w := by
  refine wpList_plain hgd fun K hK => ?_
  unfold Oper.wp execOp
  simp only [ho, Sem.run_bind, Sem.run_pure, Result.andThen_ok, hr]
  exact hK _ _ h
theorem wpList_conv_by {P : Program} {ops : Array Oper} {rest : List Oper} {o : Oper} {a : Act} {w : World} {Q : Exit → Act → World → Prop} (hgd : o.guard = none) (s d : TypeId) (x : Operand) (ho : o.op = .convert s d x) (v : Value) (hr : (convert s d (a.eval x)).run P w = .ok v w)
    (h : wpList P ops Q rest (a.put o.dst v) w) : wpList P ops Q (o :: rest) a w := by
  refine wpList_plain hgd fun K hK => ?_
  unfold Oper.wp execOp
  simp only [ho, Sem.run_bind, Sem.run_pure, Result.andThen_ok, hr]
  exact hK _ _ h
theorem PtOwn.mono {w : World} {B B' : Nat} {row : Option Nat} {c : List Value} {p : PtN} (h : PtOwn w B row c p) (hB : B' ≤ B) : PtOwn w B' row c p := by
  obtain ⟨vo, h1, h2, h3⟩ := h
  exact ⟨vo, h1, h2.mono hB, h3⟩
theorem PartsOwn.mono {w : World} {B B' T : Nat} {v : Value} {l : List PtN} (h : PartsOwn w B T v l) (hB : B' ≤ B) : PartsOwn w B' T v l := by
  obtain ⟨cs, h1, h2, h3⟩ := h
  exact ⟨cs, h1.mono hB, h2, fun i hi => (h3 i hi).mono hB⟩
theorem parts_step {w wa w5 : World} {B T : Nat} {v v' : Value} {l : List PtN} {cs : List (List Value)} {c : List Value} {p : PtN} (hl : cs.length = l.length) (h3 : ∀ i, i < l.length → PtOwn w B v.ownBlock (cs.getD i []) (l.getD i zPt)) (hp : PtOwn w B v.ownBlock c p) (ho : OwnK 5 w5 B T v' (cs ++ [c])) (hb : Below w.heap.size w wa) (hg : wa.grownBy w5 v.ownBlock) (hk : ∀ q, v'.ownBlock = some q → v.ownBlock = some q ∨ wa.heap.size ≤ q) : PartsOwn w5 B T v' (l ++ [p]) :=
  PartsOwn.snoc hl h3 hp ho (grown_trans (grown_below hb _) hg) (fun q e => (hk q e).imp id (fun h => Nat.le_trans hb.size h))
theorem pt_even {i : Nat} (h : i % 2 = 0) (t : Byts) (w : World) (B : Nat) (row : Option Nat) : PtOwn w B row [.int .i64 0, .string ⟨t.toArray⟩, .slice none 0 0, .slice none 0 0, .slice none 0 0] (ptAt i t) := by
  unfold ptAt
  rw [if_pos h]
  exact ⟨.slice none 0 0, rfl, OwnK.nil 3 _ _ _, (fun q e => by simp [Value.ownBlock] at e), rfl, rfl⟩
theorem pt_odd {i : Nat} (h : ¬ i % 2 = 0) {t : Byts} {w : World} {B : Nat} {row : Option Nat} {vo : Value} (ho : OwnK 3 w B 75 vo ((opsOf (bys ⟨t.toArray⟩)).map opV)) (hn : ∀ q, vo.ownBlock = some q → row ≠ some q) : PtOwn w B row [.int .i64 1, .string ⟨#[]⟩, vo, .slice none 0 0, .slice none 0 0] (ptAt i t) := by
  unfold ptAt
  rw [if_neg h]
  rw [bys_mk] at ho
  exact ⟨vo, rfl, ho, hn, rfl, rfl⟩
def RetParts (T : Nat) (l : List PtN) (w : World) (e : Ending) (w' : World) : Prop := ∃ v', e = .returned v' ∧ PartsOwn w' w.heap.size T v' l ∧ Below w.heap.size w w'
set_option maxRecDepth 100000 in
set_option maxHeartbeats 4000000 in
theorem splitPk (s : ByteArray) (n : Int) (hs : s.size ≤ 100000) (w : World) : Calls Try.prog 24 #[.string s, .int .i64 n] w (RetParts 41 (splitN (bys s) n) w) := by
  have HOPS := Lib.hid (fun (t : Byts) (ht : t.length ≤ 100000) (W : World) => opsPk ⟨t.toArray⟩ (by show t.toArray.size ≤ 100000; simpa using ht) W)
  obtain ⟨R, hR⟩ : ∃ R, R = splitN (bys s) n := ⟨_, rfl⟩
  rw [← hR]
  unfold splitN at hR
  obtain ⟨hm1, hm2⟩ := sizeN_pos n
  have hcl : ((decide (n < 1) = true ∨ (decide (n < 1) = false ∧ decide (n > 65535) = true)) ∧ sizeN n = 65535) ∨ (decide (n < 1) = false ∧ decide (n > 65535) = false ∧ n = (sizeN n : Nat)) := by
    unfold sizeN
    by_cases h : n < 1 ∨ 65535 < n
    · rw [if_pos h]
      refine .inl ⟨?_, rfl⟩
      simp only [decide_eq_true_eq, decide_eq_false_iff_not]; omega
    · rw [if_neg h]
      refine .inr ⟨?_, ?_, by omega⟩ <;> · rw [decide_eq_false_iff_not]; omega
  have HR := Lib.hid hR
  have HL := Lib.hid (bys_len s)
  clear hR
  generalize sizeN n = m at *
  have HGO : Hid (∀ (f i : Nat) (t : Byts), t.length < f → (t.drop (min m t.length) = [] → splitFr m f i t = [ptAt i (t.take (min m t.length))]) ∧ (t.drop (min m t.length) ≠ [] → ∃ g, splitFr m f i t = ptAt i (t.take (min m t.length)) :: splitFr m g (i + 1) (t.drop (min m t.length)) ∧ (t.drop (min m t.length)).length < g)) := Lib.hid (fun f i t hf => by
    obtain ⟨g, rfl⟩ : ∃ g, f = g + 1 := ⟨f - 1, by omega⟩
    refine ⟨fun h => splitFr_last h, fun h => ⟨g, splitFr_more h, ?_⟩⟩
    have h2 : (t.drop (min m t.length)).length ≠ 0 := fun e => h (List.length_eq_zero_iff.1 e)
    rw [List.length_drop] at h2 ⊢
    omega)
  have fin : ∀ w0 : World, Calls Try.prog 24 #[.string s, .int .i64 n] w0 (RetParts 41 R w0) := by
    intro w
    rcases hcl with ⟨h1 | ⟨h1, h2⟩, rfl⟩ | ⟨h1, h2, hn⟩
    · skip
      go_enter Try.func24, Try.ntmps24
      go_wp2_with (refine wpList_bytes_of rfl 9 43 5 _ rfl Try.underlying9 Try.underlying43 Try.underlying5 s rfl (by omega) ?_; intro v1 w1 hv1 hb1; have HV1 := Lib.hid hv1; have HB1 := Lib.hid hb1; clear hv1 hb1)
      go_loopg [5, 6] (s.size + 1) (fun gk lv bv wr => ∃ (t : Byts) (f : Nat) (ps : List PtN), Sl w1 bv (bytesV t) ∧ PartsOwn wr w1.heap.size 41 lv ps ∧ Hid (ps ++ splitFr 65535 f ps.length t = R) ∧ Hid (t.length < f) ∧ ps.length + t.length ≤ s.size ∧ Below w1.heap.size w1 wr ∧ gk = t.length + 1)
      case atStart => exact ⟨bys s, (bys s).length + 1, [], HV1.out, PartsOwn.nil _ _ _, Lib.hid (by rw [HR.out]; rfl), Lib.hid (by omega), by rw [HL.out]; simp, Below.refl _ _, by rw [HL.out]⟩
      case round =>
        clear HV1
        obtain ⟨t, f, ps, hbv, hpo, HPS, HF, hle, hbl, rfl⟩ := hrel
        obtain ⟨ob, cb, bb, fb, hv6, hd6, -⟩ := id hbv
        rw [bytesV_length] at hv6 hd6
        have HBL := Lib.hid hbl
        have hsz := hbl.size
        have hl6 := hd6.len
        obtain ⟨k, hk⟩ : ∃ k, k = min 65535 t.length := ⟨_, rfl⟩
        have hkl : k ≤ t.length := by omega
        obtain ⟨up, hup, hupS⟩ := hbv.lowm (P := Try.prog) 43 5 Try.underlying43 (by kernel_rfl) k (by rw [bytesV_length]; exact hkl)
        obtain ⟨ud, hud, hudS⟩ := hbv.high (P := Try.prog) 43 5 Try.underlying43 (by kernel_rfl) k (by rw [bytesV_length]; exact hkl)
        rw [bytesV_take] at hupS
        rw [bytesV_drop] at hudS
        have hcv := run_bytes_string (P := Try.prog) wr 43 9 5 Try.underlying43 Try.underlying5 Try.underlying9 up (t.take k) (hupS.up hbl)
        obtain ⟨od, cd, bd, fd, hvd, hdd, -⟩ := id hudS
        rw [bytesV_length] at hvd hdd
        have HUD := Lib.hid hudS
        have hdl : (t.drop k).length = t.length - k := List.length_drop ..
        have HGP := HGO.out f ps.length t HF.out
        rw [← hk] at HGP
        have HG := Lib.hid HGP
        obtain ⟨cs, hcs1, hcs2, hcs3⟩ := hpo
        obtain ⟨ol, cl, bL, fL, hvl, hdL, -⟩ := hcs1.sl
        rw [hcs2] at hvl hdL
        have HCS1 := Lib.hid hcs1
        have HCS3 := Lib.hid hcs3
        have HTK : Hid ((t.take k).length ≤ 100000) := Lib.hid (by rw [List.length_take]; omega)
        have HLC : Hid (cs.length + 1 ≤ 1000000000) := Lib.hid (by omega)
        have HUP := Lib.hid hup
        have HUDR := Lib.hid hud
        have HCV := Lib.hid hcv
        have HHK := Lib.hid hk
        have HLE := Lib.hid hle
        clear hup hud hcv hbv hbl hupS hudS HGP hcs1 hcs3 hk hd6 hdd hdL hle
        subst hvd
        subst hvl
        subst hv6
        obtain ⟨td, htd⟩ : ∃ td, td = t.drop k := ⟨_, rfl⟩
        obtain ⟨tk, htk⟩ : ∃ tk, tk = t.take k := ⟨_, rfl⟩
        rw [← htd] at hdl HG HUD HUDR
        rw [← htk] at HG HTK HCV
        clear htd htk
        obtain ⟨dl, hdl2⟩ : ∃ dl, dl = td.length := ⟨_, rfl⟩
        have HDL := Lib.hid hdl2
        rw [← hdl2] at hdl HUD HUDR
        have HDE := Lib.hid hdl
        clear hdl2 hdl
        by_cases hpar : ps.length % 2 = 0
        · have hpi : (ps.length : Int).tmod 2 = 0 := by
            have h : (ps.length : Int) % 2 = 0 := by omega
            rw [Int.tmod_eq_emod_of_nonneg (by omega)]; exact h
          go_wp2_with (first | (refine wpList_min_by rfl (.tmp 17) (.tmp 19) 3 3 rfl 65535 t.length k rfl rfl HHK.out ?_) | (refine wpList_slice_by rfl 43 (.tmp 21) none (some (.tmp 22)) (some (.tmp 23)) rfl up (HUP.out _) ?_) | (refine wpList_slice_by rfl 43 (.tmp 42) (some (.tmp 43)) none none rfl _ (HUDR.out _) ?_) | (refine wpList_conv_by rfl 43 9 (.tmp 30) rfl _ HCV.out ?_) | (at_builtin; go_loud (refine wpList_appL 5 rfl (.tmp 29) (.tmp 33) 28 rfl w1.heap.size 41 (.agg #[.int .i64 0, .string ⟨#[]⟩, .slice none 0 0, .slice none 0 0, .slice none 0 0]) 96 Try.underlying28 (by kernel_rfl) rfl (by decide) (by decide) (.slice ol ps.length cl) cs rfl (HCS1.out.up (below_alloc wr _)) _ _ rfl (part_lit _ _ 0 ⟨tk.toArray⟩ none 0 0) (part_len 0 ⟨tk.toArray⟩ none 0 0) (part_one 0 ⟨tk.toArray⟩ none 0 0) HLC.out (Nat.le_trans hsz (below_alloc wr _).size) ?_); intro v' w5 hown1 hg1 hk1; have HO5 := Lib.hid hown1; have HG5 := Lib.hid hg1; have HK5 := Lib.hid hk1; clear hown1 hg1 hk1))
          · rename_i h0
            have hd0 : td = [] := by
              have h : (dl : Int) = 0 := by simpa using h0
              have := HDL.out
              exact List.length_eq_zero_iff.1 (by omega)
            have hpo5 := parts_step hcs2 HCS3.out (pt_even hpar tk wr _ _) HO5.out (below_alloc wr _) HG5.out HK5.out
            have hbl5 := (HBL.out.alloc hsz (.cells #[.int .i64 0, .string ⟨tk.toArray⟩, .slice none 0 0, .slice none 0 0, .slice none 0 0] 41)).grown HG5.out (Nat.le_trans hsz (below_alloc wr _).size) (fun q e => (HCS1.out.lt q e).1)
            have hR2 : R = ps ++ [ptAt ps.length tk] := by rw [← HPS.out, HG.out.1 hd0]
            go_ret
            rw [hR2]
            exact ⟨_, rfl, hpo5.mono HB1.out.size, HB1.out.trans (hbl5.mono HB1.out.size)⟩
          · rename_i h0
            have hd0 : td ≠ [] := by
              intro e
              have := HDL.out
              rw [e] at this
              simp at this
              simp [this] at h0
            have hpo5 := parts_step hcs2 HCS3.out (pt_even hpar tk wr _ _) HO5.out (below_alloc wr _) HG5.out HK5.out
            have hbl5 := (HBL.out.alloc hsz (.cells #[.int .i64 0, .string ⟨tk.toArray⟩, .slice none 0 0, .slice none 0 0, .slice none 0 0] 41)).grown HG5.out (Nat.le_trans hsz (below_alloc wr _).size) (fun q e => (HCS1.out.lt q e).1)
            obtain ⟨g, hg1, hg2⟩ := HG.out.2 hd0
            have HR2 := Lib.hid hg1
            have HG2 := Lib.hid hg2
            have hc1 := HDE.out
            have hc2 := HLE.out
            have hc3 : dl ≠ 0 := fun e => hd0 (List.length_eq_zero_iff.1 (by rw [← HDL.out]; exact e))
            have hc4 := HDL.out
            have hc5 : 1 ≤ k := by have := HHK.out; omega
            have HP5 := Lib.hid hpo5
            have HB5 := Lib.hid hbl5
            clear hpo5 hbl5 hg1 hg2 h0
            go_roundg (dl + 1)
            case measure => omega
            case rel =>
              refine ⟨td, g, ps ++ [ptAt ps.length tk], HUD.out, HP5.out, Lib.hid ?_, HG2, ?_, HB5.out, ?_⟩
              · rw [← HPS.out, HR2.out, List.length_append, List.length_singleton, List.append_assoc]; rfl
              · rw [List.length_append, List.length_singleton]; omega
              · omega
        · have hpi : (ps.length : Int).tmod 2 = 1 := by
            have h : (ps.length : Int) % 2 = 1 := by omega
            rw [Int.tmod_eq_emod_of_nonneg (by omega)]; exact h
          go_wp2_with (first | (refine wpList_min_by rfl (.tmp 17) (.tmp 19) 3 3 rfl 65535 t.length k rfl rfl HHK.out ?_) | (refine wpList_slice_by rfl 43 (.tmp 21) none (some (.tmp 22)) (some (.tmp 23)) rfl up (HUP.out _) ?_) | (refine wpList_slice_by rfl 43 (.tmp 42) (some (.tmp 43)) none none rfl _ (HUDR.out _) ?_) | (refine wpList_conv_by rfl 43 9 (.tmp 36) rfl _ HCV.out ?_) | (go_at_call 20; refine (HOPS.out tk HTK.out wr).mono ?_; rintro e w2 ⟨vo, rfl, ho2, hb2⟩; obtain ⟨oo, co, bo, fo, hvo, hdo, -⟩ := ho2.sl; obtain ⟨nn, hnn⟩ : ∃ nn, nn = ((opsOf (bys ⟨tk.toArray⟩)).map opV).length := ⟨_, rfl⟩; rw [← hnn] at hvo; clear hnn; subst hvo; have HO2 := Lib.hid ho2; have HB2 := Lib.hid hb2; clear ho2 hb2 hdo) | (at_builtin; go_loud (refine wpList_appL 5 rfl (.tmp 35) (.tmp 40) 28 rfl w1.heap.size 41 (.agg #[.int .i64 0, .string ⟨#[]⟩, .slice none 0 0, .slice none 0 0, .slice none 0 0]) 96 Try.underlying28 (by kernel_rfl) rfl (by decide) (by decide) (.slice ol ps.length cl) cs rfl ((HCS1.out.up HB2.out).up (below_alloc w2 _)) _ _ rfl (part_lit _ _ 1 ⟨#[]⟩ oo nn co) (part_len 1 ⟨#[]⟩ oo nn co) (part_one 1 ⟨#[]⟩ oo nn co) HLC.out (Nat.le_trans hsz (Nat.le_trans HB2.out.size (below_alloc w2 _).size)) ?_); intro v' w5 hown1 hg1 hk1; have HO5 := Lib.hid hown1; have HG5 := Lib.hid hg1; have HK5 := Lib.hid hk1; clear hown1 hg1 hk1))
          · rename_i h0
            have hd0 : td = [] := by
              have h : (dl : Int) = 0 := by simpa using h0
              have := HDL.out
              exact List.length_eq_zero_iff.1 (by omega)
            have hpo5 := parts_step hcs2 (fun i hi => (HCS3.out i hi).keep (grown_below HB2.out _) (fun q e => .inl e)) (pt_odd hpar (HO2.out.mono hsz) (fun q e e2 => by have h1 := (HO2.out.lt q e).1; have h2 := (HCS1.out.lt q e2).2; omega)) HO5.out (below_alloc w2 _) HG5.out HK5.out
            have hbl5 := ((HBL.out.trans (HB2.out.mono hsz)).alloc (Nat.le_trans hsz HB2.out.size) (.cells #[.int .i64 1, .string ⟨#[]⟩, .slice oo nn co, .slice none 0 0, .slice none 0 0] 41)).grown HG5.out (Nat.le_trans hsz (Nat.le_trans HB2.out.size (below_alloc w2 _).size)) (fun q e => (HCS1.out.lt q e).1)
            have hR2 : R = ps ++ [ptAt ps.length tk] := by rw [← HPS.out, HG.out.1 hd0]
            go_ret
            rw [hR2]
            exact ⟨_, rfl, hpo5.mono HB1.out.size, HB1.out.trans (hbl5.mono HB1.out.size)⟩
          · rename_i h0
            have hd0 : td ≠ [] := by
              intro e
              have := HDL.out
              rw [e] at this
              simp at this
              simp [this] at h0
            have hpo5 := parts_step hcs2 (fun i hi => (HCS3.out i hi).keep (grown_below HB2.out _) (fun q e => .inl e)) (pt_odd hpar (HO2.out.mono hsz) (fun q e e2 => by have h1 := (HO2.out.lt q e).1; have h2 := (HCS1.out.lt q e2).2; omega)) HO5.out (below_alloc w2 _) HG5.out HK5.out
            have hbl5 := ((HBL.out.trans (HB2.out.mono hsz)).alloc (Nat.le_trans hsz HB2.out.size) (.cells #[.int .i64 1, .string ⟨#[]⟩, .slice oo nn co, .slice none 0 0, .slice none 0 0] 41)).grown HG5.out (Nat.le_trans hsz (Nat.le_trans HB2.out.size (below_alloc w2 _).size)) (fun q e => (HCS1.out.lt q e).1)
            obtain ⟨g, hg1, hg2⟩ := HG.out.2 hd0
            have HR2 := Lib.hid hg1
            have HG2 := Lib.hid hg2
            have hc1 := HDE.out
            have hc2 := HLE.out
            have hc3 : dl ≠ 0 := fun e => hd0 (List.length_eq_zero_iff.1 (by rw [← HDL.out]; exact e))
            have hc4 := HDL.out
            have hc5 : 1 ≤ k := by have := HHK.out; omega
            have HP5 := Lib.hid hpo5
            have HB5 := Lib.hid hbl5
            clear hpo5 hbl5 hg1 hg2 h0
            go_roundg (dl + 1)
            case measure => omega
            case rel =>
              refine ⟨td, g, ps ++ [ptAt ps.length tk], HUD.out, HP5.out, Lib.hid ?_, HG2, ?_, HB5.out, ?_⟩
              · rw [← HPS.out, HR2.out, List.length_append, List.length_singleton, List.append_assoc]; rfl
              · rw [List.length_append, List.length_singleton]; omega
              · omega
    · skip
      go_enter Try.func24, Try.ntmps24
      go_wp2_with (refine wpList_bytes_of rfl 9 43 5 _ rfl Try.underlying9 Try.underlying43 Try.underlying5 s rfl (by omega) ?_; intro v1 w1 hv1 hb1; have HV1 := Lib.hid hv1; have HB1 := Lib.hid hb1; clear hv1 hb1)
      go_loopg [5, 6] (s.size + 1) (fun gk lv bv wr => ∃ (t : Byts) (f : Nat) (ps : List PtN), Sl w1 bv (bytesV t) ∧ PartsOwn wr w1.heap.size 41 lv ps ∧ Hid (ps ++ splitFr 65535 f ps.length t = R) ∧ Hid (t.length < f) ∧ ps.length + t.length ≤ s.size ∧ Below w1.heap.size w1 wr ∧ gk = t.length + 1)
      case atStart => exact ⟨bys s, (bys s).length + 1, [], HV1.out, PartsOwn.nil _ _ _, Lib.hid (by rw [HR.out]; rfl), Lib.hid (by omega), by rw [HL.out]; simp, Below.refl _ _, by rw [HL.out]⟩
      case round =>
        clear HV1
        obtain ⟨t, f, ps, hbv, hpo, HPS, HF, hle, hbl, rfl⟩ := hrel
        obtain ⟨ob, cb, bb, fb, hv6, hd6, -⟩ := id hbv
        rw [bytesV_length] at hv6 hd6
        have HBL := Lib.hid hbl
        have hsz := hbl.size
        have hl6 := hd6.len
        obtain ⟨k, hk⟩ : ∃ k, k = min 65535 t.length := ⟨_, rfl⟩
        have hkl : k ≤ t.length := by omega
        obtain ⟨up, hup, hupS⟩ := hbv.lowm (P := Try.prog) 43 5 Try.underlying43 (by kernel_rfl) k (by rw [bytesV_length]; exact hkl)
        obtain ⟨ud, hud, hudS⟩ := hbv.high (P := Try.prog) 43 5 Try.underlying43 (by kernel_rfl) k (by rw [bytesV_length]; exact hkl)
        rw [bytesV_take] at hupS
        rw [bytesV_drop] at hudS
        have hcv := run_bytes_string (P := Try.prog) wr 43 9 5 Try.underlying43 Try.underlying5 Try.underlying9 up (t.take k) (hupS.up hbl)
        obtain ⟨od, cd, bd, fd, hvd, hdd, -⟩ := id hudS
        rw [bytesV_length] at hvd hdd
        have HUD := Lib.hid hudS
        have hdl : (t.drop k).length = t.length - k := List.length_drop ..
        have HGP := HGO.out f ps.length t HF.out
        rw [← hk] at HGP
        have HG := Lib.hid HGP
        obtain ⟨cs, hcs1, hcs2, hcs3⟩ := hpo
        obtain ⟨ol, cl, bL, fL, hvl, hdL, -⟩ := hcs1.sl
        rw [hcs2] at hvl hdL
        have HCS1 := Lib.hid hcs1
        have HCS3 := Lib.hid hcs3
        have HTK : Hid ((t.take k).length ≤ 100000) := Lib.hid (by rw [List.length_take]; omega)
        have HLC : Hid (cs.length + 1 ≤ 1000000000) := Lib.hid (by omega)
        have HUP := Lib.hid hup
        have HUDR := Lib.hid hud
        have HCV := Lib.hid hcv
        have HHK := Lib.hid hk
        have HLE := Lib.hid hle
        clear hup hud hcv hbv hbl hupS hudS HGP hcs1 hcs3 hk hd6 hdd hdL hle
        subst hvd
        subst hvl
        subst hv6
        obtain ⟨td, htd⟩ : ∃ td, td = t.drop k := ⟨_, rfl⟩
        obtain ⟨tk, htk⟩ : ∃ tk, tk = t.take k := ⟨_, rfl⟩
        rw [← htd] at hdl HG HUD HUDR
        rw [← htk] at HG HTK HCV
        clear htd htk
        obtain ⟨dl, hdl2⟩ : ∃ dl, dl = td.length := ⟨_, rfl⟩
        have HDL := Lib.hid hdl2
        rw [← hdl2] at hdl HUD HUDR
        have HDE := Lib.hid hdl
        clear hdl2 hdl
        by_cases hpar : ps.length % 2 = 0
        · have hpi : (ps.length : Int).tmod 2 = 0 := by
            have h : (ps.length : Int) % 2 = 0 := by omega
            rw [Int.tmod_eq_emod_of_nonneg (by omega)]; exact h
          go_wp2_with (first | (refine wpList_min_by rfl (.tmp 17) (.tmp 19) 3 3 rfl 65535 t.length k rfl rfl HHK.out ?_) | (refine wpList_slice_by rfl 43 (.tmp 21) none (some (.tmp 22)) (some (.tmp 23)) rfl up (HUP.out _) ?_) | (refine wpList_slice_by rfl 43 (.tmp 42) (some (.tmp 43)) none none rfl _ (HUDR.out _) ?_) | (refine wpList_conv_by rfl 43 9 (.tmp 30) rfl _ HCV.out ?_) | (at_builtin; go_loud (refine wpList_appL 5 rfl (.tmp 29) (.tmp 33) 28 rfl w1.heap.size 41 (.agg #[.int .i64 0, .string ⟨#[]⟩, .slice none 0 0, .slice none 0 0, .slice none 0 0]) 96 Try.underlying28 (by kernel_rfl) rfl (by decide) (by decide) (.slice ol ps.length cl) cs rfl (HCS1.out.up (below_alloc wr _)) _ _ rfl (part_lit _ _ 0 ⟨tk.toArray⟩ none 0 0) (part_len 0 ⟨tk.toArray⟩ none 0 0) (part_one 0 ⟨tk.toArray⟩ none 0 0) HLC.out (Nat.le_trans hsz (below_alloc wr _).size) ?_); intro v' w5 hown1 hg1 hk1; have HO5 := Lib.hid hown1; have HG5 := Lib.hid hg1; have HK5 := Lib.hid hk1; clear hown1 hg1 hk1))
          · rename_i h0
            have hd0 : td = [] := by
              have h : (dl : Int) = 0 := by simpa using h0
              have := HDL.out
              exact List.length_eq_zero_iff.1 (by omega)
            have hpo5 := parts_step hcs2 HCS3.out (pt_even hpar tk wr _ _) HO5.out (below_alloc wr _) HG5.out HK5.out
            have hbl5 := (HBL.out.alloc hsz (.cells #[.int .i64 0, .string ⟨tk.toArray⟩, .slice none 0 0, .slice none 0 0, .slice none 0 0] 41)).grown HG5.out (Nat.le_trans hsz (below_alloc wr _).size) (fun q e => (HCS1.out.lt q e).1)
            have hR2 : R = ps ++ [ptAt ps.length tk] := by rw [← HPS.out, HG.out.1 hd0]
            go_ret
            rw [hR2]
            exact ⟨_, rfl, hpo5.mono HB1.out.size, HB1.out.trans (hbl5.mono HB1.out.size)⟩
          · rename_i h0
            have hd0 : td ≠ [] := by
              intro e
              have := HDL.out
              rw [e] at this
              simp at this
              simp [this] at h0
            have hpo5 := parts_step hcs2 HCS3.out (pt_even hpar tk wr _ _) HO5.out (below_alloc wr _) HG5.out HK5.out
            have hbl5 := (HBL.out.alloc hsz (.cells #[.int .i64 0, .string ⟨tk.toArray⟩, .slice none 0 0, .slice none 0 0, .slice none 0 0] 41)).grown HG5.out (Nat.le_trans hsz (below_alloc wr _).size) (fun q e => (HCS1.out.lt q e).1)
            obtain ⟨g, hg1, hg2⟩ := HG.out.2 hd0
            have HR2 := Lib.hid hg1
            have HG2 := Lib.hid hg2
            have hc1 := HDE.out
            have hc2 := HLE.out
            have hc3 : dl ≠ 0 := fun e => hd0 (List.length_eq_zero_iff.1 (by rw [← HDL.out]; exact e))
            have hc4 := HDL.out
            have hc5 : 1 ≤ k := by have := HHK.out; omega
            have HP5 := Lib.hid hpo5
            have HB5 := Lib.hid hbl5
            clear hpo5 hbl5 hg1 hg2 h0
            go_roundg (dl + 1)
            case measure => omega
            case rel =>
              refine ⟨td, g, ps ++ [ptAt ps.length tk], HUD.out, HP5.out, Lib.hid ?_, HG2, ?_, HB5.out, ?_⟩
              · rw [← HPS.out, HR2.out, List.length_append, List.length_singleton, List.append_assoc]; rfl
              · rw [List.length_append, List.length_singleton]; omega
              · omega
        · have hpi : (ps.length : Int).tmod 2 = 1 := by
            have h : (ps.length : Int) % 2 = 1 := by omega
            rw [Int.tmod_eq_emod_of_nonneg (by omega)]; exact h
          go_wp2_with (first | (refine wpList_min_by rfl (.tmp 17) (.tmp 19) 3 3 rfl 65535 t.length k rfl rfl HHK.out ?_) | (refine wpList_slice_by rfl 43 (.tmp 21) none (some (.tmp 22)) (some (.tmp 23)) rfl up (HUP.out _) ?_) | (refine wpList_slice_by rfl 43 (.tmp 42) (some (.tmp 43)) none none rfl _ (HUDR.out _) ?_) | (refine wpList_conv_by rfl 43 9 (.tmp 36) rfl _ HCV.out ?_) | (go_at_call 20; refine (HOPS.out tk HTK.out wr).mono ?_; rintro e w2 ⟨vo, rfl, ho2, hb2⟩; obtain ⟨oo, co, bo, fo, hvo, hdo, -⟩ := ho2.sl; obtain ⟨nn, hnn⟩ : ∃ nn, nn = ((opsOf (bys ⟨tk.toArray⟩)).map opV).length := ⟨_, rfl⟩; rw [← hnn] at hvo; clear hnn; subst hvo; have HO2 := Lib.hid ho2; have HB2 := Lib.hid hb2; clear ho2 hb2 hdo) | (at_builtin; go_loud (refine wpList_appL 5 rfl (.tmp 35) (.tmp 40) 28 rfl w1.heap.size 41 (.agg #[.int .i64 0, .string ⟨#[]⟩, .slice none 0 0, .slice none 0 0, .slice none 0 0]) 96 Try.underlying28 (by kernel_rfl) rfl (by decide) (by decide) (.slice ol ps.length cl) cs rfl ((HCS1.out.up HB2.out).up (below_alloc w2 _)) _ _ rfl (part_lit _ _ 1 ⟨#[]⟩ oo nn co) (part_len 1 ⟨#[]⟩ oo nn co) (part_one 1 ⟨#[]⟩ oo nn co) HLC.out (Nat.le_trans hsz (Nat.le_trans HB2.out.size (below_alloc w2 _).size)) ?_); intro v' w5 hown1 hg1 hk1; have HO5 := Lib.hid hown1; have HG5 := Lib.hid hg1; have HK5 := Lib.hid hk1; clear hown1 hg1 hk1))
          · rename_i h0
            have hd0 : td = [] := by
              have h : (dl : Int) = 0 := by simpa using h0
              have := HDL.out
              exact List.length_eq_zero_iff.1 (by omega)
            have hpo5 := parts_step hcs2 (fun i hi => (HCS3.out i hi).keep (grown_below HB2.out _) (fun q e => .inl e)) (pt_odd hpar (HO2.out.mono hsz) (fun q e e2 => by have h1 := (HO2.out.lt q e).1; have h2 := (HCS1.out.lt q e2).2; omega)) HO5.out (below_alloc w2 _) HG5.out HK5.out
            have hbl5 := ((HBL.out.trans (HB2.out.mono hsz)).alloc (Nat.le_trans hsz HB2.out.size) (.cells #[.int .i64 1, .string ⟨#[]⟩, .slice oo nn co, .slice none 0 0, .slice none 0 0] 41)).grown HG5.out (Nat.le_trans hsz (Nat.le_trans HB2.out.size (below_alloc w2 _).size)) (fun q e => (HCS1.out.lt q e).1)
            have hR2 : R = ps ++ [ptAt ps.length tk] := by rw [← HPS.out, HG.out.1 hd0]
            go_ret
            rw [hR2]
            exact ⟨_, rfl, hpo5.mono HB1.out.size, HB1.out.trans (hbl5.mono HB1.out.size)⟩
          · rename_i h0
            have hd0 : td ≠ [] := by
              intro e
              have := HDL.out
              rw [e] at this
              simp at this
              simp [this] at h0
            have hpo5 := parts_step hcs2 (fun i hi => (HCS3.out i hi).keep (grown_below HB2.out _) (fun q e => .inl e)) (pt_odd hpar (HO2.out.mono hsz) (fun q e e2 => by have h1 := (HO2.out.lt q e).1; have h2 := (HCS1.out.lt q e2).2; omega)) HO5.out (below_alloc w2 _) HG5.out HK5.out
            have hbl5 := ((HBL.out.trans (HB2.out.mono hsz)).alloc (Nat.le_trans hsz HB2.out.size) (.cells #[.int .i64 1, .string ⟨#[]⟩, .slice oo nn co, .slice none 0 0, .slice none 0 0] 41)).grown HG5.out (Nat.le_trans hsz (Nat.le_trans HB2.out.size (below_alloc w2 _).size)) (fun q e => (HCS1.out.lt q e).1)
            obtain ⟨g, hg1, hg2⟩ := HG.out.2 hd0
            have HR2 := Lib.hid hg1
            have HG2 := Lib.hid hg2
            have hc1 := HDE.out
            have hc2 := HLE.out
            have hc3 : dl ≠ 0 := fun e => hd0 (List.length_eq_zero_iff.1 (by rw [← HDL.out]; exact e))
            have hc4 := HDL.out
            have hc5 : 1 ≤ k := by have := HHK.out; omega
            have HP5 := Lib.hid hpo5
            have HB5 := Lib.hid hbl5
            clear hpo5 hbl5 hg1 hg2 h0
            go_roundg (dl + 1)
            case measure => omega
            case rel =>
              refine ⟨td, g, ps ++ [ptAt ps.length tk], HUD.out, HP5.out, Lib.hid ?_, HG2, ?_, HB5.out, ?_⟩
              · rw [← HPS.out, HR2.out, List.length_append, List.length_singleton, List.append_assoc]; rfl
              · rw [List.length_append, List.length_singleton]; omega
              · omega
    · subst hn
      go_enter Try.func24, Try.ntmps24
      go_wp2_with (refine wpList_bytes_of rfl 9 43 5 _ rfl Try.underlying9 Try.underlying43 Try.underlying5 s rfl (by omega) ?_; intro v1 w1 hv1 hb1; have HV1 := Lib.hid hv1; have HB1 := Lib.hid hb1; clear hv1 hb1)
      go_loopg [5, 6] (s.size + 1) (fun gk lv bv wr => ∃ (t : Byts) (f : Nat) (ps : List PtN), Sl w1 bv (bytesV t) ∧ PartsOwn wr w1.heap.size 41 lv ps ∧ Hid (ps ++ splitFr m f ps.length t = R) ∧ Hid (t.length < f) ∧ ps.length + t.length ≤ s.size ∧ Below w1.heap.size w1 wr ∧ gk = t.length + 1)
      case atStart => exact ⟨bys s, (bys s).length + 1, [], HV1.out, PartsOwn.nil _ _ _, Lib.hid (by rw [HR.out]; rfl), Lib.hid (by omega), by rw [HL.out]; simp, Below.refl _ _, by rw [HL.out]⟩
      case round =>
        clear HV1
        obtain ⟨t, f, ps, hbv, hpo, HPS, HF, hle, hbl, rfl⟩ := hrel
        obtain ⟨ob, cb, bb, fb, hv6, hd6, -⟩ := id hbv
        rw [bytesV_length] at hv6 hd6
        have HBL := Lib.hid hbl
        have hsz := hbl.size
        have hl6 := hd6.len
        obtain ⟨k, hk⟩ : ∃ k, k = min m t.length := ⟨_, rfl⟩
        have hkl : k ≤ t.length := by omega
        obtain ⟨up, hup, hupS⟩ := hbv.lowm (P := Try.prog) 43 5 Try.underlying43 (by kernel_rfl) k (by rw [bytesV_length]; exact hkl)
        obtain ⟨ud, hud, hudS⟩ := hbv.high (P := Try.prog) 43 5 Try.underlying43 (by kernel_rfl) k (by rw [bytesV_length]; exact hkl)
        rw [bytesV_take] at hupS
        rw [bytesV_drop] at hudS
        have hcv := run_bytes_string (P := Try.prog) wr 43 9 5 Try.underlying43 Try.underlying5 Try.underlying9 up (t.take k) (hupS.up hbl)
        obtain ⟨od, cd, bd, fd, hvd, hdd, -⟩ := id hudS
        rw [bytesV_length] at hvd hdd
        have HUD := Lib.hid hudS
        have hdl : (t.drop k).length = t.length - k := List.length_drop ..
        have HGP := HGO.out f ps.length t HF.out
        rw [← hk] at HGP
        have HG := Lib.hid HGP
        obtain ⟨cs, hcs1, hcs2, hcs3⟩ := hpo
        obtain ⟨ol, cl, bL, fL, hvl, hdL, -⟩ := hcs1.sl
        rw [hcs2] at hvl hdL
        have HCS1 := Lib.hid hcs1
        have HCS3 := Lib.hid hcs3
        have HTK : Hid ((t.take k).length ≤ 100000) := Lib.hid (by rw [List.length_take]; omega)
        have HLC : Hid (cs.length + 1 ≤ 1000000000) := Lib.hid (by omega)
        have HUP := Lib.hid hup
        have HUDR := Lib.hid hud
        have HCV := Lib.hid hcv
        have HHK := Lib.hid hk
        have HLE := Lib.hid hle
        clear hup hud hcv hbv hbl hupS hudS HGP hcs1 hcs3 hk hd6 hdd hdL hle
        subst hvd
        subst hvl
        subst hv6
        obtain ⟨td, htd⟩ : ∃ td, td = t.drop k := ⟨_, rfl⟩
        obtain ⟨tk, htk⟩ : ∃ tk, tk = t.take k := ⟨_, rfl⟩
        rw [← htd] at hdl HG HUD HUDR
        rw [← htk] at HG HTK HCV
        clear htd htk
        obtain ⟨dl, hdl2⟩ : ∃ dl, dl = td.length := ⟨_, rfl⟩
        have HDL := Lib.hid hdl2
        rw [← hdl2] at hdl HUD HUDR
        have HDE := Lib.hid hdl
        clear hdl2 hdl
        by_cases hpar : ps.length % 2 = 0
        · have hpi : (ps.length : Int).tmod 2 = 0 := by
            have h : (ps.length : Int) % 2 = 0 := by omega
            rw [Int.tmod_eq_emod_of_nonneg (by omega)]; exact h
          go_wp2_with (first | (refine wpList_min_by rfl (.tmp 17) (.tmp 19) 3 3 rfl m t.length k rfl rfl HHK.out ?_) | (refine wpList_slice_by rfl 43 (.tmp 21) none (some (.tmp 22)) (some (.tmp 23)) rfl up (HUP.out _) ?_) | (refine wpList_slice_by rfl 43 (.tmp 42) (some (.tmp 43)) none none rfl _ (HUDR.out _) ?_) | (refine wpList_conv_by rfl 43 9 (.tmp 30) rfl _ HCV.out ?_) | (at_builtin; go_loud (refine wpList_appL 5 rfl (.tmp 29) (.tmp 33) 28 rfl w1.heap.size 41 (.agg #[.int .i64 0, .string ⟨#[]⟩, .slice none 0 0, .slice none 0 0, .slice none 0 0]) 96 Try.underlying28 (by kernel_rfl) rfl (by decide) (by decide) (.slice ol ps.length cl) cs rfl (HCS1.out.up (below_alloc wr _)) _ _ rfl (part_lit _ _ 0 ⟨tk.toArray⟩ none 0 0) (part_len 0 ⟨tk.toArray⟩ none 0 0) (part_one 0 ⟨tk.toArray⟩ none 0 0) HLC.out (Nat.le_trans hsz (below_alloc wr _).size) ?_); intro v' w5 hown1 hg1 hk1; have HO5 := Lib.hid hown1; have HG5 := Lib.hid hg1; have HK5 := Lib.hid hk1; clear hown1 hg1 hk1))
          · rename_i h0
            have hd0 : td = [] := by
              have h : (dl : Int) = 0 := by simpa using h0
              have := HDL.out
              exact List.length_eq_zero_iff.1 (by omega)
            have hpo5 := parts_step hcs2 HCS3.out (pt_even hpar tk wr _ _) HO5.out (below_alloc wr _) HG5.out HK5.out
            have hbl5 := (HBL.out.alloc hsz (.cells #[.int .i64 0, .string ⟨tk.toArray⟩, .slice none 0 0, .slice none 0 0, .slice none 0 0] 41)).grown HG5.out (Nat.le_trans hsz (below_alloc wr _).size) (fun q e => (HCS1.out.lt q e).1)
            have hR2 : R = ps ++ [ptAt ps.length tk] := by rw [← HPS.out, HG.out.1 hd0]
            go_ret
            rw [hR2]
            exact ⟨_, rfl, hpo5.mono HB1.out.size, HB1.out.trans (hbl5.mono HB1.out.size)⟩
          · rename_i h0
            have hd0 : td ≠ [] := by
              intro e
              have := HDL.out
              rw [e] at this
              simp at this
              simp [this] at h0
            have hpo5 := parts_step hcs2 HCS3.out (pt_even hpar tk wr _ _) HO5.out (below_alloc wr _) HG5.out HK5.out
            have hbl5 := (HBL.out.alloc hsz (.cells #[.int .i64 0, .string ⟨tk.toArray⟩, .slice none 0 0, .slice none 0 0, .slice none 0 0] 41)).grown HG5.out (Nat.le_trans hsz (below_alloc wr _).size) (fun q e => (HCS1.out.lt q e).1)
            obtain ⟨g, hg1, hg2⟩ := HG.out.2 hd0
            have HR2 := Lib.hid hg1
            have HG2 := Lib.hid hg2
            have hc1 := HDE.out
            have hc2 := HLE.out
            have hc3 : dl ≠ 0 := fun e => hd0 (List.length_eq_zero_iff.1 (by rw [← HDL.out]; exact e))
            have hc4 := HDL.out
            have hc5 : 1 ≤ k := by have := HHK.out; omega
            have HP5 := Lib.hid hpo5
            have HB5 := Lib.hid hbl5
            clear hpo5 hbl5 hg1 hg2 h0
            go_roundg (dl + 1)
            case measure => omega
            case rel =>
              refine ⟨td, g, ps ++ [ptAt ps.length tk], HUD.out, HP5.out, Lib.hid ?_, HG2, ?_, HB5.out, ?_⟩
              · rw [← HPS.out, HR2.out, List.length_append, List.length_singleton, List.append_assoc]; rfl
              · rw [List.length_append, List.length_singleton]; omega
              · omega
        · have hpi : (ps.length : Int).tmod 2 = 1 := by
            have h : (ps.length : Int) % 2 = 1 := by omega
            rw [Int.tmod_eq_emod_of_nonneg (by omega)]; exact h
          go_wp2_with (first | (refine wpList_min_by rfl (.tmp 17) (.tmp 19) 3 3 rfl m t.length k rfl rfl HHK.out ?_) | (refine wpList_slice_by rfl 43 (.tmp 21) none (some (.tmp 22)) (some (.tmp 23)) rfl up (HUP.out _) ?_) | (refine wpList_slice_by rfl 43 (.tmp 42) (some (.tmp 43)) none none rfl _ (HUDR.out _) ?_) | (refine wpList_conv_by rfl 43 9 (.tmp 36) rfl _ HCV.out ?_) | (go_at_call 20; refine (HOPS.out tk HTK.out wr).mono ?_; rintro e w2 ⟨vo, rfl, ho2, hb2⟩; obtain ⟨oo, co, bo, fo, hvo, hdo, -⟩ := ho2.sl; obtain ⟨nn, hnn⟩ : ∃ nn, nn = ((opsOf (bys ⟨tk.toArray⟩)).map opV).length := ⟨_, rfl⟩; rw [← hnn] at hvo; clear hnn; subst hvo; have HO2 := Lib.hid ho2; have HB2 := Lib.hid hb2; clear ho2 hb2 hdo) | (at_builtin; go_loud (refine wpList_appL 5 rfl (.tmp 35) (.tmp 40) 28 rfl w1.heap.size 41 (.agg #[.int .i64 0, .string ⟨#[]⟩, .slice none 0 0, .slice none 0 0, .slice none 0 0]) 96 Try.underlying28 (by kernel_rfl) rfl (by decide) (by decide) (.slice ol ps.length cl) cs rfl ((HCS1.out.up HB2.out).up (below_alloc w2 _)) _ _ rfl (part_lit _ _ 1 ⟨#[]⟩ oo nn co) (part_len 1 ⟨#[]⟩ oo nn co) (part_one 1 ⟨#[]⟩ oo nn co) HLC.out (Nat.le_trans hsz (Nat.le_trans HB2.out.size (below_alloc w2 _).size)) ?_); intro v' w5 hown1 hg1 hk1; have HO5 := Lib.hid hown1; have HG5 := Lib.hid hg1; have HK5 := Lib.hid hk1; clear hown1 hg1 hk1))
          · rename_i h0
            have hd0 : td = [] := by
              have h : (dl : Int) = 0 := by simpa using h0
              have := HDL.out
              exact List.length_eq_zero_iff.1 (by omega)
            have hpo5 := parts_step hcs2 (fun i hi => (HCS3.out i hi).keep (grown_below HB2.out _) (fun q e => .inl e)) (pt_odd hpar (HO2.out.mono hsz) (fun q e e2 => by have h1 := (HO2.out.lt q e).1; have h2 := (HCS1.out.lt q e2).2; omega)) HO5.out (below_alloc w2 _) HG5.out HK5.out
            have hbl5 := ((HBL.out.trans (HB2.out.mono hsz)).alloc (Nat.le_trans hsz HB2.out.size) (.cells #[.int .i64 1, .string ⟨#[]⟩, .slice oo nn co, .slice none 0 0, .slice none 0 0] 41)).grown HG5.out (Nat.le_trans hsz (Nat.le_trans HB2.out.size (below_alloc w2 _).size)) (fun q e => (HCS1.out.lt q e).1)
            have hR2 : R = ps ++ [ptAt ps.length tk] := by rw [← HPS.out, HG.out.1 hd0]
            go_ret
            rw [hR2]
            exact ⟨_, rfl, hpo5.mono HB1.out.size, HB1.out.trans (hbl5.mono HB1.out.size)⟩
          · rename_i h0
            have hd0 : td ≠ [] := by
              intro e
              have := HDL.out
              rw [e] at this
              simp at this
              simp [this] at h0
            have hpo5 := parts_step hcs2 (fun i hi => (HCS3.out i hi).keep (grown_below HB2.out _) (fun q e => .inl e)) (pt_odd hpar (HO2.out.mono hsz) (fun q e e2 => by have h1 := (HO2.out.lt q e).1; have h2 := (HCS1.out.lt q e2).2; omega)) HO5.out (below_alloc w2 _) HG5.out HK5.out
            have hbl5 := ((HBL.out.trans (HB2.out.mono hsz)).alloc (Nat.le_trans hsz HB2.out.size) (.cells #[.int .i64 1, .string ⟨#[]⟩, .slice oo nn co, .slice none 0 0, .slice none 0 0] 41)).grown HG5.out (Nat.le_trans hsz (Nat.le_trans HB2.out.size (below_alloc w2 _).size)) (fun q e => (HCS1.out.lt q e).1)
            obtain ⟨g, hg1, hg2⟩ := HG.out.2 hd0
            have HR2 := Lib.hid hg1
            have HG2 := Lib.hid hg2
            have hc1 := HDE.out
            have hc2 := HLE.out
            have hc3 : dl ≠ 0 := fun e => hd0 (List.length_eq_zero_iff.1 (by rw [← HDL.out]; exact e))
            have hc4 := HDL.out
            have hc5 : 1 ≤ k := by have := HHK.out; omega
            have HP5 := Lib.hid hpo5
            have HB5 := Lib.hid hbl5
            clear hpo5 hbl5 hg1 hg2 h0
            go_roundg (dl + 1)
            case measure => omega
            case rel =>
              refine ⟨td, g, ps ++ [ptAt ps.length tk], HUD.out, HP5.out, Lib.hid ?_, HG2, ?_, HB5.out, ?_⟩
              · rw [← HPS.out, HR2.out, List.length_append, List.length_singleton, List.append_assoc]; rfl
              · rw [List.length_append, List.length_singleton]; omega
              · omega
  exact fin w
end Go.Cm

/- The walks of a symbol's writing, where the lengths lie beside the writer. Conditions: the lengths stay while the writer writes. -/
namespace Go.Cm
open Go.RowKit Go.Proofs

set_option maxRecDepth 100000 in
set_option maxHeartbeats 1000000 in
theorem writeVF {w : World} {B g N L : Nat} {vb : Value} (v : Value) (l : List Int) (n : Int) (h0 : IntsAt w v l) (hst : ∀ W vb', Fr g vb vb' w W → IntsAt W v l) (h : WrtV w B g N L vb) (hL : L ≤ 2147483648 - 32) :
    Calls Try.prog 98 #[.pointer (some ⟨g, 0, none⟩), v, .int .i64 n] w (RetV WrtV l n B g N L vb w) := by
  have HP := Lib.hid (putV h 0 0 (by decide) (by decide) (by omega))
  rw [Nat.zero_mul, Nat.add_zero, Nat.add_zero] at HP
  have hBw : B ≤ w.heap.size := by have := h.ge; have := h.box.lt; omega
  have HCO : Hid (∀ w' vb', Fr g vb vb' w w' → Calls Try.prog 112 #[v] w' (RetCodes l w')) := Lib.hid (fun w' vb' hf => codesP v l w' (hst w' vb' hf))
  obtain ⟨oa, cap, b, off, rfl, hd, hc⟩ := h0.open
  have hix := index_any (P := Try.prog) 39 3 Try.underlying39 (by kernel_rfl) hd
  have hm := hd.len
  have hbk := hd.hblk
  have HCW : Hid (∀ W vb', Fr g vb vb' w W → ∀ i, i < l.length → W.cell? ⟨b, off + i, none⟩ = w.cell? ⟨b, off + i, none⟩ ∧ b < W.heap.size) := Lib.hid (fun W vb' hf i hi => by
    obtain ⟨oa', cap', b', off', hv', hd', hc'⟩ := (hst W vb' hf).open
    injection hv' with e1 e2 e3
    have h1 := hd.hat (by omega)
    have h2 := hd'.hat (by omega)
    rw [← e1, h1] at h2
    injection h2 with h2
    injection h2 with h3 h4 h5
    subst h3 h4
    exact ⟨by rw [hc' i hi, hc i hi], hd'.hblk (by omega)⟩)
  have HC := Lib.hid hc
  clear hc h0 hst h hd
  unfold RetCodes at HCO
  by_cases he : errI l = 0
  · rw [he] at HCO
    by_cases hn : 0 ≤ n ∧ n < l.length ∧ l.getD n.toNat 0 ≠ 0
    · have hE := errW_ok he hn
      obtain ⟨h1, h2, h3⟩ := hn
      obtain ⟨i, rfl⟩ : ∃ i : Nat, n = (i : Int) := ⟨n.toNat, by omega⟩
      rw [Int.toNat_natCast] at h3
      obtain ⟨M, rfl, hlen, h15, hk⟩ := errI_zero he
      have hi : i < M.length := by rw [nls_length] at h2; omega
      have hn1 : ¬ (i : Int) < 0 := by omega
      have hcell := HC.out i (by omega)
      have HCI := Lib.hid (fun W vb' hf => HCW.out W vb' hf i (by omega))
      clear HCW
      rw [nls_getD] at hcell h3
      have hx15 := h15 _ (getD_mem M i 0 hi)
      have hcl := code_lt h15 hk i hi
      unfold RetV numW
      rw [hE, if_pos (by trivial), nls_toNat, Int.toNat_natCast, nls_getD, Int.toNat_natCast]
      rw [nls_toNat, if_pos rfl] at HCO
      have HCL := Lib.hid hcl
      have hcg := codesN_getD M i hi
      have hcle := codesN_length M
      clear hE he h15 hk hcl HC
      rw [nls_length] at *
      generalize M.getD i 0 = x at *
      generalize codeN M i = c at *
      have hx0 : ((x : Int) == 0) = false := by simpa using h3
      have hx00 : ¬ (x : Int) = 0 := h3
      have hn2 : ¬ (i : Int) ≥ (M.length : Int) := by omega
      have hb : b < w.heap.size := hbk (by omega)
      go_enter Try.func98, Try.ntmps98
      go_wp2_with (first | (go_at_call 65; refine HP.out.mono ?_; rintro e w1 ⟨rfl, vb1, hq1, hq2, hf1⟩; have HQ1 := Lib.hid hq1; have HQ2 := Lib.hid hq2; have HF1 := Lib.hid hf1; clear hq1 hq2 hf1) | (go_at_call 112; refine (HCO.out _ _ HF1.out).mono ?_; rintro e w2 ⟨vc, rfl, hq3, hq4⟩; have HQ3 := Lib.hid hq3; have HQ4 := Lib.hid hq4; have hcell2 := (HCI.out _ _ (HF1.out.below HQ4.out)).1.trans hcell; clear hq3 hq4; have hb2 : b < w2.heap.size := (HCI.out _ _ (HF1.out.below HQ4.out)).2))
      have hicd := HQ3.out.sl
      obtain ⟨oc, cc, bc, fc, rfl, hdc, hcc⟩ := (show IntsAt w2 vc (nls (codesN M)) from hicd).open
      rw [nls_length, hcle] at hdc hcc
      have hcc2 := hcc i hi
      rw [nls_getD, hcg] at hcc2
      have hixc := index_any (P := Try.prog) 39 3 Try.underlying39 (by kernel_rfl) hdc
      have hbc := hdc.hblk (by omega)
      have HCO2 : Hid (Calls Try.prog 94 #[.pointer (some ⟨g, 0, none⟩), .int .i64 c, .int .i64 x] w2.drew fun e w' => e = .returned (.int .i64 0) ∧ ∃ vb2, WrtV w' B g (N + turnN c x * 2 ^ L) (L + x) vb2 ∧ Below B w2.drew w' ∧ Fr g vb1 vb2 w2.drew w') := Lib.hid (by
        exact codeV (HQ1.out.up (b_drew1 HQ4.out)) c x HCL.out (by omega) (by omega))
      have HB2 : Hid (Below B w w2.drew) := Lib.hid (b_drew1 (HQ2.out.trans (HQ4.out.mono (Nat.le_trans hBw HQ2.out.size))))
      clear hcc hicd hdc hcg hcle
      rw [show (nls (codesN M)).length = M.length by rw [nls_length, codesN_length]]
      refine wp_region_tailg [0,1,2,3,4,5,6,7,8] [] [9,10] (by kernel_rfl) (by kernel_rfl) ?_
      simp only [pick, List.map_cons, List.map_nil, List.getD_cons_zero, List.getD_cons_succ]
      repeat (go_big_quiet_step (fail))
      refine wpQuiet_nil ?_
      unfold wpAct
      unfold wpAct
      go_wp2_with (go_at_call 94; refine HCO2.out.mono ?_; rintro e w3 ⟨rfl, vb2, hq5, hq6, hf6⟩; have HQ5 := Lib.hid hq5; have HQ6 := Lib.hid hq6; have HF6 := Lib.hid hf6; clear hq5 hq6 hf6)
      refine ⟨trivial, ?_⟩
      unfold wpAct
      go_wp2
      refine ⟨trivial, ?_⟩
      unfold wpAct
      go_wp2
      go_ret
      exact ⟨rfl, vb2, HQ5.out, HB2.out.trans HQ6.out, (HF1.out.below (b_drew1 HQ4.out)).trans HF6.out⟩
    · have hE := errW_arg he hn
      have hE0 : errW l n ≠ 0 := by omega
      unfold RetV
      rw [numW_bad hE0, hE]
      clear hE hE0 he
      by_cases h1 : n < 0
      · go_enter Try.func98, Try.ntmps98
        go_wp2_with (first | (go_at_call 65; refine HP.out.mono ?_; rintro e w1 ⟨rfl, vb1, hq1, hq2, hf1⟩; have HQ1 := Lib.hid hq1; have HQ2 := Lib.hid hq2; have HF1 := Lib.hid hf1; clear hq1 hq2 hf1) | (go_at_call 112; refine (HCO.out _ _ HF1.out).mono ?_; rintro e w2 ⟨vc, rfl, hq3, hq4⟩; have HQ4 := Lib.hid hq4; clear hq3 hq4))
        go_ret
        exact ⟨rfl, vb1, HQ1.out.up HQ4.out, HQ2.out.trans (HQ4.out.mono (Nat.le_trans hBw HQ2.out.size)), HF1.out.below HQ4.out⟩
      · by_cases h2 : n ≥ (l.length : Int)
        · go_enter Try.func98, Try.ntmps98
          go_wp2_with (first | (go_at_call 65; refine HP.out.mono ?_; rintro e w1 ⟨rfl, vb1, hq1, hq2, hf1⟩; have HQ1 := Lib.hid hq1; have HQ2 := Lib.hid hq2; have HF1 := Lib.hid hf1; clear hq1 hq2 hf1) | (go_at_call 112; refine (HCO.out _ _ HF1.out).mono ?_; rintro e w2 ⟨vc, rfl, hq3, hq4⟩; have HQ4 := Lib.hid hq4; clear hq3 hq4))
          go_ret
          exact ⟨rfl, vb1, HQ1.out.up HQ4.out, HQ2.out.trans (HQ4.out.mono (Nat.le_trans hBw HQ2.out.size)), HF1.out.below HQ4.out⟩
        · obtain ⟨i, rfl⟩ : ∃ i : Nat, n = (i : Int) := ⟨n.toNat, by omega⟩
          have hi : i < l.length := by omega
          have hcell := HC.out i hi
          have HCI := Lib.hid (fun W vb' hf => HCW.out W vb' hf i hi)
          clear HCW
          have hb : b < w.heap.size := hbk (by omega)
          have hx : l.getD i 0 = 0 := by
            apply Classical.byContradiction; intro hx
            exact hn ⟨by omega, by omega, hx⟩
          rw [hx] at hcell
          have hx0 : ((0 : Int) == 0) = true := rfl
          clear hn
          go_enter Try.func98, Try.ntmps98
          go_wp2_with (first | (go_at_call 65; refine HP.out.mono ?_; rintro e w1 ⟨rfl, vb1, hq1, hq2, hf1⟩; have HQ1 := Lib.hid hq1; have HQ2 := Lib.hid hq2; have HF1 := Lib.hid hf1; clear hq1 hq2 hf1) | (go_at_call 112; refine (HCO.out _ _ HF1.out).mono ?_; rintro e w2 ⟨vc, rfl, hq3, hq4⟩; have HQ4 := Lib.hid hq4; have hcell2 := (HCI.out _ _ (HF1.out.below HQ4.out)).1.trans hcell; clear hq3 hq4; have hb2 : b < w2.heap.size := (HCI.out _ _ (HF1.out.below HQ4.out)).2))
          go_ret
          exact ⟨rfl, vb1, HQ1.out.up HQ4.out, HQ2.out.trans (HQ4.out.mono (Nat.le_trans hBw HQ2.out.size)), HF1.out.below HQ4.out⟩
  · have hE := errW_codes (n := n) he
    have hE0 : errW l n ≠ 0 := by omega
    have hne : ¬ (errI l : Int) = 0 := by omega
    unfold RetV
    rw [numW_bad hE0, hE]
    clear hE hE0
    generalize errI l = q at *
    go_enter Try.func98, Try.ntmps98
    go_wp2_with (first | (go_at_call 65; refine HP.out.mono ?_; rintro e w1 ⟨rfl, vb1, hq1, hq2, hf1⟩; have HQ1 := Lib.hid hq1; have HQ2 := Lib.hid hq2; have HF1 := Lib.hid hf1; clear hq1 hq2 hf1) | (go_at_call 112; refine (HCO.out _ _ HF1.out).mono ?_; rintro e w2 ⟨vc, rfl, hq3, hq4⟩; have HQ4 := Lib.hid hq4; clear hq3 hq4))
    go_ret
    exact ⟨rfl, vb1, HQ1.out.up HQ4.out, HQ2.out.trans (HQ4.out.mono (Nat.le_trans hBw HQ2.out.size)), HF1.out.below HQ4.out⟩
set_option maxRecDepth 100000 in
set_option maxHeartbeats 1000000 in
theorem writeRVF {w : World} {B g N L : Nat} {vb : Value} (v : Value) (l : List Int) (n : Int) (h0 : IntsAt w v l) (hst : ∀ W vb', Fr g vb vb' w W → IntsAt W v l) (h : WrtRV w B g N L vb) (hL : L ≤ 2147483648 - 32) :
    Calls Try.prog 52 #[.pointer (some ⟨g, 0, none⟩), v, .int .i64 n] w (RetV WrtRV l n B g N L vb w) := by
  have HQ1 := Lib.hid h
  have HF1 := Lib.hid (Fr.refl g vb w)
  obtain ⟨vb1, hvb1⟩ : ∃ vb1, vb1 = vb := ⟨_, rfl⟩
  rw [show Fr g vb vb w w = Fr g vb vb1 w w by rw [hvb1]] at HF1
  rw [← hvb1] at HQ1
  clear hvb1
  have HQ2 : Hid (Below B w w) := Lib.hid (Below.refl _ _)
  have hBw : B ≤ w.heap.size := by have := h.ge; have := h.box.blk.2; omega
  have HCO : Hid (∀ w' vb', Fr g vb vb' w w' → Calls Try.prog 82 #[v] w' (RetCodes l w')) := Lib.hid (fun w' vb' hf => codesR v l w' (hst w' vb' hf))
  obtain ⟨oa, cap, b, off, rfl, hd, hc⟩ := h0.open
  have hix := index_any (P := Try.prog) 39 3 Try.underlying39 (by kernel_rfl) hd
  have hm := hd.len
  have hbk := hd.hblk
  have HCW : Hid (∀ W vb', Fr g vb vb' w W → ∀ i, i < l.length → W.cell? ⟨b, off + i, none⟩ = w.cell? ⟨b, off + i, none⟩ ∧ b < W.heap.size) := Lib.hid (fun W vb' hf i hi => by
    obtain ⟨oa', cap', b', off', hv', hd', hc'⟩ := (hst W vb' hf).open
    injection hv' with e1 e2 e3
    have h1 := hd.hat (by omega)
    have h2 := hd'.hat (by omega)
    rw [← e1, h1] at h2
    injection h2 with h2
    injection h2 with h3 h4 h5
    subst h3 h4
    exact ⟨by rw [hc' i hi, hc i hi], hd'.hblk (by omega)⟩)
  have HC := Lib.hid hc
  clear hc h0 hst h hd
  unfold RetCodes at HCO
  by_cases he : errI l = 0
  · rw [he] at HCO
    by_cases hn : 0 ≤ n ∧ n < l.length ∧ l.getD n.toNat 0 ≠ 0
    · have hE := errW_ok he hn
      obtain ⟨h1, h2, h3⟩ := hn
      obtain ⟨i, rfl⟩ : ∃ i : Nat, n = (i : Int) := ⟨n.toNat, by omega⟩
      rw [Int.toNat_natCast] at h3
      obtain ⟨M, rfl, hlen, h15, hk⟩ := errI_zero he
      have hi : i < M.length := by rw [nls_length] at h2; omega
      have hn1 : ¬ (i : Int) < 0 := by omega
      have hcell := HC.out i (by omega)
      have HCI := Lib.hid (fun W vb' hf => HCW.out W vb' hf i (by omega))
      clear HCW
      rw [nls_getD] at hcell h3
      have hx15 := h15 _ (getD_mem M i 0 hi)
      have hcl := code_lt h15 hk i hi
      unfold RetV numW
      rw [hE, if_pos (by trivial), nls_toNat, Int.toNat_natCast, nls_getD, Int.toNat_natCast]
      rw [nls_toNat, if_pos rfl] at HCO
      have HCL := Lib.hid hcl
      have hcg := codesN_getD M i hi
      have hcle := codesN_length M
      clear hE he h15 hk hcl HC
      rw [nls_length] at *
      generalize M.getD i 0 = x at *
      generalize codeN M i = c at *
      have hx0 : ((x : Int) == 0) = false := by simpa using h3
      have hx00 : ¬ (x : Int) = 0 := h3
      have hn2 : ¬ (i : Int) ≥ (M.length : Int) := by omega
      have hb : b < w.heap.size := hbk (by omega)
      go_enter Try.func52, Try.ntmps52
      go_wp2_with (first | (go_at_call 82; refine (HCO.out _ _ HF1.out).mono ?_; rintro e w2 ⟨vc, rfl, hq3, hq4⟩; have HQ3 := Lib.hid hq3; have HQ4 := Lib.hid hq4; have hcell2 := (HCI.out _ _ (HF1.out.below HQ4.out)).1.trans hcell; clear hq3 hq4; have hb2 : b < w2.heap.size := (HCI.out _ _ (HF1.out.below HQ4.out)).2))
      have hicd := HQ3.out.sl
      obtain ⟨oc, cc, bc, fc, rfl, hdc, hcc⟩ := (show IntsAt w2 vc (nls (codesN M)) from hicd).open
      rw [nls_length, hcle] at hdc hcc
      have hcc2 := hcc i hi
      rw [nls_getD, hcg] at hcc2
      have hixc := index_any (P := Try.prog) 39 3 Try.underlying39 (by kernel_rfl) hdc
      have hbc := hdc.hblk (by omega)
      have HCO2 : Hid (Calls Try.prog 78 #[.pointer (some ⟨g, 0, none⟩), .int .i64 c, .int .i64 x] w2.drew fun e w' => e = .returned (.int .i64 0) ∧ ∃ vb2, WrtRV w' B g (N + turnN c x * 2 ^ L) (L + x) vb2 ∧ Below B w2.drew w' ∧ Fr g vb1 vb2 w2.drew w') := Lib.hid (by
        exact codeRV (HQ1.out.up (b_drew1 HQ4.out)) c x HCL.out (by omega) (by omega))
      have HB2 : Hid (Below B w w2.drew) := Lib.hid (b_drew1 (HQ2.out.trans (HQ4.out.mono (Nat.le_trans hBw HQ2.out.size))))
      clear hcc hicd hdc hcg hcle
      rw [show (nls (codesN M)).length = M.length by rw [nls_length, codesN_length]]
      refine wp_region_tailg [0,1,2,3,4,5,6,7,8] [] [9,10] (by kernel_rfl) (by kernel_rfl) ?_
      simp only [pick, List.map_cons, List.map_nil, List.getD_cons_zero, List.getD_cons_succ]
      repeat (go_big_quiet_step (fail))
      refine wpQuiet_nil ?_
      unfold wpAct
      unfold wpAct
      go_wp2_with (go_at_call 78; refine HCO2.out.mono ?_; rintro e w3 ⟨rfl, vb2, hq5, hq6, hf6⟩; have HQ5 := Lib.hid hq5; have HQ6 := Lib.hid hq6; have HF6 := Lib.hid hf6; clear hq5 hq6 hf6)
      refine ⟨trivial, ?_⟩
      unfold wpAct
      go_wp2
      refine ⟨trivial, ?_⟩
      unfold wpAct
      go_wp2
      go_ret
      exact ⟨rfl, vb2, HQ5.out, HB2.out.trans HQ6.out, (HF1.out.below (b_drew1 HQ4.out)).trans HF6.out⟩
    · have hE := errW_arg he hn
      have hE0 : errW l n ≠ 0 := by omega
      unfold RetV
      rw [numW_bad hE0, hE]
      clear hE hE0 he
      by_cases h1 : n < 0
      · go_enter Try.func52, Try.ntmps52
        go_wp2_with (first | (go_at_call 82; refine (HCO.out _ _ HF1.out).mono ?_; rintro e w2 ⟨vc, rfl, hq3, hq4⟩; have HQ4 := Lib.hid hq4; clear hq3 hq4))
        go_ret
        exact ⟨rfl, vb1, HQ1.out.up HQ4.out, HQ2.out.trans (HQ4.out.mono (Nat.le_trans hBw HQ2.out.size)), HF1.out.below HQ4.out⟩
      · by_cases h2 : n ≥ (l.length : Int)
        · go_enter Try.func52, Try.ntmps52
          go_wp2_with (first | (go_at_call 82; refine (HCO.out _ _ HF1.out).mono ?_; rintro e w2 ⟨vc, rfl, hq3, hq4⟩; have HQ4 := Lib.hid hq4; clear hq3 hq4))
          go_ret
          exact ⟨rfl, vb1, HQ1.out.up HQ4.out, HQ2.out.trans (HQ4.out.mono (Nat.le_trans hBw HQ2.out.size)), HF1.out.below HQ4.out⟩
        · obtain ⟨i, rfl⟩ : ∃ i : Nat, n = (i : Int) := ⟨n.toNat, by omega⟩
          have hi : i < l.length := by omega
          have hcell := HC.out i hi
          have HCI := Lib.hid (fun W vb' hf => HCW.out W vb' hf i hi)
          clear HCW
          have hb : b < w.heap.size := hbk (by omega)
          have hx : l.getD i 0 = 0 := by
            apply Classical.byContradiction; intro hx
            exact hn ⟨by omega, by omega, hx⟩
          rw [hx] at hcell
          have hx0 : ((0 : Int) == 0) = true := rfl
          clear hn
          go_enter Try.func52, Try.ntmps52
          go_wp2_with (first | (go_at_call 82; refine (HCO.out _ _ HF1.out).mono ?_; rintro e w2 ⟨vc, rfl, hq3, hq4⟩; have HQ4 := Lib.hid hq4; have hcell2 := (HCI.out _ _ (HF1.out.below HQ4.out)).1.trans hcell; clear hq3 hq4; have hb2 : b < w2.heap.size := (HCI.out _ _ (HF1.out.below HQ4.out)).2))
          go_ret
          exact ⟨rfl, vb1, HQ1.out.up HQ4.out, HQ2.out.trans (HQ4.out.mono (Nat.le_trans hBw HQ2.out.size)), HF1.out.below HQ4.out⟩
  · have hE := errW_codes (n := n) he
    have hE0 : errW l n ≠ 0 := by omega
    have hne : ¬ (errI l : Int) = 0 := by omega
    unfold RetV
    rw [numW_bad hE0, hE]
    clear hE hE0
    generalize errI l = q at *
    go_enter Try.func52, Try.ntmps52
    go_wp2_with (first | (go_at_call 82; refine (HCO.out _ _ HF1.out).mono ?_; rintro e w2 ⟨vc, rfl, hq3, hq4⟩; have HQ4 := Lib.hid hq4; clear hq3 hq4))
    go_ret
    exact ⟨rfl, vb1, HQ1.out.up HQ4.out, HQ2.out.trans (HQ4.out.mono (Nat.le_trans hBw HQ2.out.size)), HF1.out.below HQ4.out⟩
end Go.Cm

/- The writing of a head, in plain Lean: numbers that are put one behind the other. Conditions: none. -/
namespace Go.Cm

def putS (xs : List (Nat × Nat)) (st : Nat × Nat) : Nat × Nat := xs.foldl (fun st x => (st.1 + x.1 * 2 ^ st.2, st.2 + x.2)) st
theorem putS_nil (st : Nat × Nat) : putS [] st = st := rfl
theorem putS_cons (x : Nat × Nat) (xs : List (Nat × Nat)) (st : Nat × Nat) : putS (x :: xs) st = putS xs (st.1 + x.1 * 2 ^ st.2, st.2 + x.2) := rfl
theorem putS_append (xs ys : List (Nat × Nat)) (st : Nat × Nat) : putS (xs ++ ys) st = putS ys (putS xs st) := by unfold putS; rw [List.foldl_append]
theorem putS_snoc (xs : List (Nat × Nat)) (x : Nat × Nat) (st : Nat × Nat) : putS (xs ++ [x]) st = ((putS xs st).1 + x.1 * 2 ^ (putS xs st).2, (putS xs st).2 + x.2) := by rw [putS_append]; rfl
theorem putS_len (xs : List (Nat × Nat)) : ∀ (st : Nat × Nat), (putS xs st).2 = st.2 + (xs.map Prod.snd).sum := by
  induction xs with
  | nil => intro st; simp [putS_nil]
  | cons x xs ih => intro st; rw [putS_cons, ih]; simp; omega
def ordS : List (Nat × Nat) := ordN.map fun s => (if s < 16 then 4 else 0, 3)
def codS (l : List Nat) : List (Nat × Nat) := l.map fun n => (turnN n 4, 4)
def lenS (n m : Nat) : List (Nat × Nat) := [(n - 257, 5), (m - 1, 5), (15, 4)]
def dynS (l1 l2 : List Nat) : List (Nat × Nat) := lenS l1.length l2.length ++ (ordS ++ (codS l1 ++ codS l2))
def alignW (st : Nat × Nat) : Nat × Nat := (st.1, alignN st.2)
def finN (b : Bool) : Nat := if b then 1 else 0
theorem ordS_take (k : Nat) (h : k < 19) : ordS.take (k + 1) = ordS.take k ++ [(if ordN.getD k 0 < 16 then 4 else 0, 3)] := by
  have : ∀ k, k < 19 → ordS.take (k + 1) = ordS.take k ++ [(if ordN.getD k 0 < 16 then 4 else 0, 3)] := by decide
  exact this k h
theorem codS_take (l : List Nat) (k : Nat) (h : k < l.length) : codS (l.take (k + 1)) = codS (l.take k) ++ [(turnN (l.getD k 0) 4, 4)] := by
  unfold codS
  rw [take_succ_getD l k 0 h, List.map_append]; rfl
theorem codS_len (l : List Nat) (st : Nat × Nat) : (putS (codS l) st).2 = st.2 + 4 * l.length := by
  rw [putS_len]
  congr 1
  induction l with
  | nil => rfl
  | cons x l ih => simp [codS] at ih ⊢; omega
theorem ordS_len (k : Nat) (st : Nat × Nat) : (putS (ordS.take k) st).2 ≤ st.2 + 57 := by
  rw [putS_len]
  have hs : ∀ k, ((ordS.take k).map Prod.snd).sum ≤ 57 := fun k => by
    by_cases h : k < 20
    · have : ∀ k, k < 20 → ((ordS.take k).map Prod.snd).sum ≤ 57 := by decide
      exact this k h
    · rw [List.take_of_length_le (by show 19 ≤ k; omega)]; decide
  have := hs k
  omega
end Go.Cm

/- The walk of the source's dynamic head. Conditions: the source and the head are there. -/
namespace Go.Cm
open Go.RowKit Go.Proofs

theorem run_index_arr {P : Program} (T E n : Nat) (hT : P.underlying T = some (.array n E)) (hE : P.underlying E = some (.int .i64)) (hs : (P.info? E).map (·.size) = some 1) (A : Array Value) (j : Nat) (hj : j < n) (v : Value) (hv : A[j]? = some v) :
    ∀ W : World, (Instr.index T (.agg A) (.int .i64 (j : Int))).run P W = .ok v W := by
  intro W
  have hsz : (sizeOf E).run P W = .ok 1 W := by
    cases hq : P.info? E with
    | none => simp [hq] at hs
    | some inf =>
      have : inf.size = 1 := by simpa [hq] using hs
      simp [sizeOf, typeInfo, hq, this]
  have hag : (isAgg E).run P W = .ok false W := by unfold isAgg; rw [Sem.run_bind, run_underlying hE]; rfl
  have hc : (0 : Int) ≤ (j : Int) ∧ (j : Int) < ((n : Nat) : Int) := by omega
  simp only [Instr.index, asIntOf, Sem.run_bind, Sem.run_pure, Result.andThen_ok, run_underlying hT]
  rw [if_pos hc]
  simp only [Sem.run_bind, hsz, Result.andThen_ok, part, hag, Int.toNat_natCast, Nat.mul_one, hv]
  rfl
theorem ordN_lt (j : Nat) : ordN.getD j 0 < 19 := by
  by_cases h : j < 19
  · have : ∀ j, j < 19 → ordN.getD j 0 < 19 := by decide
    exact this j h
  · rw [List.getD_eq_getElem?_getD, List.getElem?_eq_none (by show 19 ≤ j; omega)]; decide
theorem ordA (j : Nat) (h : j < 19) : ((ints (nls ordN)).toArray)[j]? = some (.int .i64 (ordN.getD j 0 : Nat)) := by
  have hl : j < ordN.length := h
  simp [ints, nls, List.getD, hl]
end Go.Cm

/- The document's times: a row and n more of x. Conditions: the argument reads as a list. -/
namespace Go.Cm
open Go.RowKit Go.Proofs

theorem timesR (v : Value) (l : List Nat) (n x : Nat) (w : World) (h : Sl w v (ints (nls l))) (hl : l.length + n ≤ 1000000) :
    Calls Try.prog 79 #[v, .int .i64 n, .int .i64 x] w fun e w' => ∃ v', e = .returned v' ∧ Own w' w.heap.size 3 v' (ints (nls (l ++ List.replicate n x))) ∧ Below w.heap.size w w' := by
  have HSL := Lib.hid h
  have HL : Hid (∀ k, k < n → (ints (nls (l ++ List.replicate k x))).length + 1 ≤ 4294967296) := Lib.hid (fun k hk => by simp [ints, nls]; omega)
  have HL0 : Hid ((ints (nls l)).length ≤ 4294967296) := Lib.hid (by simp [ints, nls]; omega)
  have HAP := Lib.hid (fun k => row_app l k x)
  have H0 : Hid (ints (nls l) = ints (nls (l ++ List.replicate 0 x))) := Lib.hid (by simp)
  clear h
  go_enter Try.func79, Try.ntmps79
  go_wp2_with (at_builtin; refine wpList_app rfl (.tmp 9) (.tmp 10) 39 rfl w.heap.size 3 (.int .i64 0) 8 Try.underlying39 (by kernel_rfl) rfl (by decide) (.slice none 0 0) [] rfl (Own.nil _ _ _) v (ints (nls l)) rfl HSL.out (ints_cell _) (by have := HL0.out; simpa using this) (Nat.le_refl _) ?_; intro v1 w1 hown1 hg1 hk1; (have HO1 := Lib.hid hown1; have HG1 := Lib.hid hg1; clear hown1 hg1 hk1))
  go_loopg [7, 8] n (fun gk r i wr => ∃ k : Nat, k ≤ n ∧ i = .int .i64 k ∧ Own wr w.heap.size 3 r (ints (nls (l ++ List.replicate k x))) ∧ Below w.heap.size w wr ∧ gk = n - k)
  case atStart => exact ⟨0, Nat.zero_le _, rfl, by rw [← H0.out]; exact HO1.out, (Below.refl _ _).grown HG1.out (Nat.le_refl _) (fun k hk => by cases hk), rfl⟩
  case round =>
    obtain ⟨k, hk, rfl, ho, hb, hgk⟩ := hrel
    have HOW := Lib.hid ho
    have HB := Lib.hid hb
    have hsz := hb.size
    clear ho hb
    by_cases hlt : k < n
    · have HLK := Lib.hid (HL.out k hlt)
      have hki : (k : Int) < (n : Int) := by omega
      go_wp2_with (at_builtin; refine wpList_app rfl (.tmp 17) (.tmp 19) 39 rfl w.heap.size 3 (.int .i64 0) 8 Try.underlying39 (by kernel_rfl) rfl (by decide) u7 (ints (nls (l ++ List.replicate k x))) rfl (HOW.out.up (below_alloc _ _)) (.slice (some ⟨wr.heap.size, 0, none⟩) 1 1) (ints (nls [x])) rfl (by simpa [ints, nls] using sl_lit wr #[.int .i64 (x : Int)] 3 (by simp)) (ints_cell _) (by have := HLK.out; simpa [ints, nls] using this) (Nat.le_trans hsz (by simp)) ?_; intro v' w2 hown1 hg1 hk1; (have HO2 := Lib.hid hown1; have HG2 := Lib.hid hg1; clear hown1 hg1 hk1))
      go_roundg (n - (k + 1))
      case measure => omega
      case rel => exact ⟨k + 1, by omega, by go_num, by rw [HAP.out]; exact HO2.out, below_grown (B := w.heap.size) (HB.out.alloc hsz _) (by simp; omega) (HOW.out.up (below_alloc _ _)) HG2.out, rfl⟩
    · obtain rfl : k = n := by omega
      have hki : ¬ (k : Int) < (k : Int) := by omega
      go_wp2
      go_ret
      exact ⟨_, rfl, HOW.out, HB.out⟩
end Go.Cm

/- The lengths of a fixed block, the program's and the document's. Conditions: none. -/
namespace Go.Cm
open Go.RowKit Go.Proofs

theorem growB (v : Value) (l : List Nat) (n x : Nat) (w : World) (B : Nat) (h : Own w B 3 v (ints (nls l))) (hB : B ≤ w.heap.size) (hl : l.length + n ≤ 1000000) :
    Calls Try.prog 95 #[v, .int .i64 n, .int .i64 x] w fun e w' => ∃ v', e = .returned v' ∧ Own w' B 3 v' (ints (nls (l ++ List.replicate n x))) ∧ Below B w w' :=
  (growP v l n x w B h hB hl).mono fun _ _ ⟨v', h1, h2, h3, _⟩ => ⟨v', h1, h2, h3.below (Below.refl _ _) hB (fun k hk => (h.lt k hk).1)⟩
theorem timesB (v : Value) (l : List Nat) (n x : Nat) (w : World) (B : Nat) (h : Own w B 3 v (ints (nls l))) (hB : B ≤ w.heap.size) (hl : l.length + n ≤ 1000000) :
    Calls Try.prog 79 #[v, .int .i64 n, .int .i64 x] w fun e w' => ∃ v', e = .returned v' ∧ Own w' B 3 v' (ints (nls (l ++ List.replicate n x))) ∧ Below B w w' :=
  (timesR v l n x w h.sl hl).mono fun _ _ ⟨v', h1, h2, h3⟩ => ⟨v', h1, h2.mono hB, h3.mono hB⟩
def RetRow (l : List Nat) (w : World) (e : Ending) (w' : World) : Prop := ∃ v, e = .returned v ∧ Own w' w.heap.size 3 v (ints (nls l)) ∧ Below w.heap.size w w'
theorem fixL_eq : (((([] ++ List.replicate 144 8) ++ List.replicate 112 9) ++ List.replicate 24 7) ++ List.replicate 8 8 : List Nat) = fixL := by unfold fixL; rw [List.nil_append]
theorem fixD_eq : ([] ++ List.replicate 32 5 : List Nat) = fixD := by unfold fixD; rw [List.nil_append]
theorem fixLP (w : World) : Calls Try.prog 70 #[] w (RetRow fixL w) := by
  obtain ⟨a1, h1⟩ : ∃ a, a = ([] ++ List.replicate 144 8 : List Nat) := ⟨_, rfl⟩
  obtain ⟨a2, h2⟩ : ∃ a, a = a1 ++ List.replicate 112 9 := ⟨_, rfl⟩
  obtain ⟨a3, h3⟩ : ∃ a, a = a2 ++ List.replicate 24 7 := ⟨_, rfl⟩
  have h4 : fixL = a3 ++ List.replicate 8 8 := by rw [h3, h2, h1]; exact fixL_eq.symm
  have l1 : a1.length = 144 := by rw [h1]; simp
  have l2 : a2.length = 256 := by rw [h2]; simp [l1]
  have l3 : a3.length = 280 := by rw [h3]; simp [l2]
  have C1 : Hid (Calls Try.prog 95 #[.slice none 0 0, .int .i64 144, .int .i64 8] w fun e w' => ∃ v', e = .returned v' ∧ Own w' w.heap.size 3 v' (ints (nls a1)) ∧ Below w.heap.size w w') := Lib.hid (by rw [h1]; exact growB (.slice none 0 0) [] 144 8 w w.heap.size (Own.nil _ _ _) (Nat.le_refl _) (by simp))
  have C2 : Hid (∀ (W : World) (v : Value), Own W w.heap.size 3 v (ints (nls a1)) → w.heap.size ≤ W.heap.size → Calls Try.prog 95 #[v, .int .i64 112, .int .i64 9] W fun e w' => ∃ v', e = .returned v' ∧ Own w' w.heap.size 3 v' (ints (nls a2)) ∧ Below w.heap.size W w') := Lib.hid (fun W v h hB => by rw [h2]; exact growB v a1 112 9 W w.heap.size h hB (by omega))
  have C3 : Hid (∀ (W : World) (v : Value), Own W w.heap.size 3 v (ints (nls a2)) → w.heap.size ≤ W.heap.size → Calls Try.prog 95 #[v, .int .i64 24, .int .i64 7] W fun e w' => ∃ v', e = .returned v' ∧ Own w' w.heap.size 3 v' (ints (nls a3)) ∧ Below w.heap.size W w') := Lib.hid (fun W v h hB => by rw [h3]; exact growB v a2 24 7 W w.heap.size h hB (by omega))
  have C4 : Hid (∀ (W : World) (v : Value), Own W w.heap.size 3 v (ints (nls a3)) → w.heap.size ≤ W.heap.size → Calls Try.prog 95 #[v, .int .i64 8, .int .i64 8] W fun e w' => ∃ v', e = .returned v' ∧ Own w' w.heap.size 3 v' (ints (nls fixL)) ∧ Below w.heap.size W w') := Lib.hid (fun W v h hB => by rw [h4]; exact growB v a3 8 8 W w.heap.size h hB (by omega))
  clear h1 h2 h3 h4 l1 l2 l3
  generalize fixL = L at *
  go_enter Try.func70, Try.ntmps70
  go_wp2_with (go_at_call 95; first | ((with_reducible refine C1.out.mono ?_); rintro e w1 ⟨v1, rfl, ho, hb⟩; (have HO1 := Lib.hid ho; have HB1 := Lib.hid hb; clear ho hb C1)) | ((with_reducible refine (C2.out _ _ HO1.out HB1.out.size).mono ?_); rintro e w2 ⟨v2, rfl, ho, hb⟩; (have HO2 := Lib.hid ho; have HB2 := Lib.hid (HB1.out.trans hb); clear ho hb C2)) | ((with_reducible refine (C3.out _ _ HO2.out HB2.out.size).mono ?_); rintro e w3 ⟨v3, rfl, ho, hb⟩; (have HO3 := Lib.hid ho; have HB3 := Lib.hid (HB2.out.trans hb); clear ho hb C3)) | ((with_reducible refine (C4.out _ _ HO3.out HB3.out.size).mono ?_); rintro e w4 ⟨v4, rfl, ho, hb⟩; (have HO4 := Lib.hid ho; have HB4 := Lib.hid (HB3.out.trans hb); clear ho hb C4)))
  go_ret
  exact ⟨_, rfl, HO4.out, HB4.out⟩
theorem fixDP (w : World) : Calls Try.prog 71 #[] w (RetRow fixD w) := by
  have C1 : Hid (Calls Try.prog 95 #[.slice none 0 0, .int .i64 32, .int .i64 5] w fun e w' => ∃ v', e = .returned v' ∧ Own w' w.heap.size 3 v' (ints (nls fixD)) ∧ Below w.heap.size w w') := Lib.hid (by rw [← fixD_eq]; exact growB (.slice none 0 0) [] 32 5 w w.heap.size (Own.nil _ _ _) (Nat.le_refl _) (by simp))
  generalize fixD = L at *
  go_enter Try.func71, Try.ntmps71
  go_wp2_with (go_at_call 95; (with_reducible refine C1.out.mono ?_); rintro e w1 ⟨v1, rfl, ho, hb⟩; (have HO1 := Lib.hid ho; have HB1 := Lib.hid hb; clear ho hb C1))
  go_ret
  exact ⟨_, rfl, HO1.out, HB1.out⟩
theorem fixLR (w : World) : Calls Try.prog 49 #[] w (RetRow fixL w) := by
  obtain ⟨a1, h1⟩ : ∃ a, a = ([] ++ List.replicate 144 8 : List Nat) := ⟨_, rfl⟩
  obtain ⟨a2, h2⟩ : ∃ a, a = a1 ++ List.replicate 112 9 := ⟨_, rfl⟩
  obtain ⟨a3, h3⟩ : ∃ a, a = a2 ++ List.replicate 24 7 := ⟨_, rfl⟩
  have h4 : fixL = a3 ++ List.replicate 8 8 := by rw [h3, h2, h1]; exact fixL_eq.symm
  have l1 : a1.length = 144 := by rw [h1]; simp
  have l2 : a2.length = 256 := by rw [h2]; simp [l1]
  have l3 : a3.length = 280 := by rw [h3]; simp [l2]
  have C1 : Hid (Calls Try.prog 79 #[.slice none 0 0, .int .i64 144, .int .i64 8] w fun e w' => ∃ v', e = .returned v' ∧ Own w' w.heap.size 3 v' (ints (nls a1)) ∧ Below w.heap.size w w') := Lib.hid (by rw [h1]; exact timesB (.slice none 0 0) [] 144 8 w w.heap.size (Own.nil _ _ _) (Nat.le_refl _) (by simp))
  have C2 : Hid (∀ (W : World) (v : Value), Own W w.heap.size 3 v (ints (nls a1)) → w.heap.size ≤ W.heap.size → Calls Try.prog 79 #[v, .int .i64 112, .int .i64 9] W fun e w' => ∃ v', e = .returned v' ∧ Own w' w.heap.size 3 v' (ints (nls a2)) ∧ Below w.heap.size W w') := Lib.hid (fun W v h hB => by rw [h2]; exact timesB v a1 112 9 W w.heap.size h hB (by omega))
  have C3 : Hid (∀ (W : World) (v : Value), Own W w.heap.size 3 v (ints (nls a2)) → w.heap.size ≤ W.heap.size → Calls Try.prog 79 #[v, .int .i64 24, .int .i64 7] W fun e w' => ∃ v', e = .returned v' ∧ Own w' w.heap.size 3 v' (ints (nls a3)) ∧ Below w.heap.size W w') := Lib.hid (fun W v h hB => by rw [h3]; exact timesB v a2 24 7 W w.heap.size h hB (by omega))
  have C4 : Hid (∀ (W : World) (v : Value), Own W w.heap.size 3 v (ints (nls a3)) → w.heap.size ≤ W.heap.size → Calls Try.prog 79 #[v, .int .i64 8, .int .i64 8] W fun e w' => ∃ v', e = .returned v' ∧ Own w' w.heap.size 3 v' (ints (nls fixL)) ∧ Below w.heap.size W w') := Lib.hid (fun W v h hB => by rw [h4]; exact timesB v a3 8 8 W w.heap.size h hB (by omega))
  clear h1 h2 h3 h4 l1 l2 l3
  generalize fixL = L at *
  go_enter Try.func49, Try.ntmps49
  go_wp2_with (go_at_call 79; first | ((with_reducible refine C1.out.mono ?_); rintro e w1 ⟨v1, rfl, ho, hb⟩; (have HO1 := Lib.hid ho; have HB1 := Lib.hid hb; clear ho hb C1)) | ((with_reducible refine (C2.out _ _ HO1.out HB1.out.size).mono ?_); rintro e w2 ⟨v2, rfl, ho, hb⟩; (have HO2 := Lib.hid ho; have HB2 := Lib.hid (HB1.out.trans hb); clear ho hb C2)) | ((with_reducible refine (C3.out _ _ HO2.out HB2.out.size).mono ?_); rintro e w3 ⟨v3, rfl, ho, hb⟩; (have HO3 := Lib.hid ho; have HB3 := Lib.hid (HB2.out.trans hb); clear ho hb C3)) | ((with_reducible refine (C4.out _ _ HO3.out HB3.out.size).mono ?_); rintro e w4 ⟨v4, rfl, ho, hb⟩; (have HO4 := Lib.hid ho; have HB4 := Lib.hid (HB3.out.trans hb); clear ho hb C4)))
  go_ret
  exact ⟨_, rfl, HO4.out, HB4.out⟩
theorem fixDR (w : World) : Calls Try.prog 50 #[] w (RetRow fixD w) := by
  have C1 : Hid (Calls Try.prog 79 #[.slice none 0 0, .int .i64 32, .int .i64 5] w fun e w' => ∃ v', e = .returned v' ∧ Own w' w.heap.size 3 v' (ints (nls fixD)) ∧ Below w.heap.size w w') := Lib.hid (by rw [← fixD_eq]; exact timesB (.slice none 0 0) [] 32 5 w w.heap.size (Own.nil _ _ _) (Nat.le_refl _) (by simp))
  generalize fixD = L at *
  go_enter Try.func50, Try.ntmps50
  go_wp2_with (go_at_call 79; (with_reducible refine C1.out.mono ?_); rintro e w1 ⟨v1, rfl, ho, hb⟩; (have HO1 := Lib.hid ho; have HB1 := Lib.hid hb; clear ho hb C1))
  go_ret
  exact ⟨_, rfl, HO1.out, HB1.out⟩
end Go.Cm

/- The walk of the document's stored head. Conditions: the reader is there. -/
namespace Go.Cm
open Go.RowKit Go.Proofs

theorem bitsA_two {N T p n : Nat} (h : (bitsA N T p n).2.1 ≠ 0) : (bitsA N T p n).2.1 = 2 := by
  unfold bitsA at h ⊢
  split
  · rename_i hc
    rw [if_pos hc] at h
    exact absurd rfl h
  · rfl
theorem xb_zero (N T n p : Nat) : xb N T n (0, p) = bitsA N T p n := rfl
theorem xb_bad {N T n e p : Nat} (h : e ≠ 0) : xb N T n (e, p) = (0, (e, p)) := if_neg h
end Go.Cm

/- The walks of the document's head and Read. Conditions: the reader is there. -/
namespace Go.Cm
open Go.RowKit Go.Proofs

theorem head_good {N T p a k p1 p2 : Nat} (h1 : bitsA N T p 1 = (a, 0, p1)) (h2 : bitsA N T p1 2 = (k, 0, p2)) : headF N T p = kindN N T p (decide (a = 1)) k (0, p2) := by
  unfold headF
  simp only [xb_zero, h1, h2]
theorem head_bad {N T p a k e1 e2 p1 p2 : Nat} (h1 : bitsA N T p 1 = (a, e1, p1)) (h2 : bitsA N T p1 2 = (k, e2, p2)) (h : e1 ≠ 0 ∨ e2 ≠ 0) : headF N T p = (HeadN.zero, 2, p) := by
  have t1 := bitsA_two (N := N) (T := T) (p := p) (n := 1)
  have t2 := bitsA_two (N := N) (T := T) (p := p1) (n := 2)
  rw [h1] at t1
  rw [h2] at t2
  unfold headF
  by_cases he1 : e1 = 0
  · subst he1
    have he2 : e2 ≠ 0 := by omega
    simp only [xb_zero, h1, h2]
    have e := t2 he2
    simp only at e
    subst e
    exact if_pos (by exact he2)
  · simp only [xb_zero, h1, xb_bad he1]
    have e := t1 he1
    simp only at e
    subst e
    exact if_pos (by exact he1)
end Go.Cm

/- A writer's state while numbers are put, and the walks of its Align. Conditions: the writer is there. -/
namespace Go.Cm
open Go.RowKit Go.Proofs

/-- the program's writer in block g, whose row was vb0 in world w0 -/
def WSt (w0 : World) (B g : Nat) (vb0 : Value) (st : Nat × Nat) (W : World) : Prop := ∃ vb, WrtV W B g st.1 st.2 vb ∧ Below B w0 W ∧ Fr g vb0 vb w0 W
theorem WSt.start {w : World} {B g N L : Nat} {vb : Value} (h : WrtV w B g N L vb) : WSt w B g vb (N, L) w := ⟨vb, h, Below.refl _ _, Fr.refl _ _ _⟩
theorem WSt.up {w0 W W' : World} {B g : Nat} {vb0 : Value} {st : Nat × Nat} (h : WSt w0 B g vb0 st W) (hb : Below W.heap.size W W') (hB : B ≤ W.heap.size) : WSt w0 B g vb0 st W' := by
  obtain ⟨vb, h1, h2, h3⟩ := h
  exact ⟨vb, h1.up hb, h2.trans (hb.mono hB), h3.below hb⟩
theorem WSt.bel {w0 W : World} {B g : Nat} {vb0 : Value} {st : Nat × Nat} (h : WSt w0 B g vb0 st W) : Below B w0 W := by
  obtain ⟨vb, h1, h2, h3⟩ := h; exact h2
theorem WSt.lt {w0 W : World} {B g : Nat} {vb0 : Value} {st : Nat × Nat} (h : WSt w0 B g vb0 st W) : g < W.heap.size ∧ B ≤ g := by
  obtain ⟨vb, h1, h2, h3⟩ := h; exact ⟨h1.box.lt, h1.ge⟩
theorem WSt.size {w0 W : World} {B g : Nat} {vb0 : Value} {st : Nat × Nat} (h : WSt w0 B g vb0 st W) : w0.heap.size ≤ W.heap.size := h.bel.size
/-- a block that was there and is none of the writer's stays -/
theorem WSt.own {w0 W : World} {B g B' E : Nat} {vb0 v : Value} {st : Nat × Nat} {xs : List Value} (h : WSt w0 B g vb0 st W) (ho : Own w0 B' E v xs) (h1 : v.ownBlock ≠ some g) (h2 : ∀ k, v.ownBlock = some k → vb0.ownBlock ≠ some k) : Own W B' E v xs := by
  obtain ⟨vb, -, -, h3⟩ := h
  exact ho.of_blk fun k hk => h3.1 k (ho.lt k hk).2 (fun e => h1 (by rw [hk, e])) (h2 k hk)
/-- a writing that begins where one has ended -/
theorem WSt.join {w0 W : World} {B g : Nat} {vb0 : Value} {st st' : Nat × Nat} {P : Program} {f : FuncId} {args : Array Value} {Q : Ending → Prop} (h : WSt w0 B g vb0 st W)
    (hc : ∀ vb, WrtV W B g st.1 st.2 vb → Calls P f args W fun e w' => Q e ∧ WSt W B g vb st' w') : Calls P f args W fun e w' => Q e ∧ WSt w0 B g vb0 st' w' := by
  obtain ⟨vb, h1, h2, h3⟩ := h
  exact (hc vb h1).mono fun e w' ⟨hq, vb', g1, g2, g3⟩ => ⟨hq, vb', g1, h2.trans g2, h3.trans g3⟩
theorem putW {w0 W : World} {B g : Nat} {vb0 : Value} {st : Nat × Nat} (h : WSt w0 B g vb0 st W) (v n : Nat) (hv : v < 2 ^ n) (hn : n ≤ 32) (hL : st.2 + n ≤ 34359738368) :
    Calls Try.prog 65 #[.pointer (some ⟨g, 0, none⟩), .int .i64 v, .int .i64 n] W fun e w' => e = .returned (.int .i64 0) ∧ WSt w0 B g vb0 (st.1 + v * 2 ^ st.2, st.2 + n) w' :=
  h.join (Q := fun e => e = .returned (.int .i64 0)) fun _ hb => (putV hb v n hv hn hL).mono fun _ _ ⟨he, vb', h1, h2, h3⟩ => ⟨he, vb', h1, h2, h3⟩
theorem codeW {w0 W : World} {B g : Nat} {vb0 : Value} {st : Nat × Nat} (h : WSt w0 B g vb0 st W) (v n : Nat) (hv : v < 2 ^ n) (hn : n ≤ 32) (hL : st.2 + n ≤ 34359738368) :
    Calls Try.prog 94 #[.pointer (some ⟨g, 0, none⟩), .int .i64 v, .int .i64 n] W fun e w' => e = .returned (.int .i64 0) ∧ WSt w0 B g vb0 (st.1 + turnN v n * 2 ^ st.2, st.2 + n) w' :=
  h.join (Q := fun e => e = .returned (.int .i64 0)) fun _ hb => (codeV hb v n hv hn hL).mono fun _ _ ⟨he, vb', h1, h2, h3⟩ => ⟨he, vb', h1, h2, h3⟩
theorem alignWP {w0 W : World} {B g : Nat} {vb0 : Value} {st : Nat × Nat} (h : WSt w0 B g vb0 st W) (hL : st.2 ≤ 300000000) :
    Calls Try.prog 67 #[.pointer (some ⟨g, 0, none⟩)] W fun e w' => e = .returned (.tuple #[]) ∧ WSt w0 B g vb0 (alignW st) w' := by
  obtain ⟨N, L⟩ := st
  have HW := Lib.hid h
  obtain ⟨vb, h1, -, -⟩ := h
  have HBX := Lib.hid h1.box
  have c3 := h1.box.c3
  have hg := h1.box.lt
  have hr : L % 8 < 8 := Nat.mod_lt _ (by decide)
  by_cases h0 : L % 8 = 0
  · have HA : Hid (alignW (N, L) = (N, L)) := Lib.hid (by unfold alignW alignN; dsimp only; congr 1; omega)
    rw [h0] at c3
    rw [HA.out]
    clear h1 h0
    go_enter Try.func67, Try.ntmps67
    go_wp2_with (go_at_call 69; refine (thereP HBX.out).mono ?_; rintro e w' ⟨rfl, hw'⟩; rw [hw']; clear hw')
    go_end0
    exact ⟨rfl, HW.out⟩
  · have HA : Hid (alignW (N, L) = (N + 0 * 2 ^ L, L + (8 - L % 8))) := Lib.hid (by unfold alignW alignN; dsimp only; rw [Nat.zero_mul, Nat.add_zero]; congr 1; omega)
    have HPW := Lib.hid (putW HW.out 0 (8 - L % 8) (Nat.two_pow_pos _) (by omega) (by simp only at hL ⊢; omega))
    rw [show ((0 : Nat) : Int) = 0 from rfl] at HPW
    have hi : ((L % 8 : Nat) : Int) > 0 := by omega
    have hsub : (8 : Int) - ((L % 8 : Nat) : Int) = ((8 - L % 8 : Nat) : Int) := by omega
    rw [HA.out]
    clear h1 h0
    generalize hm : L % 8 = m at *
    generalize 8 - m = d at *
    go_enter Try.func67, Try.ntmps67
    go_wp2_with (first | (go_at_call 69; refine (thereP HBX.out).mono ?_; rintro e w' ⟨rfl, hw'⟩; rw [hw']; clear hw') | (go_at_call 65; (with_reducible refine HPW.out.mono ?_); rintro e w2 ⟨rfl, hq⟩; have HQ := Lib.hid hq; clear hq))
    go_end0
    exact ⟨rfl, HQ.out⟩
end Go.Cm

/- Whether both codes of a block fit, for any ints; what is wrong of a head. Conditions: the lists read as lists. -/
namespace Go.Cm
open Go.RowKit Go.Proofs

def fits2I (l1 l2 : List Int) : Nat := if l1.getD 256 0 = 0 then 21 else if fitsE l1 true ≠ 0 then fitsE l1 true else fitsE l2 true
theorem fits2_nls (l1 l2 : List Nat) : fits2I (nls l1) (nls l2) = fits2 l1 l2 := by
  unfold fits2I fits2
  rw [nls_getD]
  by_cases h : l1.getD 256 0 = 0
  · rw [if_pos h, if_pos (by omega)]
  · rw [if_neg h, if_neg (by omega)]
theorem fits2PI (u v : Value) (lits dists : List Int) (w : World) (hu : IntsAt w u lits) (hv : IntsAt w v dists) (h256 : 256 < lits.length) :
    Calls Try.prog 92 #[u, v] w fun e w' => e = .returned (.int .i64 (fits2I lits dists : Nat)) ∧ Below w.heap.size w w' := by
  have HF1 := Lib.hid (fitsP u lits true w hu)
  have HF2 := Lib.hid (fun W (hb : Below w.heap.size w W) => fitsP v dists true W (hv.up hb))
  obtain ⟨oa, cap, b, off, hvv, hd, hc⟩ := hu.open
  subst hvv
  have hcell := hc 256 h256
  have hix := index_any (P := Try.prog) 39 3 Try.underlying39 (by kernel_rfl) hd
  have hm := hd.len
  have hbb := hd.hblk (by omega)
  have hli : (256 : Int) < (lits.length : Int) := by omega
  obtain ⟨r, hr⟩ : ∃ r, r = fits2I lits dists := ⟨_, rfl⟩
  rw [← hr]
  unfold fits2I at hr
  have HR := Lib.hid hr
  clear hc hd hu hv hr
  generalize fitsE lits true = e1 at *
  generalize fitsE dists true = e2 at *
  generalize lits.getD 256 0 = y at *
  generalize lits.length = m at *
  by_cases hy : y = 0
  · have h21 : r = 21 := by rw [HR.out]; exact if_pos hy
    subst h21 hy
    clear HR
    go_enter Try.func92, Try.ntmps92
    go_wp2
    go_ret
    exact ⟨rfl, Below.refl _ _⟩
  · have hy' : (y == 0) = false := by simpa using hy
    by_cases he : e1 = 0
    · have h2 : r = e2 := by rw [HR.out, if_neg hy]; exact if_neg (by omega)
      subst h2 he
      clear HR hy
      go_enter Try.func92, Try.ntmps92
      go_wp2_with (first | (go_at_call 116; (with_reducible refine HF1.out.mono ?_); rintro e w1 ⟨rfl, hb1⟩; (have HB1 := Lib.hid hb1; have HFF := Lib.hid (HF2.out w1 HB1.out); clear hb1)) | (go_at_call 116; (with_reducible refine HFF.out.mono ?_); rintro e w2 ⟨rfl, hb2⟩; (have HB2 := Lib.hid (below_up HB1.out hb2); clear hb2)))
      go_ret
      exact ⟨rfl, HB2.out⟩
    · have h2 : r = e1 := by rw [HR.out, if_neg hy]; exact if_pos he
      have he' : ((e1 : Int) != 0) = true := by simpa using he
      subst h2
      clear HR hy he
      go_enter Try.func92, Try.ntmps92
      go_wp2_with (go_at_call 116; (with_reducible refine HF1.out.mono ?_); rintro e w1 ⟨rfl, hb1⟩; (have HB1 := Lib.hid hb1; clear hb1))
      go_ret
      exact ⟨rfl, HB1.out⟩
theorem fits2RI (u v : Value) (lits dists : List Int) (w : World) (hu : IntsAt w u lits) (hv : IntsAt w v dists) (h256 : 256 < lits.length) :
    Calls Try.prog 74 #[u, v] w fun e w' => e = .returned (.int .i64 (fits2I lits dists : Nat)) ∧ Below w.heap.size w w' := by
  have HF1 := Lib.hid (fitsR u lits true w hu)
  have HF2 := Lib.hid (fun W (hb : Below w.heap.size w W) => fitsR v dists true W (hv.up hb))
  obtain ⟨oa, cap, b, off, hvv, hd, hc⟩ := hu.open
  subst hvv
  have hcell := hc 256 h256
  have hix := index_any (P := Try.prog) 39 3 Try.underlying39 (by kernel_rfl) hd
  have hm := hd.len
  have hbb := hd.hblk (by omega)
  have hli : (256 : Int) < (lits.length : Int) := by omega
  obtain ⟨r, hr⟩ : ∃ r, r = fits2I lits dists := ⟨_, rfl⟩
  rw [← hr]
  unfold fits2I at hr
  have HR := Lib.hid hr
  clear hc hd hu hv hr
  generalize fitsE lits true = e1 at *
  generalize fitsE dists true = e2 at *
  generalize lits.getD 256 0 = y at *
  generalize lits.length = m at *
  by_cases hy : y = 0
  · have h21 : r = 21 := by rw [HR.out]; exact if_pos hy
    subst h21 hy
    clear HR
    go_enter Try.func74, Try.ntmps74
    go_wp2
    go_ret
    exact ⟨rfl, Below.refl _ _⟩
  · have hy' : (y == 0) = false := by simpa using hy
    by_cases he : e1 = 0
    · have h2 : r = e2 := by rw [HR.out, if_neg hy]; exact if_neg (by omega)
      subst h2 he
      clear HR hy
      go_enter Try.func74, Try.ntmps74
      go_wp2_with (first | (go_at_call 99; (with_reducible refine HF1.out.mono ?_); rintro e w1 ⟨rfl, hb1⟩; (have HB1 := Lib.hid hb1; have HFF := Lib.hid (HF2.out w1 HB1.out); clear hb1)) | (go_at_call 99; (with_reducible refine HFF.out.mono ?_); rintro e w2 ⟨rfl, hb2⟩; (have HB2 := Lib.hid (below_up HB1.out hb2); clear hb2)))
      go_ret
      exact ⟨rfl, HB2.out⟩
    · have h2 : r = e1 := by rw [HR.out, if_neg hy]; exact if_pos he
      have he' : ((e1 : Int) != 0) = true := by simpa using he
      subst h2
      clear HR hy he
      go_enter Try.func74, Try.ntmps74
      go_wp2_with (go_at_call 99; (with_reducible refine HF1.out.mono ?_); rintro e w1 ⟨rfl, hb1⟩; (have HB1 := Lib.hid hb1; clear hb1))
      go_ret
      exact ⟨rfl, HB1.out⟩
def mayI (k z : Int) (l1 l2 : List Int) : Nat :=
  if k = 0 then (if z < 0 ∨ 65535 < z then 1 else 0)
  else if k = 1 then 0
  else if k = 2 then (if l1.length < 257 ∨ 286 < l1.length ∨ l2.length < 1 ∨ 30 < l2.length then 1 else fits2I l1 l2)
  else 1
set_option maxRecDepth 100000 in
theorem mayP (f : Bool) (k z : Int) (u1 u2 : Value) (l1 l2 : List Int) (w : World) (h1 : IntsAt w u1 l1) (h2 : IntsAt w u2 l2) :
    Calls Try.prog 66 #[.agg #[.bool f, .int .i64 k, .int .i64 z, u1, u2]] w fun e w' => e = .returned (.int .i64 (mayI k z l1 l2 : Nat)) ∧ Below w.heap.size w w' := by
  have HF := Lib.hid (fun (h : 256 < l1.length) (W : World) (hb : Below w.heap.size w W) => fits2PI u1 u2 l1 l2 W (h1.up hb) (h2.up hb) h)
  obtain ⟨o1, c1, b1, f1, rfl, hd1, -⟩ := h1.open
  obtain ⟨o2, c2, b2, f2, rfl, hd2, -⟩ := h2.open
  have hm1 := hd1.len
  have hm2 := hd2.len
  obtain ⟨r, hr⟩ : ∃ r, r = mayI k z l1 l2 := ⟨_, rfl⟩
  rw [← hr]
  unfold mayI at hr
  have HR := Lib.hid hr
  clear h1 h2 hd1 hd2 hr
  by_cases hk0 : k = 0
  · subst hk0
    by_cases hz0 : z < 0
    · have HR2 : Hid (r = 1) := Lib.hid (by rw [HR.out, if_pos rfl, if_pos (.inl hz0)])
      rw [HR2.out]
      clear HR HF
      go_enter Try.func66, Try.ntmps66
      go_wp2
      go_ret
      exact ⟨rfl, (by repeat (first | exact Below.refl _ _ | assumption | refine b_drewN ?_ _ | refine Below.drew ?_ | refine b_ext' ?_ _ | refine b_alloc' ?_ _))⟩
    · by_cases hz1 : z > 65535
      · have HR2 : Hid (r = 1) := Lib.hid (by rw [HR.out, if_pos rfl, if_pos (.inr hz1)])
        rw [HR2.out]
        clear HR HF
        go_enter Try.func66, Try.ntmps66
        go_wp2
        go_ret
        exact ⟨rfl, (by repeat (first | exact Below.refl _ _ | assumption | refine b_drewN ?_ _ | refine Below.drew ?_ | refine b_ext' ?_ _ | refine b_alloc' ?_ _))⟩
      · have HR2 : Hid (r = 0) := Lib.hid (by rw [HR.out, if_pos rfl, if_neg (by omega)])
        rw [HR2.out]
        clear HR HF
        go_enter Try.func66, Try.ntmps66
        go_wp2
        go_ret
        exact ⟨rfl, (by repeat (first | exact Below.refl _ _ | assumption | refine b_drewN ?_ _ | refine Below.drew ?_ | refine b_ext' ?_ _ | refine b_alloc' ?_ _))⟩
  · have hk0' : (k == 0) = false := by simpa using hk0
    by_cases hk1 : k = 1
    · subst hk1
      have HR2 : Hid (r = 0) := Lib.hid (by rw [HR.out, if_neg hk0, if_pos rfl])
      rw [HR2.out]
      clear HR HF hk0 hk0'
      go_enter Try.func66, Try.ntmps66
      go_wp2
      go_ret
      exact ⟨rfl, (by repeat (first | exact Below.refl _ _ | assumption | refine b_drewN ?_ _ | refine Below.drew ?_ | refine b_ext' ?_ _ | refine b_alloc' ?_ _))⟩
    · have hk1' : (k == 1) = false := by simpa using hk1
      by_cases hk2 : k = 2
      · subst hk2
        have HR3 : Hid (r = if l1.length < 257 ∨ 286 < l1.length ∨ l2.length < 1 ∨ 30 < l2.length then 1 else fits2I l1 l2) := Lib.hid (by rw [HR.out, if_neg hk0, if_neg hk1, if_pos rfl])
        clear HR hk0 hk0' hk1 hk1'
        by_cases ha : l1.length < 257
        · have hai : (l1.length : Int) < 257 := by omega
          have HR2 : Hid (r = 1) := Lib.hid (by rw [HR3.out, if_pos (.inl ha)])
          rw [HR2.out]
          clear HR3 HF ha
          generalize l1.length = n1 at *
          generalize l2.length = n2 at *
          go_enter Try.func66, Try.ntmps66
          go_wp2
          go_ret
          exact ⟨rfl, (by repeat (first | exact Below.refl _ _ | assumption | refine b_drewN ?_ _ | refine Below.drew ?_ | refine b_ext' ?_ _ | refine b_alloc' ?_ _))⟩
        · have hai : ¬ (l1.length : Int) < 257 := by omega
          by_cases hb : 286 < l1.length
          · have hbi : (l1.length : Int) > 286 := by omega
            have HR2 : Hid (r = 1) := Lib.hid (by rw [HR3.out, if_pos (.inr (.inl hb))])
            rw [HR2.out]
            clear HR3 HF ha hb
            generalize l1.length = n1 at *
            generalize l2.length = n2 at *
            go_enter Try.func66, Try.ntmps66
            go_wp2
            go_ret
            exact ⟨rfl, (by repeat (first | exact Below.refl _ _ | assumption | refine b_drewN ?_ _ | refine Below.drew ?_ | refine b_ext' ?_ _ | refine b_alloc' ?_ _))⟩
          · have hbi : ¬ (l1.length : Int) > 286 := by omega
            by_cases hc : l2.length < 1
            · have hci : (l2.length : Int) < 1 := by omega
              have HR2 : Hid (r = 1) := Lib.hid (by rw [HR3.out, if_pos (.inr (.inr (.inl hc)))])
              rw [HR2.out]
              clear HR3 HF ha hb hc
              generalize l1.length = n1 at *
              generalize l2.length = n2 at *
              go_enter Try.func66, Try.ntmps66
              go_wp2
              go_ret
              exact ⟨rfl, (by repeat (first | exact Below.refl _ _ | assumption | refine b_drewN ?_ _ | refine Below.drew ?_ | refine b_ext' ?_ _ | refine b_alloc' ?_ _))⟩
            · have hci : ¬ (l2.length : Int) < 1 := by omega
              by_cases hd : 30 < l2.length
              · have hdi : (l2.length : Int) > 30 := by omega
                have HR2 : Hid (r = 1) := Lib.hid (by rw [HR3.out, if_pos (.inr (.inr (.inr hd)))])
                rw [HR2.out]
                clear HR3 HF ha hb hc hd
                generalize l1.length = n1 at *
                generalize l2.length = n2 at *
                go_enter Try.func66, Try.ntmps66
                go_wp2
                go_ret
                exact ⟨rfl, (by repeat (first | exact Below.refl _ _ | assumption | refine b_drewN ?_ _ | refine Below.drew ?_ | refine b_ext' ?_ _ | refine b_alloc' ?_ _))⟩
              · have hdi : ¬ (l2.length : Int) > 30 := by omega
                have HR2 : Hid (r = fits2I l1 l2) := Lib.hid (by rw [HR3.out, if_neg (by omega)])
                rw [HR2.out]
                have HFC := Lib.hid (HF.out (by omega))
                clear HR3 HF ha hb hc hd
                generalize fits2I l1 l2 = fe at *
                generalize l1.length = n1 at *
                generalize l2.length = n2 at *
                go_enter Try.func66, Try.ntmps66
                go_wp2_with (go_at_call 92; (with_reducible refine (HFC.out _ (by repeat (first | exact Below.refl _ _ | assumption | refine b_drewN ?_ _ | refine Below.drew ?_ | refine b_ext' ?_ _ | refine b_alloc' ?_ _))).mono ?_); rintro e w2 ⟨rfl, hb2⟩; have HB2 := Lib.hid hb2; clear hb2)
                go_ret
                exact ⟨rfl, below_up (below_alloc _ _) HB2.out⟩
      · have hk2' : (k == 2) = false := by simpa using hk2
        have HR2 : Hid (r = 1) := Lib.hid (by rw [HR.out, if_neg hk0, if_neg hk1, if_neg hk2])
        rw [HR2.out]
        clear HR HF hk0 hk1 hk2
        go_enter Try.func66, Try.ntmps66
        go_wp2
        go_ret
        exact ⟨rfl, (by repeat (first | exact Below.refl _ _ | assumption | refine b_drewN ?_ _ | refine Below.drew ?_ | refine b_ext' ?_ _ | refine b_alloc' ?_ _))⟩
end Go.Cm

/- The walk of the law's known calls. Conditions: none. -/
namespace Go.Cm
open Go.RowKit Go.Proofs

theorem k1 : headF (numS ⟨#[3]⟩) (8 * (⟨#[3]⟩ : ByteArray).size) 0 = (⟨true, 1, 0, fixL, fixD⟩, 0, 3) := by
  rw [show numS ⟨#[3]⟩ = 3 by decide, show 8 * (⟨#[3]⟩ : ByteArray).size = 8 by decide, head_good (a := 1) (k := 1) (p1 := 1) (p2 := 3) (by decide) (by decide)]
  rfl
theorem k2 : headF (numS ⟨#[1, 5, 0, 250, 255]⟩) (8 * (⟨#[1, 5, 0, 250, 255]⟩ : ByteArray).size) 0 = (⟨true, 0, 5, [], []⟩, 0, 40) := by
  rw [head_good (a := 1) (k := 0) (p1 := 1) (p2 := 3) (by decide) (by decide)]
  unfold kindN
  rw [if_neg (by decide), if_pos rfl, show storedN (numS ⟨#[1, 5, 0, 250, 255]⟩) (8 * (⟨#[1, 5, 0, 250, 255]⟩ : ByteArray).size) (0, 3) = (5, 0, 40) by decide]
  rfl
theorem k5 : headF (numS ⟨#[]⟩) (8 * (⟨#[]⟩ : ByteArray).size) 0 = (HeadN.zero, 2, 0) := by
  exact head_bad (a := 0) (k := 0) (e1 := 2) (e2 := 2) (p1 := 0) (p2 := 0) (by decide) (by decide) (.inl (by decide))
end Go.Cm

/- The walk of the law's known calls, all of them. Conditions: none. -/
namespace Go.Cm
open Go.RowKit Go.Proofs

theorem ownH (w : World) (f : Bool) (k z : Int) (o1 o2 : Option Addr) (n1 n2 c1 c2 T : Nat) : Own (w.alloc (.cells #[.bool f, .int .i64 k, .int .i64 z, .slice o1 n1 c1, .slice o2 n2 c2] T)) w.heap.size T (.slice (some ⟨w.heap.size, 0, none⟩) 5 5) [.bool f, .int .i64 k, .int .i64 z, .slice o1 n1 c1, .slice o2 n2 c2] := by
  have h := own_lit w w.heap.size #[.bool f, .int .i64 k, .int .i64 z, .slice o1 n1 c1, .slice o2 n2 c2] T (by simp) (Nat.le_refl _)
  simpa using h
end Go.Cm

/- The walk of the writing of a dynamic block's lengths. Conditions: the writer is there, the lengths are right. -/
namespace Go.Cm
open Go.RowKit Go.Proofs

theorem alloc_below {B : Nat} {w : World} (hB : B ≤ w.heap.size) (o : Obj) : Below B w (w.alloc o) := (Below.refl B w).alloc hB o
set_option maxRecDepth 100000 in
set_option maxHeartbeats 4000000 in
theorem lengthsP {w : World} {B g N L : Nat} {vb0 : Value} (h : WrtV w B g N L vb0) (f : Bool) (k z : Int) (u1 u2 : Value) (l1 l2 : List Nat) (hu1 : ∀ W, Below B w W → IntsAt W u1 (nls l1)) (hu2 : ∀ W, Below B w W → IntsAt W u2 (nls l2))
    (hn1 : 257 ≤ l1.length) (hn1' : l1.length ≤ 286) (hn2 : 1 ≤ l2.length) (hn2' : l2.length ≤ 30) (h1 : ∀ x ∈ l1, x ≤ 15) (h2 : ∀ x ∈ l2, x ≤ 15) (hL : L ≤ 200000000) :
    Calls Try.prog 68 #[.pointer (some ⟨g, 0, none⟩), .agg #[.bool f, .int .i64 k, .int .i64 z, u1, u2]] w fun e w' => e = .returned (.tuple #[]) ∧ WSt w B g vb0 (putS (dynS l1 l2) (N, L)) w' := by
  have hBw : B ≤ w.heap.size := by have := h.ge; have := h.box.lt; omega
  have hgw := h.box.lt
  have hvb : ∀ q, vb0.ownBlock = some q → q < w.heap.size := fun q hq => (h.own.lt q hq).2
  have HU1 := Lib.hid hu1
  have HU2 := Lib.hid hu2
  obtain ⟨o1, c1, b1, f1, hv1, -⟩ := (hu1 w (Below.refl _ _)).open
  obtain ⟨o2, c2, b2, f2, hv2, -⟩ := (hu2 w (Below.refl _ _)).open
  rw [nls_length] at hv1 hv2
  subst hv1 hv2
  have H15a := Lib.hid (fun j (hj : j < l1.length) => h1 _ (getD_mem l1 j 0 hj))
  have H15b := Lib.hid (fun j (hj : j < l2.length) => h2 _ (getD_mem l2 j 0 hj))
  have HA := Lib.hid (ownH w f k z o1 o2 l1.length l2.length c1 c2 87)
  have HS1 := Lib.hid (WSt.start (h.up (below_alloc w (.cells #[.bool f, .int .i64 k, .int .i64 z, .slice o1 l1.length c1, .slice o2 l2.length c2] 87))))
  have HB1 : Hid (Below B w (w.alloc (.cells #[.bool f, .int .i64 k, .int .i64 z, .slice o1 l1.length c1, .slice o2 l2.length c2] 87))) := Lib.hid (alloc_below hBw _)
  have hl1 : w.heap.size < (w.alloc (.cells #[.bool f, .int .i64 k, .int .i64 z, .slice o1 l1.length c1, .slice o2 l2.length c2] 87)).heap.size := by simp
  have HST : Hid (putS (dynS l1 l2) (N, L) = putS (codS l2) (putS (codS l1) (putS ordS (putS (lenS l1.length l2.length) (N, L))))) := Lib.hid (by unfold dynS; rw [putS_append, putS_append, putS_append])
  obtain ⟨st3, hst3⟩ : ∃ st, st = putS (lenS l1.length l2.length) (N, L) := ⟨_, rfl⟩
  have HS3 := Lib.hid hst3
  rw [← hst3] at HST
  have HL3 : Hid (st3.2 = L + 14) := Lib.hid (by rw [hst3, putS_len]; rfl)
  have HE := Lib.hid HST.out
  obtain ⟨D, hD⟩ : ∃ D, D = putS (dynS l1 l2) (N, L) := ⟨_, rfl⟩
  rw [← hD]
  rw [← hD] at HE
  clear h hu1 hu2 h1 h2 HST hst3 hD
  have HO : Hid (∃ O : Array Value, (∀ j, j < 19 → O[j]? = some (.int .i64 (ordN.getD j 0 : Nat))) ∧ ∀ W : World, Calls Try.prog 93 #[] W fun e w' => e = .returned (.agg O) ∧ Below W.heap.size W w') := Lib.hid ⟨_, fun j hj => ordA j hj, fun W => ordP W⟩
  obtain ⟨O, hOA, hOP⟩ := HO.out
  have HOA := Lib.hid hOA
  have HOP := Lib.hid hOP
  have hs1 : (l1.length : Int) - 257 = ((l1.length - 257 : Nat) : Int) := by omega
  have hs2 : (l2.length : Int) - 1 = ((l2.length - 1 : Nat) : Int) := by omega
  clear HO hOA hOP
  have HA3 : Hid (∀ st W, WSt (w.alloc (.cells #[.bool f, .int .i64 k, .int .i64 z, .slice o1 l1.length c1, .slice o2 l2.length c2] 87)) B g vb0 st W → Own W w.heap.size 87 (.slice (some ⟨w.heap.size, 0, none⟩) 5 5) [.bool f, .int .i64 k, .int .i64 z, .slice o1 l1.length c1, .slice o2 l2.length c2]) := Lib.hid (fun st W h => h.own HA.out (fun e => by have e2 : some w.heap.size = some g := e; injection e2 with e2; omega) (fun q hq e => by have e2 : some w.heap.size = some q := hq; injection e2 with e2; have := hvb q e; omega))
  have hw1 := HA.out.blk.2
  have HC3 : Hid (∀ st W, WSt (w.alloc (.cells #[.bool f, .int .i64 k, .int .i64 z, .slice o1 l1.length c1, .slice o2 l2.length c2] 87)) B g vb0 st W → w.heap.size < W.heap.size) := Lib.hid (fun st W h => Nat.lt_of_lt_of_le hw1 h.size)
  have hp5 : l1.length - 257 < 2 ^ 5 := by omega
  have hp5' : l2.length - 1 < 2 ^ 5 := by omega
  clear hw1 HA
  generalize hn : l1.length = n1 at *
  have HN1 := Lib.hid hn
  clear hn
  generalize hn : l2.length = n2 at *
  have HN2 := Lib.hid hn
  clear hn
  generalize hm1 : n1 - 257 = m1 at *
  generalize hm2 : n2 - 1 = m2 at *
  have HM1 := Lib.hid hm1
  have HM2 := Lib.hid hm2
  clear hm1 hm2
  have HP1 := Lib.hid (putW HS1.out m1 5 hp5 (by omega) (by simp only; omega))
  rw [show ((5 : Nat) : Int) = 5 from rfl] at HP1
  have e10 := HA3.out _ _ HS1.out
  have x13 := e10.cell (i := 3) (by simp)
  have y1 := e10.blk.2
  clear e10
  go_enter Try.func68, Try.ntmps68
  go_upto_region 4 with (go_at_call 65; first | ((with_reducible refine HP1.out.mono ?_); rintro e w2 ⟨rfl, hq⟩; (have HS2 := Lib.hid hq; have HP2 := Lib.hid (putW hq m2 5 hp5' (by omega) (by simp only; omega)); rw [show ((5 : Nat) : Int) = 5 from rfl] at HP2; have x24 := (HA3.out _ _ hq).cell (i := 4) (by simp); have y2 := HC3.out _ _ hq; clear hq HP1 x13 y1)) | ((with_reducible refine HP2.out.mono ?_); rintro e w3 ⟨rfl, hq⟩; (have HP3 := Lib.hid (putW hq 15 4 (by decide) (by omega) (by simp only; omega)); rw [show ((4 : Nat) : Int) = 4 from rfl, show ((15 : Nat) : Int) = 15 from rfl] at HP3; clear hq HP2 x24 y2 HS2)) | ((with_reducible refine HP3.out.mono ?_); rintro e w4 ⟨rfl, hq⟩; (have HS4 : Hid (WSt (w.alloc (.cells #[.bool f, .int .i64 k, .int .i64 z, .slice o1 n1 c1, .slice o2 n2 c2] 87)) B g vb0 st3 w4) := Lib.hid (by rw [HS3.out]; unfold lenS; rw [HM1.out, HM2.out]; exact hq); clear hq HP3)))
  clear HS1
  go_wp2_with (go_at_call 93; (with_reducible refine (HOP.out _).mono ?_); rintro e w5 ⟨rfl, hb5⟩; (have HS5 := Lib.hid (HS4.out.up hb5 (Nat.le_trans (Nat.le_trans hBw (Nat.le_of_lt hl1)) HS4.out.size)); clear hb5 HOP))
  clear HS4 HS3
  go_loopg [26] 20 (fun gk i wr => ∃ j, j ≤ 19 ∧ i = .int .i64 (j : Nat) ∧ WSt (w.alloc (.cells #[.bool f, .int .i64 k, .int .i64 z, .slice o1 n1 c1, .slice o2 n2 c2] 87)) B g vb0 (putS (ordS.take j) st3) wr ∧ gk = 20 - j)
  case atStart => exact ⟨0, Nat.zero_le _, rfl, HS5.out, rfl⟩
  case round =>
    clear HS5
    obtain ⟨j, hj, rfl, hs, hgk⟩ := hrel
    have HSW := Lib.hid hs
    clear hs
    by_cases hlt : j < 19
    · have hji : (j : Int) < 19 := by omega
      have hcell := HOA.out j hlt
      have hixO := run_index_arr (P := Try.prog) 138 3 19 Try.underlying138 Try.underlying3 (by kernel_rfl) O j hlt _ hcell
      have hy := ordN_lt j
      have HTK : Hid (putS (ordS.take (j + 1)) st3 = ((putS (ordS.take j) st3).1 + (if ordN.getD j 0 < 16 then 4 else 0) * 2 ^ (putS (ordS.take j) st3).2, (putS (ordS.take j) st3).2 + 3)) := Lib.hid (by rw [ordS_take j hlt, putS_snoc])
      have hlen : (putS (ordS.take j) st3).2 ≤ 300000000 := by
        have := ordS_len j st3
        have := HL3.out
        omega
      generalize ordN.getD j 0 = y at *
      by_cases hy16 : y < 16
      · have hyi : ¬ (y : Int) ≥ 16 := by omega
        have HPX := Lib.hid (putW HSW.out 4 3 (by decide) (by omega) (by omega))
        rw [show ((4 : Nat) : Int) = 4 from rfl, show ((3 : Nat) : Int) = 3 from rfl] at HPX
        have HTK2 : Hid (putS (ordS.take (j + 1)) st3 = ((putS (ordS.take j) st3).1 + 4 * 2 ^ (putS (ordS.take j) st3).2, (putS (ordS.take j) st3).2 + 3)) := Lib.hid (by rw [HTK.out, if_pos hy16])
        clear hy16 HTK
        go_wp2_with (go_at_call 65; (with_reducible refine HPX.out.mono ?_); rintro e w6 ⟨rfl, hq⟩; have HQ := Lib.hid hq; clear hq)
        go_roundg (20 - (j + 1))
        case measure => omega
        case rel => exact ⟨j + 1, by omega, by go_num, by rw [HTK2.out]; exact HQ.out, rfl⟩
      · have hyi : (y : Int) ≥ 16 := by omega
        have HPX := Lib.hid (putW HSW.out 0 3 (by decide) (by omega) (by omega))
        rw [show ((0 : Nat) : Int) = 0 from rfl, show ((3 : Nat) : Int) = 3 from rfl] at HPX
        have HTK2 : Hid (putS (ordS.take (j + 1)) st3 = ((putS (ordS.take j) st3).1 + 0 * 2 ^ (putS (ordS.take j) st3).2, (putS (ordS.take j) st3).2 + 3)) := Lib.hid (by rw [HTK.out, if_neg hy16])
        clear hy16 HTK
        go_wp2_with (go_at_call 65; (with_reducible refine HPX.out.mono ?_); rintro e w6 ⟨rfl, hq⟩; have HQ := Lib.hid hq; clear hq)
        go_roundg (20 - (j + 1))
        case measure => omega
        case rel => exact ⟨j + 1, by omega, by go_num, by rw [HTK2.out]; exact HQ.out, rfl⟩
    · obtain rfl : j = 19 := by omega
      have HT19 : Hid (putS (ordS.take 19) st3 = putS ordS st3) := Lib.hid (by rw [List.take_of_length_le (by decide)])
      have hl4 : (putS ordS st3).2 ≤ 200000071 := by
        have h1 := ordS_len 19 st3
        rw [HT19.out] at h1
        have := HL3.out
        omega
      rw [HT19.out] at HSW
      obtain ⟨st4, hst4⟩ : ∃ st, st = putS ordS st3 := ⟨_, rfl⟩
      rw [← hst4] at HE HSW hl4
      have e10 := HA3.out _ _ HSW.out
      have x3 := e10.cell (i := 3) (by simp)
      have x4 := e10.cell (i := 4) (by simp)
      have y3 := e10.blk.2
      obtain ⟨vb4, hv4, hb4, hf4⟩ := HSW.out
      have hBr : B ≤ wr.heap.size := Nat.le_trans hBw (Nat.le_trans (Nat.le_of_lt hl1) hb4.size)
      have HFR : Hid (Fr g vb0 vb4 w (wr.alloc (.cells #[.slice o1 n1 c1, .slice o2 n2 c2] 39))) := Lib.hid ((((Fr.refl g vb0 w).below (below_alloc w (.cells #[.bool f, .int .i64 k, .int .i64 z, .slice o1 n1 c1, .slice o2 n2 c2] 87))).trans hf4).below (below_alloc wr _))
      have HBW : Hid (Below B w (wr.alloc (.cells #[.slice o1 n1 c1, .slice o2 n2 c2] 39))) := Lib.hid ((HB1.out.trans hb4).alloc hBr _)
      have HS5 := Lib.hid (WSt.start (hv4.up (below_alloc wr (.cells #[.slice o1 n1 c1, .slice o2 n2 c2] 39))))
      have hro := own_lit wr wr.heap.size #[.slice o1 n1 c1, .slice o2 n2 c2] 39 (by simp) (Nat.le_refl _)
      have HRO : Hid (Own (wr.alloc (.cells #[.slice o1 n1 c1, .slice o2 n2 c2] 39)) wr.heap.size 39 (.slice (some ⟨wr.heap.size, 0, none⟩) 2 2) [.slice o1 n1 c1, .slice o2 n2 c2]) := Lib.hid hro
      have hgr : g < wr.heap.size := hv4.box.lt
      have hvb4 : ∀ q, vb4.ownBlock = some q → q < wr.heap.size := fun q hq => (hv4.own.lt q hq).2
      have hrd : Hd (wr.alloc (.cells #[.slice o1 n1 c1, .slice o2 n2 c2] 39)) (some ⟨wr.heap.size, 0, none⟩) 2 2 wr.heap.size 0 := ⟨fun _ => rfl, Nat.le_refl _, by decide, by decide, fun _ => by simp⟩
      have HRIX := Lib.hid (fun (W : World) (m : Nat) (hm : m < 2) => index_any (P := Try.prog) 140 39 Try.underlying140 (by kernel_rfl) hrd W .i64 (m : Int) (by omega) (by omega))
      have HI : Hid (∃ stI : Nat → Nat × Nat, stI 0 = st4 ∧ stI 1 = putS (codS l1) st4 ∧ stI 2 = putS (codS l2) (putS (codS l1) st4)) := Lib.hid ⟨fun m => match m with | 0 => st4 | 1 => putS (codS l1) st4 | _ => putS (codS l2) (putS (codS l1) st4), rfl, rfl, rfl⟩
      obtain ⟨stI, hi0, hi1, hi2⟩ := HI.out
      have HI2 := Lib.hid hi2
      have HKEY : Hid (∀ m, m < 2 → ∃ o n c l, ([Value.slice o1 n1 c1, Value.slice o2 n2 c2].getD m undef) = .slice o n c ∧ (∀ W, Below B w W → IntsAt W (.slice o n c) (nls l)) ∧ n = l.length ∧ (∀ j, j < l.length → l.getD j 0 ≤ 15) ∧ putS (codS l) (stI m) = stI (m + 1) ∧ n ≤ 286 ∧ (stI m).2 ≤ 400000000) := Lib.hid (fun m hm => by
        match m, hm with
        | 0, _ => exact ⟨o1, n1, c1, l1, rfl, HU1.out, HN1.out.symm, fun j hj => H15a.out j (by have := HN1.out; omega), by rw [hi0, hi1], hn1', by rw [hi0]; omega⟩
        | 1, _ => exact ⟨o2, n2, c2, l2, rfl, HU2.out, HN2.out.symm, fun j hj => H15b.out j (by have := HN2.out; omega), by rw [hi1, hi2], by omega, by rw [hi1, codS_len, HN1.out]; omega⟩
        | m + 2, h => omega)
      have HI0 := Lib.hid hi0
      clear hst4 e10 HSW hv4 hb4 hf4 hro hrd hi0 hi1 hi2 HI HT19 HL3 HA3 HC3 HOA HU1 HU2 H15a H15b
      go_wp2
      generalize wr.alloc (.cells #[.slice o1 n1 c1, .slice o2 n2 c2] 39) = w5 at *
      generalize wr.heap.size = rb at *
      go_loopg [41] 3 (fun gk i W => ∃ m, m ≤ 2 ∧ i = .int .i64 (m : Nat) ∧ WSt w5 B g vb4 (stI m) W ∧ gk = 3 - m)
      case atStart => exact ⟨0, Nat.zero_le _, rfl, by rw [HI0.out]; exact HS5.out, rfl⟩
      case round =>
        clear HS5 HI0
        obtain ⟨m, hm, rfl, hs, hgk⟩ := hrel
        have HSW := Lib.hid hs
        clear hs
        by_cases hlt : m < 2
        · have hmi : (m : Int) < 2 := by omega
          obtain ⟨o, n, c, l, hcell0, hul, hnl, h15, hst, hn286, hle⟩ := HKEY.out m hlt
          have hro2 := HSW.out.own HRO.out (fun e => by have e2 : some rb = some g := e; injection e2 with e2; omega) (fun q hq e => by have e2 : some rb = some q := hq; injection e2 with e2; have := hvb4 q e; omega)
          have hcell := hro2.cell (i := m) (by simpa using hlt)
          rw [hcell0] at hcell
          have hrbw := hro2.blk.2
          have hix := fun W => HRIX.out W m hlt
          simp only [Nat.zero_add, Int.toNat_natCast] at hix
          have HUL := Lib.hid hul
          have HNL := Lib.hid hnl
          have H15 := Lib.hid h15
          have HSTM := Lib.hid hst
          clear hcell0 hul hnl h15 hst hro2
          go_wp2
          go_loopg [47] (n + 1) (fun gq i W => ∃ q, q ≤ n ∧ i = .int .i64 (q : Nat) ∧ WSt w5 B g vb4 (putS (codS (l.take q)) (stI m)) W ∧ gq = n + 1 - q)
          case atStart => exact ⟨0, Nat.zero_le _, rfl, by simpa [codS, putS] using HSW.out, rfl⟩
          case round =>
            clear HSW hcell hrbw hix
            obtain ⟨q, hq, rfl, hs2, hgq⟩ := hrel
            have HSQ := Lib.hid hs2
            clear hs2
            by_cases hlq : q < n
            · have hqi : (q : Int) < (n : Int) := by omega
              have hql : q < l.length := by have := HNL.out; omega
              obtain ⟨oa', cap', b', off', hv', hd', hc'⟩ := (HUL.out _ (HBW.out.trans HSQ.out.bel)).open
              rw [nls_length, ← HNL.out] at hv' hd'
              rw [nls_length] at hc'
              injection hv' with q1 q2 q3
              subst q1 q3
              have hix2 := index_any (P := Try.prog) 39 3 Try.underlying39 (by kernel_rfl) hd'
              have hbb := hd'.hblk (by omega)
              have hx := hc' q hql
              rw [nls_getD] at hx
              have hx15 := H15.out q hql
              have HCK : Hid (putS (codS (l.take (q + 1))) (stI m) = ((putS (codS (l.take q)) (stI m)).1 + turnN (l.getD q 0) 4 * 2 ^ (putS (codS (l.take q)) (stI m)).2, (putS (codS (l.take q)) (stI m)).2 + 4)) := Lib.hid (by rw [codS_take l q hql, putS_snoc])
              have hlen : (putS (codS (l.take q)) (stI m)).2 ≤ 500000000 := by rw [codS_len, List.length_take]; omega
              have hx16 : l.getD q 0 < 2 ^ 4 := by omega
              have HPC := Lib.hid (codeW HSQ.out (l.getD q 0) 4 hx16 (by omega) (by omega))
              rw [show ((4 : Nat) : Int) = 4 from rfl] at HPC
              have hm' := hd'.len
              clear hc' hd' H15 hx16
              generalize l.getD q 0 = y at *
              go_wp2_with (go_at_call 94; (with_reducible refine HPC.out.mono ?_); rintro e w6 ⟨rfl, hqq⟩; have HQ := Lib.hid hqq; clear hqq)
              go_roundg (n + 1 - (q + 1))
              case measure => omega
              case rel => exact ⟨q + 1, by omega, by go_num, by rw [HCK.out]; exact HQ.out, rfl⟩
            · obtain rfl : q = n := by omega
              have HF : Hid (putS (codS (l.take q)) (stI m) = stI (m + 1)) := Lib.hid (by rw [List.take_of_length_le (by have := HNL.out; omega)]; exact HSTM.out)
              rw [HF.out] at HSQ
              clear hlq
              go_wp2
              go_roundg (3 - (m + 1))
              case measure => omega
              case rel => exact ⟨m + 1, by omega, by go_num, HSQ.out, rfl⟩
        · obtain rfl : m = 2 := by omega
          clear hlt
          go_wp2
          go_end0
          refine ⟨rfl, ?_⟩
          rw [HE.out, ← HI2.out]
          obtain ⟨vb, h1, h2, h3⟩ := HSW.out
          exact ⟨vb, h1, HBW.out.trans h2, HFR.out.trans h3⟩
end Go.Cm
