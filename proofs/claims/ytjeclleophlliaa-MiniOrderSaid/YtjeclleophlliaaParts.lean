/- The walk of mini.parts. Conditions: the automaton is one. -/
import Derived.Test.YtjeclleophlliaaLook
import Derived.Test.YtjeclleophlliaaMap
import Derived.Test.YtjeclleophlliaaReachP
import Derived.Deep.LoopGhost
import Derived.StringKeys
namespace Go.Cm
open Go.RowKit Go.Proofs Go.Maps

theorem keyed_string : Keyed Try.prog 9 := string_keyed Try.underlying9
theorem zero_int (w : World) : (zeroValue 3).run Try.prog w = .ok (.int .i64 0) w := by kernel_rfl

/-- the call hands back each state's part -/
def RetPart (d : Dfa) (w : World) (e : Ending) (w' : World) : Prop := ∃ r part, e = .returned r ∧ IntsAt w' r part ∧ PartOk d part ∧ Below w.heap.size w w'
theorem valid_mem {d : Dfa} (h : Valid d) {i : Nat} (hi : i < d.next.length) : ∀ to ∈ d.next.getD i [], 0 ≤ to ∧ to < d.next.length := by
  obtain ⟨_, _, _, k, hk, hr⟩ := h
  obtain ⟨-, -, -, hj⟩ := hr i hi
  intro to ht
  obtain ⟨j, hjl, rfl⟩ := List.mem_iff_getElem.1 ht
  have := hj j hjl
  rwa [List.getD_eq_getElem?_getD (l := d.next.getD i []), List.getElem?_eq_getElem hjl, Option.getD_some] at this
theorem ext_getD {l m : List Int} (hl : l.length = m.length) (h : ∀ i, i < l.length → l.getD i 0 = m.getD i 0) : l = m := by
  apply List.ext_getElem hl
  intro i h1 h2
  have := h i h1
  rwa [List.getD_eq_getElem?_getD, List.getD_eq_getElem?_getD, List.getElem?_eq_getElem h1, List.getElem?_eq_getElem h2, Option.getD_some, Option.getD_some] at this

theorem valid_len {d : Dfa} (h : Valid d) (hc : d.cls.length = 256) {i : Nat} (hi : i < d.next.length) : (d.next.getD i []).length ≤ 1000 := by
  obtain ⟨_, _, _, k, hk, hr⟩ := h
  obtain ⟨-, -, hl, -⟩ := hr i hi
  have h1 := (classesFrom_mono d.cls 0 k hk).2
  omega
theorem lookS_len {d : Dfa} (h : Valid d) (hc : d.cls.length = 256) (p : List Int) {i : Nat} (hi : i < d.next.length) : (lookS d p i).length ≤ 2002 := by
  have h1 := valid_len h hc hi
  have e : ∀ l : List Int, (l.flatMap fun to => enc2 (p.getD to.toNat 0)).length = 2 * l.length := by
    intro l; induction l with
    | nil => rfl
    | cons a l ih => rw [List.flatMap_cons, List.length_append, ih]; simp [enc2]; omega
  rw [lookS, List.length_append, e]
  have h2 : (enc2 (p.getD i 0)).length = 2 := rfl
  omega
theorem take_succ_sigs (d : Dfa) (p : List Int) {k : Nat} (hk : k < d.next.length) : (sigs d p).take (k + 1) = (sigs d p).take k ++ [lookS d p k] := by
  rw [List.take_add_one, sigs_getElem d p hk]; rfl

set_option maxRecDepth 100000 in
set_option maxHeartbeats 4000000 in
theorem parts (v : Value) (d : Dfa) (w : World) (h : DfaAt w v d) (hv : Valid d) : Calls Try.prog 22 #[v] w (RetPart d w) := by
  have hLk := fun (w' : World) (hb : Below w.heap.size w w') (pv : Value) (part : List Int) (s : Nat) (hp : IntsAt w' pv part) hs1 hs2 hrow hlen => look v pv d part s w' (h.up hb) hp hs1 hs2 hrow hlen
  obtain ⟨A, rfl, hs, hl, hc, ⟨vn, hn, hrw⟩, ⟨vr, hr, hru⟩⟩ := h
  obtain ⟨oa, cap, b, off, rfl, hd, -⟩ := hrw.open
  obtain ⟨oq, capq, bq, offq, rfl, hdq, hrq⟩ := hru.open
  have hixq := index_any (P := Try.prog) 24 3 Try.underlying24 (by kernel_rfl) hdq
  have HLK := Lib.hid hLk; clear hLk
  have HS := Lib.hid hs; clear hs hc
  have HG := Lib.hid (heap_alloc_new w (.cells A 26))
  have HQ := Lib.hid hrq; clear hrq
  have hn1 := hv.1
  have hn2 := hv.2.1
  have hrl := hv.2.2.1
  have HRL := Lib.hid hrl
  have hbq := hdq.hblk (by omega)
  have hr1000 : d.rules.length ≤ 1000 := by omega
  have HRG : Hid (∀ i, i < d.next.length → -1 ≤ d.rules.getD i 0 ∧ d.rules.getD i 0 < 32) := Lib.hid (fun i hi => by
    obtain ⟨_, _, _, k, hk, hr⟩ := hv; exact ⟨(hr i hi).1, (hr i hi).2.1⟩)
  have HLC := Lib.hid hl; clear hl
  have HV := Lib.hid hv; clear hv hrl
  have hmk := run_mk (P := Try.prog) 24 3 (.int .i64 0) 8 d.next.length Try.underlying24 (by kernel_rfl) rfl (by decide) (by omega)
  obtain ⟨Mb, hM⟩ : ∃ M, M = madeCells #[Value.int .i64 0] d.next.length := ⟨_, rfl⟩
  rw [← hM] at hmk
  have HM : Hid (Mb.toList = ints (List.replicate d.next.length 0)) := Lib.hid (by rw [hM, toList_madeCells_one, ints_replicate])
  have HMS : Hid (Mb.size = d.next.length) := Lib.hid (by rw [hM, size_madeCells])
  clear hM
  have hmm := @run_makeMap Try.prog
  have HO1 : Hid (Own ((w.alloc (.cells A 26)).alloc (.cells Mb 3)) (w.heap.size + 1) 3 (.slice (some ⟨w.heap.size + 1, 0, none⟩) d.next.length d.next.length) (ints (List.replicate d.next.length 0))) := Lib.hid (by
    have h1 := own_lit (w.alloc (.cells A 26)) (w.heap.size + 1) Mb 3 (by rw [HMS.out]; omega) (by simp)
    rw [HM.out, HMS.out] at h1
    simpa using h1)
  have HB1 : Hid (Below (w.heap.size + 1) (w.alloc (.cells A 26)) ((w.alloc (.cells A 26)).alloc (.cells Mb 3))) := Lib.hid ((Below.refl _ _).alloc (by simp) _)
  go_enter Try.func22, Try.ntmps22
  go_wp2
  go_step3
  go_wp2
  go_loopg [20] (d.next.length + 1) (fun gk i wr => ∃ (k : Nat) (p : List Int), k ≤ d.next.length ∧ i = .int .i64 k ∧ Own wr (w.heap.size + 1) 3 (.slice (some ⟨w.heap.size + 1, 0, none⟩) d.next.length d.next.length) (ints p) ∧ Hid (p.length = d.next.length) ∧ Hid (∀ a, a < k → p.getD a 0 = d.rules.getD a 0 + 1) ∧ Below (w.heap.size + 1) (w.alloc (.cells A 26)) wr ∧ gk = d.next.length + 1 - k)
  case atStart => exact ⟨0, _, Nat.zero_le _, rfl, HO1.out, Lib.hid (by simp), Lib.hid (fun a ha => absurd ha (Nat.not_lt_zero a)), HB1.out, rfl⟩
  case round =>
    clear HO1 HB1
    obtain ⟨k, p, hk, rfl, hown, HPL, HPV, hbel, rfl⟩ := hrel
    have hsz : w.heap.size + 1 ≤ wr.heap.size := by have := hbel.size; simpa using this
    have HB := Lib.hid hbel; clear hbel
    have HO := Lib.hid hown; clear hown
    by_cases hlt : k < d.next.length
    · have hlt' : k < d.rules.length := by rw [HRL.out]; exact hlt
      have hq := HQ.out k hlt'
      have hcq : wr.cell? ⟨bq, offq + k, none⟩ = _ := (HB.out.cell (p := ⟨bq, offq + k, none⟩) (Nat.lt_succ_of_lt hbq)).trans ((World.cell?_alloc_past _ _ _ hbq).trans hq)
      have hbq2 : bq < wr.heap.size := by omega
      obtain ⟨hr1, hr2⟩ := HRG.out k hlt
      have hc4 : wr.cell? ⟨w.heap.size + 1, k, none⟩ = some (.int .i64 (p.getD k 0)) := by
        rw [HO.out.cell (by rw [ints_length, HPL.out]; exact hlt), ints_getD p k (by rw [HPL.out]; exact hlt)]
      have hf4 : wr.frozen? ⟨w.heap.size + 1, k, none⟩ = false := HO.out.free k
      have HST := Lib.hid (HO.out.store k (.int .i64 (d.rules.getD k 0 + 1)))
      rw [ints_set] at HST
      have HNV : Hid (∀ a, a < k + 1 → (p.set k (d.rules.getD k 0 + 1)).getD a 0 = d.rules.getD a 0 + 1) := Lib.hid (fun a ha => by
        rw [getD_set]
        rcases Nat.lt_succ_iff_lt_or_eq.1 ha with h1 | rfl
        · rw [if_neg (by omega)]; exact HPV.out a h1
        · rw [if_pos ⟨rfl, by rw [HPL.out]; exact hlt⟩])
      have hlr : (k : Int) < (d.rules.length : Int) := by omega
      generalize d.rules.getD k 0 = y at *
      generalize p.getD k 0 = y0 at *
      clear hq
      go_wp2
      go_roundg (d.next.length + 1 - (k + 1))
      case measure => omega
      case rel => exact ⟨k + 1, p.set k (y + 1), by omega, by go_num, HST.out.1, Lib.hid (by simp [HPL.out]), Lib.hid HNV.out, HB.out.setCell (Nat.le_refl _) _, rfl⟩
    · have hkn : k = d.next.length := by omega
      have HP0 : Hid (PInv d p) := Lib.hid (PInv.start HV.out p HPL.out (fun i hi => HPV.out i (by omega)))
      have hge : ¬ ((k : Int) < (d.rules.length : Int)) := by rw [HRL.out]; omega
      clear HPV hkn hixq hlt
      go_wp2
      go_step3
      go_wp2
      have HO0 : Hid (Own wr (w.heap.size + 1) 3 (.slice (some ⟨w.heap.size + 1, 0, none⟩) d.next.length d.next.length) (ints p)) := Lib.hid HO.out
      generalize hp0 : p = p1 at HO0 HP0
      clear HO hp0 HPL
      have HB2 : Hid (Below (w.heap.size + 1) (w.alloc (.cells A 26)) wr) := Lib.hid HB.out
      clear HB
      go_loopg [3, 6] (d.next.length + 1) (fun gk vp s6 wq => ∃ (p : List Int) (cnt : Nat), s6 = .int .i64 cnt ∧ Own wq (w.heap.size + 1) 3 vp (ints p) ∧ Hid (PInv d p) ∧ cnt ≤ d.next.length ∧ Hid (cnt = 0 ∨ cnt = (uniq p).length) ∧ Below (w.heap.size + 1) (w.alloc (.cells A 26)) wq ∧ gk = d.next.length + 1 - cnt)
      case atStart => exact ⟨p1, 0, rfl, HO0.out, HP0, Nat.zero_le _, Lib.hid (.inl rfl), HB2.out, rfl⟩
      case round =>
        clear HO0 HB2 HP0
        revert wr; intro wo hrel
        obtain ⟨p, cnt, rfl, hown, HP, hcn, HCT, hbel, rfl⟩ := hrel
        have hpl : (ints p).length = d.next.length := by rw [ints_length, HP.out.len]
        obtain ⟨oz, cz, gz, rfl, -⟩ := hown.cases
        rw [hpl] at hown ⊢
        have hsz : w.heap.size + 1 ≤ wo.heap.size := by have := hbel.size; simpa using this
        have hbw : Below w.heap.size w wo := (below_alloc w _).trans (hbel.mono (by omega))
        have HW := Lib.hid hbw; clear hbw
        have HB := Lib.hid hbel; clear hbel
        have HO := Lib.hid hown; clear hown hpl
        have HSL : Hid ((sigs d p).length = d.next.length) := Lib.hid (sigs_len d p)
        have HO1 : Hid (Own ((wo.alloc (.map #[] 0)).alloc (.cells Mb 3)) (wo.heap.size + 1) 3 (.slice (some ⟨wo.heap.size + 1, 0, none⟩) d.next.length d.next.length) (ints (List.replicate d.next.length 0))) := Lib.hid (by
          have h1 := own_lit (wo.alloc (.map #[] 0)) (wo.heap.size + 1) Mb 3 (by rw [HMS.out]; omega) (by simp)
          rw [HM.out, HMS.out] at h1
          simpa using h1)
        have HMP : Hid (OwnMap Try.prog 9 3 (fun s : List UInt8 => Lit.string s) ((wo.alloc (.map #[] 0)).alloc (.cells Mb 3)) wo.heap.size []) := Lib.hid ((OwnMap.made wo _).up (below_alloc _ _))
        have HB1 : Hid (Below wo.heap.size wo ((wo.alloc (.map #[] 0)).alloc (.cells Mb 3))) := Lib.hid (by repeat (first | exact Below.refl _ _ | assumption | refine b_drewN ?_ _ | refine Below.drew ?_ | refine b_ext' ?_ _ | refine b_alloc' ?_ _))
        clear HM HMS
        go_wp2
        go_loopg [37] (d.next.length + 1) (fun gk i wq => ∃ (k : Nat) (nx : List Int), k ≤ d.next.length ∧ i = .int .i64 k ∧ OwnMap Try.prog 9 3 (fun s : List UInt8 => Lit.string s) wq wo.heap.size (uniq ((sigs d p).take k)) ∧ Own wq (wo.heap.size + 1) 3 (.slice (some ⟨wo.heap.size + 1, 0, none⟩) d.next.length d.next.length) (ints nx) ∧ Hid (nx.length = d.next.length) ∧ Hid (∀ a, a < k → nx.getD a 0 = (nextPart d p).getD a 0) ∧ Below wo.heap.size wo wq ∧ gk = d.next.length + 1 - k)
        case atStart => exact ⟨0, _, Nat.zero_le _, rfl, HMP.out, HO1.out, Lib.hid (by simp), Lib.hid (fun a ha => absurd ha (Nat.not_lt_zero a)), HB1.out, rfl⟩
        case round =>
          clear HO1 HMP HB1 hmm hmk
          obtain ⟨k, nx, hk, rfl, hmap, hown, HNL, HNV, hbel, rfl⟩ := hrel
          have hsz2 : wo.heap.size ≤ wr.heap.size := hbel.size
          have HB1 := Lib.hid hbel; clear hbel
          have HN := Lib.hid hown; clear hown
          have HP1 : Hid (IntsAt wr (.slice oz d.next.length cz) p) := Lib.hid ((HO.out.up HB1.out).sl)
          have HBB : Hid (Below w.heap.size w wr) := Lib.hid (HW.out.trans (HB1.out.mono (by omega)))
          have HG1 : Hid (wr.heap[w.heap.size]? = some (.cells A 26)) := Lib.hid (by
            rw [HB1.out.block _ (by omega), HB.out.block _ (by omega)]; exact HG.out)
          by_cases hlt : k < d.next.length
          · have hlk := HLK.out wr HBB.out (.slice oz d.next.length cz) p k HP1.out hlt (by rw [HP.out.len]; exact hlt) (by rw [HP.out.len]; exact valid_mem HV.out hlt) (valid_len HV.out HLC.out hlt)
            have HT1 := Lib.hid (take_succ_sigs d p hlt)
            have HNP := Lib.hid (nextPart_getD d p hlt)
            have HTL := Lib.hid (lookS_len HV.out HLC.out p hlt)
            have HAP := Lib.hid (fun (x : List UInt8) hx => idxOf_uniq_append ((sigs d p).take (k + 1)) ((sigs d p).drop (k + 1)) (x := x) hx)
            rw [List.take_append_drop] at HAP
            generalize lookS d p k = t at *
            have hkey : keyOf Try.prog 9 (.string ⟨t.toArray⟩) = some (.string t) := by
              have := Go.WideMaps.keyOf_string_mk (P := Try.prog) (k := 9) Try.underlying9 (s := ⟨t.toArray⟩) (by have := HTL.out; show t.toArray.size ≤ _; simp [maxLen]; omega)
              simpa using this
            obtain ⟨D, hD, hM⟩ := hmap
            have HM := Lib.hid hM; clear hM
            have HD := Lib.hid hD; clear hD
            have HKL : Hid ((uniq ((sigs d p).take k)).length ≤ k) := Lib.hid (by have := uniq_len ((sigs d p).take k); simp at this; omega)
            have HLK := Lib.hid hlk; clear hlk
            have HKEY := Lib.hid hkey; clear hkey
            have hcn4 : ∀ x, (ext wr x).cell? ⟨wo.heap.size + 1, k, none⟩ = some (.int .i64 (nx.getD k 0)) := fun x => by
              rw [(HN.out.up (ext_below wr x)).cell (by rw [ints_length, HNL.out]; exact hlt), ints_getD nx k (by rw [HNL.out]; exact hlt)]
            have hfn4 : ∀ x, (ext wr x).frozen? ⟨wo.heap.size + 1, k, none⟩ = false := fun x => (HN.out.up (ext_below wr x)).free k
            generalize nx.getD k 0 = y0 at *
            by_cases hmem : t ∈ uniq ((sigs d p).take k)
            · have HHAS : Hid (Maps.has D (.string t) = true) := Lib.hid (by rw [HM.out.2.2.1 t]; simpa using hmem)
              have HMEM := Lib.hid hmem; clear hmem
              go_wp2_with (first | (refine load_dfa rfl _ rfl w.heap.size rfl A HS.out HG1.out ?_) | (go_at_call 29; refine HLK.out.mono ?_; rintro e w' ⟨rfl, x, rfl⟩) | (at_lookup; go_loud (refine wpList_lookup_own_ok_int _ rfl _ _ 51 rfl 9 3 .i64 keyed_string Try.underlying51 Try.underlying3 (zero_int _) wo.heap.size _ D rfl (HD.out.kept (grown_below (ext_below wr _) none) (by simp)) _ _ rfl HKEY.out ?_; intro c hat hwc; rw [HHAS.out]; have hce := HM.out.at_eq HMEM.out hat; subst hce; clear hat hwc)))
              go_roundg (d.next.length + 1 - (k + 1))
              case measure => omega
              case rel =>
                have HST := (HN.out.up (ext_below wr x)).store k (.int .i64 (idx (uniq ((sigs d p).take k)) t : Nat))
                rw [ints_set] at HST
                refine ⟨k + 1, nx.set k (idx (uniq ((sigs d p).take k)) t : Nat), by omega, by go_num, ?_, HST.1, Lib.hid (by simp [HNL.out]), Lib.hid (fun a ha => ?_), (b_ext HB1.out hsz2 x).setCell (Nat.le_succ _) _, rfl⟩
                · rw [HT1.out, uniq_snoc, addNew, if_pos HMEM.out]
                  exact OwnMap.keep ⟨D, HD.out, HM.out⟩ (grown_trans (grown_below (ext_below wr x) _) HST.2) (by simp)
                · rw [getD_set]
                  rcases Nat.lt_succ_iff_lt_or_eq.1 ha with h1 | rfl
                  · rw [if_neg (by omega)]; exact HNV.out a h1
                  · rw [if_pos ⟨rfl, by rw [HNL.out]; exact hlt⟩, HNP.out, HAP.out t (by rw [HT1.out]; simp), HT1.out, uniq_snoc, addNew, if_pos HMEM.out]
            · have HHAS : Hid (Maps.has D (.string t) = false) := Lib.hid (by rw [HM.out.2.2.1 t]; simpa using hmem)
              have HMEM := Lib.hid hmem; clear hmem
              go_wp2_with (first | (refine load_dfa rfl _ rfl w.heap.size rfl A HS.out HG1.out ?_) | (go_at_call 29; refine HLK.out.mono ?_; rintro e w' ⟨rfl, x, rfl⟩; have HX := Lib.hid (grown_below (ext_below wr x) (some wo.heap.size)); have HXN := Lib.hid (HN.out.up (ext_below wr x))) | (at_lookup; go_loud (refine wpList_lookup_own_ok_int _ rfl _ _ 51 rfl 9 3 .i64 keyed_string Try.underlying51 Try.underlying3 (zero_int _) wo.heap.size _ D rfl (HD.out.kept (grown_below (ext_below wr _) none) (by simp)) _ _ rfl HKEY.out ?_; intro c hat hwc; rw [HHAS.out]; clear hat hwc)) | (at_len; go_loud (refine wpList_len_own _ rfl _ 51 rfl 9 3 Try.underlying51 _ wo.heap.size _ D rfl (HD.out.kept (grown_below (ext_below wr _) none) (by simp)) ?_; rw [HM.out.2.1])) | (at_mapUpdate; go_loud (refine wpList_mapUpdate_own _ rfl _ _ _ 51 rfl 9 3 keyed_string Try.underlying51 _ wo.heap.size _ D rfl (HD.out.kept (grown_below (ext_below wr _) none) (by simp)) (by have := HKL.out; unfold maxLen; omega) _ _ _ rfl rfl HKEY.out _ [] (plainElem_int Try.underlying3 (wf64 _ (by have := HKL.out; omega))) ?_; intro w1 hown1 hgrow1; have HX1 := Lib.hid (HXN.out.keep hgrow1 (by simp [Value.ownBlock])); have HD1 := Lib.hid hown1; have HG2 := Lib.hid hgrow1; have hcn5 := HX1.out.cell (i := k) (by rw [ints_length, HNL.out]; exact hlt); rw [ints_getD nx k (by rw [HNL.out]; exact hlt)] at hcn5; have hfn5 := HX1.out.free k; clear hown1 hgrow1)))
              go_roundg (d.next.length + 1 - (k + 1))
              case measure => omega
              case rel =>
                have HST := HX1.out.store k (.int .i64 ((uniq ((sigs d p).take k)).length : Nat))
                rw [ints_set] at HST
                refine ⟨k + 1, nx.set k ((uniq ((sigs d p).take k)).length : Nat), by omega, by go_num, ?_, HST.1, Lib.hid (by simp [HNL.out]), Lib.hid (fun a ha => ?_), ((b_ext HB1.out hsz2 x).grown HG2.out (b_ext HB1.out hsz2 x).size (fun j hj => by cases hj; exact Nat.le_refl _)).setCell (Nat.le_succ _) _, rfl⟩
                · rw [HT1.out, uniq_snoc, addNew, if_neg HMEM.out]
                  refine OwnMap.keep ⟨_, ?_, HM.out.snoc litString HMEM.out⟩ HST.2 (by simp)
                  rw [List.length_append]
                  exact HD1.out
                · rw [getD_set]
                  rcases Nat.lt_succ_iff_lt_or_eq.1 ha with h1 | rfl
                  · rw [if_neg (by omega)]; exact HNV.out a h1
                  · rw [if_pos ⟨rfl, by rw [HNL.out]; exact hlt⟩, HNP.out, HAP.out t (by rw [HT1.out]; simp), HT1.out, uniq_snoc, addNew, if_neg HMEM.out, idxOf_append_new HMEM.out]
          · have hkn : k = d.next.length := by omega
            subst hkn
            have HNX : Hid (nx = nextPart d p) := Lib.hid (ext_getD (by rw [HNL.out, (PInv.next HV.out HP.out).len]) (fun i hi => HNV.out i (by rw [← HNL.out]; exact hi)))
            have hst : (sigs d p).take d.next.length = sigs d p := List.take_of_length_le (by rw [HSL.out]; exact Nat.le_refl _)
            rw [hst] at hmap
            clear hst HNV
            obtain ⟨D, hD, hM⟩ := hmap
            have HM := Lib.hid hM; clear hM
            have HD := Lib.hid hD; clear hD
            have HUL : Hid ((uniq (sigs d p)).length ≤ d.next.length) := Lib.hid (by rw [← HSL.out]; exact uniq_len _)
            have HU1 : Hid (0 < (uniq (sigs d p)).length) := Lib.hid (List.length_pos_of_mem ((mem_uniq _ _).2 (mem_sigs d p (i := 0) (by omega))))
            have HC1 : Hid (cnt ≤ (uniq (sigs d p)).length) := Lib.hid (by
              rcases HCT.out with h | h
              · omega
              · rw [h]; exact uniq_part_le HP.out)
            by_cases hcc : ((uniq (sigs d p)).length : Int) = (cnt : Int)
            · have HCC := Lib.hid hcc
              go_wp2_with (at_len; go_loud (refine wpList_len_own _ rfl _ 51 rfl 9 3 Try.underlying51 _ wo.heap.size _ D rfl HD.out ?_; rw [HM.out.2.1]))
              try rw [Exit.noGoto_ret]
              go_ret
              refine ⟨_, _, rfl, HN.out.sl, ?_, HBB.out⟩
              rw [HNX.out]
              refine PInv.ok HV.out HP.out ?_
              have h1 := HCC.out
              rcases HCT.out with h | h
              · have := HU1.out; omega
              · omega
            · have HCC := Lib.hid hcc
              go_wp2_with (at_len; go_loud (refine wpList_len_own _ rfl _ 51 rfl 9 3 Try.underlying51 _ wo.heap.size _ D rfl HD.out ?_; rw [HM.out.2.1]))
              go_roundg (d.next.length + 1 - (uniq (sigs d p)).length)
              case measure => have := HUL.out; have := HC1.out; have := HCC.out; omega
              case rel => exact ⟨nextPart d p, (uniq (sigs d p)).length, rfl, by rw [← HNX.out]; exact HN.out.mono (by omega), Lib.hid (PInv.next HV.out HP.out), HUL.out, Lib.hid (.inr (uniq_nextPart p).symm), HB.out.trans (HB1.out.mono hsz), rfl⟩
end Go.Cm
