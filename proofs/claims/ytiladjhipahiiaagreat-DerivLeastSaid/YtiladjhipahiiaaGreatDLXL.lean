/- Walks of functions and plain facts, joined and squeezed by a program. Conditions: as each says. -/
import Derived.Test.YtiladjhipahiiaaGreatDLXJ
set_option maxHeartbeats 8000000
set_option maxRecDepth 100000
set_option linter.unusedSimpArgs false
open Go.Proofs.Tryz
namespace Go.Cm
open Go.RowKit Go.Proofs
theorem ZmL0{P:Prop}(h:P:=by
 repeat(go_big_quiet_step ((go_at_call 84;(with_reducible exact dH (qfN.o _ (HE1.o.box.up (aE _ _)))))))
 refine wpQuiet_nil ?_;intro w2 hw2;have HE2:=qa (HE1.o.ext hw2);have c12:=HE2.o.box.c1;clear hw2 c0 c1 hg1
 go_wp2_with(first
  |((with_reducible refine(HF.o _ HE2.o.box).mono ?_);rintro e w3 ⟨rfl,hB,hg⟩;have HE3:=qa (HE2.o.act hB hg);clear hB hg)
  |(refine b7 rfl _ _ rfl w.heap.size rfl _ 0 HZV.o HE3.o.set ?_;intro w4 hB2 hg2;have HE4:=qa (HE3.o.store hB2 hg2);clear hB2 hg2))
 refine bS (s:=2) (b:=3) (ad:=⟨w.heap.size,0,none⟩) (x:=fR 0) (y:=.bool false) rfl rfl rfl rfl HE4.o.set.load ?_;exact⟨0,false,_,rfl,HL0.o,HE4.o.qs,Al.fault _ HR.o HPF.o.2.2 HPF.o.1 HPF.o.2.1⟩):P:=h
theorem ZmL1{P:Prop}(h:P:=by
 have hr' := hr.symm
 clear hr HHB HR3 HXR qd6
 go_wp2_with (first
   | ((with_reducible refine (HH1.o _).mono ?_); rintro e w2 ⟨rfl, hx⟩; have HE2 := qa (HE0.o.ext hx); have c22 := HE2.o.box.c0; clear hx)
   | ((with_reducible refine (HH2.o _).mono ?_); rintro e w3 ⟨rfl, hx⟩; have HE3 := qa (HE2.o.ext hx); clear hx))
 go_meet
 case rel => exact ⟨by rw [HB2.o], HE3.o⟩):P:=h
theorem dY.keepP{w w':World}{g b:Nat}{s:ByteArray}{z:PS}(h:dY w g s z)(hg:w.grownBy w' (some b))(hne:b≠g):dY w' g s z:=h.keep hg (fun e=>hne (by injection e))
structure QEs(w0 w:World)(g:Nat)(s:ByteArray)(z:PS)(b x:Nat):Prop where
 box:dY w g s z
 set:lB w b x
 gr:w0.grownBy w (some g)
 lo:w0.heap.size<=b
 gl:g<w0.heap.size
section
variable {w0 w w' : World} {g : Nat} {s : ByteArray} {z : PS} {b x : Nat}
theorem QEs.ext(h:QEs w0 w g s z b x)(hx:∃y,w'=ext w y):QEs w0 w' g s z b x:=
 have hb:=aI hx
 ⟨h.box.up hb,h.set.up hb,aL h.gr (aK hb _),h.lo,h.gl⟩
theorem QEs.below(h:QEs w0 w g s z b x)(hb:Below w.heap.size w w'):QEs w0 w' g s z b x:=
 ⟨h.box.up hb,h.set.up hb,aL h.gr (aK hb _),h.lo,h.gl⟩
theorem QEs.act{z':PS}(h:QEs w0 w g s z b x)(hB:dY w' g s z')(hg:w.grownBy w' (some g)):QEs w0 w' g s z' b x:=
 ⟨hB,h.set.keepP hg (by have:=h.lo;have:=h.gl;omega),aL h.gr hg,h.lo,h.gl⟩
theorem QEs.store{y:Nat}(h:QEs w0 w g s z b x)(hB:lB w' b y)(hg:w.grownBy w' (some b)):QEs w0 w' g s z b y:=
 ⟨h.box.keepP hg (by have:=h.lo;have:=h.gl;omega),hB,oM h.gr hg (fun k e=>by injection e with e;have:=h.lo;omega),h.lo,h.gl⟩
theorem QEs.far{q:Nat}(h:QEs w0 w g s z b x)(hg:w.grownBy w' (some q))(hq:w0.heap.size<=q)(hqb:q≠b):QEs w0 w' g s z b x:=
 ⟨h.box.keepP hg (by have:=h.gl;omega),h.set.keepP hg hqb,oM h.gr hg (fun k e=>by injection e with e;omega),h.lo,h.gl⟩
theorem QEs.inc(h:QEs w0 w g s z b x):QEs w0 (w.setCell ⟨g,1,none⟩ (.int .i64 ((z.p:Int)+1))) g s (bZ z) b x:=h.act h.box.inc.1 h.box.inc.2
theorem QEs.inc2(h:QEs w0 w g s (bZ z) b x):QEs w0 (w.setCell ⟨g,1,none⟩ (.int .i64 ((z.p:Int)+1+1))) g s (bZ (bZ z)) b x:=h.act h.box.inc2.1 h.box.inc2.2
end
structure Al{α:Type}(n:Nat)(z:PS)(r:α×PS)(x:α)(z':PS):Prop where
 ok:r.2.e=0->z'=r.2/\x=r.1
 bad:r.2.e≠0->z'.e≠0
 le:z.p<=z'.p
 top:z'.p<=n
theorem Al.same{α:Type}{n:Nat}{z:PS}{r:α×PS}{x:α}{z':PS}(h:r=(x,z'))(h1:z.p<=z'.p)(h2:z'.p<=n):Al n z r x z':=by
 subst h;exact⟨fun _=>⟨rfl,rfl⟩,id,h1,h2⟩
theorem Al.fault{α:Type}{n:Nat}{z:PS}{r:α×PS}(x:α){z':PS}(h:r.2.e≠0)(h0:z'.e≠0)(h1:z.p<=z'.p)(h2:z'.p<=n):Al n z r x z':=
 ⟨fun e=>absurd e h,fun _=>h0,h1,h2⟩
def qaW(r:(Nat×Bool)×PS)(g:Nat)(s:ByteArray)(z:PS)(w:World)(e:Ending)(w':World):Prop:=
 ∃x b z',e=.returned (.tuple #[fR x,.bool b])/\x<2^256/\Qs w w' g s z'/\Al s.size z r (x,b) z'
theorem QEs.qs{w0 w:World}{g:Nat}{s:ByteArray}{z:PS}{b x:Nat}(h:QEs w0 w g s z b x):Qs w0 w g s z:=⟨h.box,h.gr,h.gl⟩
theorem q2O(c:UInt8)(W:World):(convert 58 9 (.slice (some ⟨W.heap.size,0,none⟩) 1 1)).run prog (W.alloc (.cells #[.int .u8 (c.toNat:Nat)] 5))=.ok (.string ⟨#[c]⟩) (W.alloc (.cells #[.int .u8 (c.toNat:Nat)] 5)):=
 fW (P:=prog) _ 58 9 5 underlying58 underlying5 underlying9 _ [c] (eK W #[.int .u8 (c.toNat:Nat)] 5 (by simp))
theorem qb9(c:UInt8)(W:World):Calls prog 94 #[.string ⟨#[c]⟩] W (gN (lX c) W):=by
 have:=ofQ ⟨#[c]⟩ (by show 1<=1000000;decide) W;rwa [show bys ⟨#[c]⟩=[c]from rfl,q9l]at this
theorem dY.hop{w:World}{g:Nat}{s:ByteArray}{z:PS}(h:dY w g s z)(r:Nat){v:Int}(hv:v=(r:Int)):dY (w.setCell ⟨g,1,none⟩ (.int .i64 v)) g s ⟨r,z.e,z.b⟩/\w.grownBy (w.setCell ⟨g,1,none⟩ (.int .i64 v)) (some g):=by
 subst hv;exact h.set1 r
theorem q9O(c:UInt8):dgR c<16:=by
 unfold dgR;split
 ·omega
 split<;>omega
theorem qcj(c:UInt8):okD c 16=decide (0<=dgR c):=by unfold okD;rw[qz (q9O c),Bool.and_true]
theorem qbZ {w : World} {g : Nat} {s : ByteArray} {z : PS} {c0 : UInt8} (h : dY w g s z) (hs : s.size ≤ 1000000) (hc0 : nxR (bys s) z = some c0) :
    Calls prog 95 #[.pointer (some ⟨g, 0, none⟩)] w (qaW (M6 (bys s) z) g s z w) := by
  obtain ⟨hz0, hzp, -⟩ := k9 hc0
  rw [cH] at hzp
  have hz := vG
  obtain ⟨Z, hZ⟩ : ∃ Z, Z = z4 := ⟨_, rfl⟩
  rw [← hZ] at hz
  have HZV : Hid (Value.agg Z = fR 0) := qa (by rw [hZ]; rfl)
  have c1 := h.c1
  have c0 := h.c0
  have f1 := h.free 1
  have hgl := h.lt
  have HEA : Hid (QEs w (w.alloc (.cells Z 53)) g s z w.heap.size 0) := qa ⟨h.up (aD _ _), kP w Z hZ, aK (aD _ _) _, qb _, hgl⟩
  have HE0 : Hid (QEs w ((w.setCell ⟨g, 1, none⟩ (.int .i64 ((z.p : Int) + 1 + 1))).alloc (.cells Z 53)) g s (bZ (bZ z)) w.heap.size 0) := qa (by
    obtain ⟨hi1, hi2⟩ := h.hop (z.p + 1 + 1) (v := (z.p : Int) + 1 + 1) rfl
    have hb := aD (w.setCell ⟨g, 1, none⟩ (.int .i64 ((z.p : Int) + 1 + 1))) (.cells Z 53)
    have hn := kP (w.setCell ⟨g, 1, none⟩ (.int .i64 ((z.p : Int) + 1 + 1))) Z hZ
    rw [show (w.setCell ⟨g, 1, none⟩ (.int .i64 ((z.p : Int) + 1 + 1))).heap.size = w.heap.size by simp] at hn
    exact ⟨hi1.up hb, hn, aL hi2 (aK hb _), qb _, hgl⟩)
  have HF : Hid (∀ W y, dY W g s y → Calls prog 39 #[.pointer (some ⟨g, 0, none⟩), .int .i64 15, .int .i64 ((z.p : Int) + 1)] W (sM (.tuple #[]) g s (bV 15 (z.p + 1) y) W)) := qa (fun W y h => W2 h 15 (z.p + 1))
  obtain ⟨R, hR⟩ : ∃ R, R = M6 (bys s) z := ⟨_, rfl⟩
  rw [← hR]
  have HX := qa (@iU prog 9 (by kernel_rfl) s (z.p + 1))
  have HL0 : Hid ((0 : Nat) < 2 ^ 256) := qa qbB
  clear h hZ hc0
  by_cases hp1 : z.p + 1 < s.size
  rotate_left 1
  · have hn : nxR (bys s) (bZ z) = none := by unfold nxR; rw [qv (by rw [cH]; exact fun h => hp1 h.2)]
    have HR : Hid (R = ((0, false), bV 15 (z.p + 1) (bZ z))) := qa (by rw [hR]; unfold M6; rw [hn])
    have HP : Hid (z.p ≤ (bV 15 (z.p + 1) z).p ∧ (bV 15 (z.p + 1) z).p ≤ s.size) := qa (by rw [f6]; omega)
    have hpd : decide ((s.size : Int) ≤ (z.p : Int) + 1) = true := qz (by omega)
    have hpi : (z.p : Int) + 1 ≥ (s.size : Int) := by omega
    clear hR hn HX
    go_enter func95, ntmps95
    go_wp2_with (first
      | ((with_reducible refine (HF.o _ _ HEA.o.box).mono ?_); rintro e w2 ⟨rfl, hB, hg⟩; have HE2 := qa (HEA.o.act hB hg); clear hB hg)
      | (refine b7 rfl _ _ rfl w.heap.size rfl _ 0 HZV.o HE2.o.set ?_; intro w3 hB2 hg2; have HE3 := qa (HE2.o.store hB2 hg2); clear hB2 hg2))
    refine bS (s := 2) (b := 3) (ad := ⟨w.heap.size, 0, none⟩) (x := fR 0) (y := .bool false) rfl rfl rfl rfl HE3.o.set.load ?_
    exact ⟨0, false, _, rfl, HL0.o, HE3.o.qs, Al.fault _ (by rw [HR.o]; exact cP _ (by decide)) (cP _ (by decide)) HP.o.1 HP.o.2⟩
  · have hn : nxR (bys s) (bZ z) = some ((bys s).getD (z.p + 1) 0) := by unfold nxR; rw [qw ⟨hz0, by rw [cH]; exact hp1⟩]; rfl
    have hix := HX.o hp1
    have hR2 : R = (match qax ((bys s).getD (z.p + 1) 0) with
      | some a => ((a, true), bZ (bZ z))
      | none => match qay ((bys s).getD (z.p + 1) 0) with
        | some b => ((lX b, false), bZ (bZ z))
        | none => if (bys s).getD (z.p + 1) 0 = 120 then match q8B (bys s) (z.p + 1) with
            | some b => ((lX b, false), ⟨z.p + 4, z.e, z.b⟩)
            | none => ((0, false), bV 15 (z.p + 1) (bZ (bZ z)))
          else ((0, false), bV 15 (z.p + 1) (bZ (bZ z)))) := by rw [hR]; unfold M6; rw [hn]; rfl
    have HOF := qa (fun c W => qb9 c W)
    have HMA := qa (fun c W => q9N c W)
    have HP : Hid (z.p ≤ (bZ (bZ z)).p ∧ (bZ (bZ z)).p ≤ s.size) := qa ⟨by show z.p ≤ z.p + 1 + 1; omega, hp1⟩
    have HPF : Hid (z.p ≤ (bV 15 (z.p + 1) (bZ (bZ z))).p ∧ (bV 15 (z.p + 1) (bZ (bZ z))).p ≤ s.size ∧ (bV 15 (z.p + 1) (bZ (bZ z))).e ≠ 0) := qa (by rw [f6]; exact ⟨HP.o.1, HP.o.2, cP _ (by decide)⟩)
    have hpi : ¬ (z.p : Int) + 1 ≥ (s.size : Int) := by omega
    have hpd : decide ((s.size : Int) ≤ (z.p : Int) + 1) = false := qx (by omega)
    have hii : (((z.p + 1 : Nat)) : Int) = (z.p : Int) + 1 := rfl
    rw [hii] at hix
    clear hR hn HX HEA hii
    generalize (bys s).getD (z.p + 1) 0 = c at *
    go_enter func95, ntmps95
    go_upto_if 33 with (fail)
    generalize (w.setCell ⟨g, 1, none⟩ (.int .i64 ((z.p : Int) + 1 + 1))).alloc (.cells Z 53) = w1 at *
    obtain ⟨g0, hg0⟩ : ∃ g0, g0 = w.heap.size := ⟨_, rfl⟩
    rw [← hg0] at HE0 ⊢
    have HG0 := qa hg0
    have c0' := HE0.o.box.c0
    clear hg0 c0 c1 f1 hix
    by_cases qfv : c = 110
    · have HR : Hid (R = ((lX 10, false), bZ (bZ z))) := qa (by rw [hR2, qfv]; rfl)
      subst qfv
      clear hR2
      go_wp2_with (first
        | ((with_reducible refine (HOF.o 10 _).mono ?_); rintro e w2 ⟨rfl, hx⟩; have HE2 := qa (HE0.o.ext hx); clear hx)
        | (refine b7 rfl _ _ rfl g0 rfl _ _ rfl HE2.o.set ?_; intro w3 hB2 hg2; have HE3 := qa (HE2.o.store hB2 hg2); clear hB2 hg2))
      refine bS (s := 2) (b := 3) (ad := ⟨g0, 0, none⟩) (x := fR (lX 10)) (y := .bool false) rfl rfl rfl rfl HE3.o.set.load ?_
      exact ⟨_, false, _, rfl, y6 _, HE3.o.qs, Al.same HR.o HP.o.1 HP.o.2⟩
    have k110 : ¬ c.toNat = 110 := fun e => qfv (UInt8.toNat_inj.1 e)
    have k110' : ((c.toNat : Int) == 110) = false := pG (b := 110) qfv
    by_cases qft : c = 116
    · have HR : Hid (R = ((lX 9, false), bZ (bZ z))) := qa (by rw [hR2, qft]; rfl)
      subst qft
      clear hR2
      go_wp2_with (first
        | ((with_reducible refine (HOF.o 9 _).mono ?_); rintro e w2 ⟨rfl, hx⟩; have HE2 := qa (HE0.o.ext hx); clear hx)
        | (refine b7 rfl _ _ rfl g0 rfl _ _ rfl HE2.o.set ?_; intro w3 hB2 hg2; have HE3 := qa (HE2.o.store hB2 hg2); clear hB2 hg2))
      refine bS (s := 2) (b := 3) (ad := ⟨g0, 0, none⟩) (x := fR (lX 9)) (y := .bool false) rfl rfl rfl rfl HE3.o.set.load ?_
      exact ⟨_, false, _, rfl, y6 _, HE3.o.qs, Al.same HR.o HP.o.1 HP.o.2⟩
    have k116 : ¬ c.toNat = 116 := fun e => qft (UInt8.toNat_inj.1 e)
    have k116' : ((c.toNat : Int) == 116) = false := pG (b := 116) qft
    by_cases qfu : c = 115
    · have HR : Hid (R = ((lX 32, false), bZ (bZ z))) := qa (by rw [hR2, qfu]; rfl)
      subst qfu
      clear hR2
      go_wp2_with (first
        | ((with_reducible refine (HOF.o 32 _).mono ?_); rintro e w2 ⟨rfl, hx⟩; have HE2 := qa (HE0.o.ext hx); clear hx)
        | (refine b7 rfl _ _ rfl g0 rfl _ _ rfl HE2.o.set ?_; intro w3 hB2 hg2; have HE3 := qa (HE2.o.store hB2 hg2); clear hB2 hg2))
      refine bS (s := 2) (b := 3) (ad := ⟨g0, 0, none⟩) (x := fR (lX 32)) (y := .bool false) rfl rfl rfl rfl HE3.o.set.load ?_
      exact ⟨_, false, _, rfl, y6 _, HE3.o.qs, Al.same HR.o HP.o.1 HP.o.2⟩
    have k115 : ¬ c.toNat = 115 := fun e => qfu (UInt8.toNat_inj.1 e)
    have k115' : ((c.toNat : Int) == 115) = false := pG (b := 115) qfu
    by_cases qfw : c = 100
    · have HR : Hid (R = ((q1o, true), bZ (bZ z))) := qa (by rw [hR2, qfw]; rfl)
      have HD : Hid (∀ W, Calls prog 100 #[.int .u8 48, .int .u8 57] W (gN q1o W)) := qa (fun W => q0m 48 57 W)
      subst qfw
      clear hR2
      generalize hdg : q1o = dg at *
      have hdl : dg < 2 ^ 256 := by rw [← hdg]; exact q8E
      have HDL := qa hdl
      clear hdl hdg
      go_wp2_with (first
        | ((with_reducible refine (HD.o _).mono ?_); rintro e w2 ⟨rfl, hx⟩; have HE2 := qa (HE0.o.ext hx); clear hx)
        | (refine b7 rfl _ _ rfl g0 rfl _ _ rfl HE2.o.set ?_; intro w3 hB2 hg2; have HE3 := qa (HE2.o.store hB2 hg2); clear hB2 hg2))
      refine bS (s := 2) (b := 3) (ad := ⟨g0, 0, none⟩) (x := fR dg) (y := .bool true) rfl rfl rfl rfl HE3.o.set.load ?_
      exact ⟨_, true, _, rfl, HDL.o, HE3.o.qs, Al.same HR.o HP.o.1 HP.o.2⟩
    have k100 : ¬ c.toNat = 100 := fun e => qfw (UInt8.toNat_inj.1 e)
    have k100' : ((c.toNat : Int) == 100) = false := pG (b := 100) qfw
    by_cases qfs : c = 119
    · have HR : Hid (R = ((lX 95 ||| (q1o ||| (nS 65 90 ||| nS 97 122)), true), bZ (bZ z))) := qa (by rw [hR2, qfs, Nat.or_comm (nS 65 90)]; rfl)
      have hdl := q8E
      have hll := qaD
      have hul := qbo
      have h1l := y6 95
      have HD : Hid (∀ W, Calls prog 100 #[.int .u8 48, .int .u8 57] W (gN q1o W)) := qa (fun W => q0m 48 57 W)
      have HU : Hid (∀ W, Calls prog 100 #[.int .u8 65, .int .u8 90] W (gN (nS 65 90) W)) := qa (fun W => q0m 65 90 W)
      have HL : Hid (∀ W, Calls prog 100 #[.int .u8 97, .int .u8 122] W (gN (nS 97 122) W)) := qa (fun W => q0m 97 122 W)
      have HO1 : Hid (∀ W, Calls prog 101 #[fR (nS 65 90), fR (nS 97 122)] W (gN (nS 65 90 ||| nS 97 122) W)) := qa (fun W => orQ hul hll W)
      have HO2 : Hid (∀ W, Calls prog 101 #[fR q1o, fR (nS 65 90 ||| nS 97 122)] W (gN (q1o ||| (nS 65 90 ||| nS 97 122)) W)) := qa (fun W => orQ hdl (mH hul hll) W)
      have HO3 : Hid (∀ W, Calls prog 101 #[fR (lX 95), fR (q1o ||| (nS 65 90 ||| nS 97 122))] W (gN (lX 95 ||| (q1o ||| (nS 65 90 ||| nS 97 122))) W)) := qa (fun W => orQ h1l (mH hdl (mH hul hll)) W)
      have HOL := qa (mH h1l (mH hdl (mH hul hll)))
      have ql6 := qa (fun W => HOF.o 95 W)
      subst qfs
      clear hR2 hdl hll hul h1l HOF
      generalize lX 95 ||| (q1o ||| (nS 65 90 ||| nS 97 122)) = x4 at *
      generalize q1o ||| (nS 65 90 ||| nS 97 122) = x3 at *
      generalize nS 65 90 ||| nS 97 122 = x2 at *
      generalize nS 65 90 = xu at *
      generalize nS 97 122 = xl at *
      generalize lX 95 = xo at *
      generalize q1o = xd at *
      go_wp2_with (first
        | ((with_reducible refine (ql6.o _).mono ?_); rintro e w2 ⟨rfl, hx⟩; have HE2 := qa (HE0.o.ext hx); clear hx)
        | ((with_reducible refine (HD.o _).mono ?_); rintro e w3 ⟨rfl, hx⟩; have HE3 := qa (HE2.o.ext hx); clear hx)
        | ((with_reducible refine (HU.o _).mono ?_); rintro e w4 ⟨rfl, hx⟩; have HE4 := qa (HE3.o.ext hx); clear hx)
        | ((with_reducible refine (HL.o _).mono ?_); rintro e w5 ⟨rfl, hx⟩; have HE5 := qa (HE4.o.ext hx); clear hx)
        | ((with_reducible refine (HO1.o _).mono ?_); rintro e w6 ⟨rfl, hx⟩; have HE6 := qa (HE5.o.ext hx); clear hx)
        | ((with_reducible refine (HO2.o _).mono ?_); rintro e w7 ⟨rfl, hx⟩; have HE7 := qa (HE6.o.ext hx); clear hx)
        | ((with_reducible refine (HO3.o _).mono ?_); rintro e w8 ⟨rfl, hx⟩; have HE8 := qa (HE7.o.ext hx); clear hx)
        | (refine b7 rfl _ _ rfl g0 rfl _ _ rfl HE8.o.set ?_; intro w9 hB2 hg2; have HE9 := qa (HE8.o.store hB2 hg2); clear hB2 hg2))
      refine bS (s := 2) (b := 3) (ad := ⟨g0, 0, none⟩) (x := fR x4) (y := .bool true) rfl rfl rfl rfl HE9.o.set.load ?_
      exact ⟨_, true, _, rfl, HOL.o, HE9.o.qs, Al.same HR.o HP.o.1 HP.o.2⟩
    have k119 : ¬ c.toNat = 119 := fun e => qfs (UInt8.toNat_inj.1 e)
    have k119' : ((c.toNat : Int) == 119) = false := pG (b := 119) qfs
    have hR3 : R = if c ∈ q0h then ((lX c, false), bZ (bZ z)) else if c = 120 then match q8B (bys s) (z.p + 1) with
            | some b => ((lX b, false), ⟨z.p + 4, z.e, z.b⟩)
            | none => ((0, false), bV 15 (z.p + 1) (bZ (bZ z)))
          else ((0, false), bV 15 (z.p + 1) (bZ (bZ z))) := by
      rw [hR2]
      unfold qax qay
      rw [qv qfw, qv qfs, qv qfv, qv qft, qv qfu]
      by_cases hm : c ∈ q0h
      · rw [qw hm, qw hm]
      · rw [qv hm, qv hm]
    clear hR2
    have hxR : q8B (bys s) (z.p + 1) = if z.p + 1 + 2 < s.size ∧ 0 ≤ dgR ((bys s).getD (z.p + 1 + 1) 0) ∧ 0 ≤ dgR ((bys s).getD (z.p + 1 + 2) 0) then some (UInt8.ofNat (16 * (dgR ((bys s).getD (z.p + 1 + 1) 0)).toNat + (dgR ((bys s).getD (z.p + 1 + 2) 0)).toNat)) else none := by
      unfold q8B; rw [cH]; simp only [qcj, jn]
    have HI1 : Hid (z.p + 1 + 2 < s.size → ∀ W, (Instr.index 9 (.string s) (.int .i64 ((z.p : Int) + 1 + 1))).run prog W = .ok (.int .u8 (((bys s).getD (z.p + 1 + 1) 0).toNat : Nat)) W) := qa (fun hp W => iU (P := prog) 9 (by kernel_rfl) (show z.p + 1 + 1 < s.size by omega) W)
    have HI2 : Hid (z.p + 1 + 2 < s.size → ∀ W, (Instr.index 9 (.string s) (.int .i64 ((z.p : Int) + 1 + 2))).run prog W = .ok (.int .u8 (((bys s).getD (z.p + 1 + 2) 0).toNat : Nat)) W) := qa (fun hp W => iU (P := prog) 9 (by kernel_rfl) hp W)
    have HH := qa (fun c W => qch c W)
    have hd1 := q9O ((bys s).getD (z.p + 1 + 1) 0)
    have hd2 := q9O ((bys s).getD (z.p + 1 + 2) 0)
    generalize (bys s).getD (z.p + 1 + 1) 0 = c1 at *
    generalize (bys s).getD (z.p + 1 + 2) 0 = c2 at *
    have HH1 := qa (fun W => HH.o c1 W)
    have HH2 := qa (fun W => HH.o c2 W)
    generalize dgR c1 = n1 at *
    generalize dgR c2 = n2 at *
    obtain ⟨hb, hhb⟩ : ∃ hb : Bool, hb = decide (c = 120 ∧ z.p + 1 + 2 < s.size ∧ 0 ≤ n1 ∧ 0 ≤ n2) := ⟨_, rfl⟩
    have HHB := qa hhb
    have HR3 := qa hR3
    have HXR := qa hxR
    clear hhb hR3 hxR HH
    go_upto_region 17 with (fail)
    go_cut [33, 59] (fun _ x wx => x = .bool hb ∧ QEs w wx g s (bZ (bZ z)) g0 0)
    case first =>
      by_cases qd6 : c = 120
      · have k120 : ((c.toNat : Int) == 120) = true := by rw [qd6]; rfl
        by_cases hp3 : z.p + 1 + 2 < s.size
        · have q3 : (z.p : Int) + 1 + 2 < (s.size : Int) := by omega
          have q3d : decide ((z.p : Int) + 1 + 2 < (s.size : Int)) = true := qz q3
          have qk9 := HI1.o hp3
          have qff := HI2.o hp3
          by_cases hn1 : 0 ≤ n1
          · have q1d : decide ((0 : Int) ≤ n1) = true := qz hn1
            obtain ⟨r, hr⟩ : ∃ r : Bool, r = decide ((0 : Int) ≤ n2) := ⟨_, rfl⟩
            have HB2 : Hid (hb = r) := qa (by rw [HHB.o, hr]; simp [qd6, hp3, hn1])
            cases r with
            | true =>
              have q2 : (0 : Int) ≤ n2 := jc hr.symm
              exact ZmL1
            | false =>
              exact ZmL1
          · have q1d : decide ((0 : Int) ≤ n1) = false := qx hn1
            have HB2 : Hid (hb = false) := qa (by rw [HHB.o]; simp [hn1])
            clear HHB HR3 HXR qd6 hn1
            go_wp2_with ((with_reducible refine (HH1.o _).mono ?_); rintro e w2 ⟨rfl, hx⟩; have HE2 := qa (HE0.o.ext hx); clear hx)
            go_meet
            case rel => exact ⟨by rw [HB2.o], HE2.o⟩
        · have q3d : decide ((z.p : Int) + 1 + 2 < (s.size : Int)) = false := qx (by omega)
          have HB2 : Hid (hb = false) := qa (by rw [HHB.o]; simp [hp3])
          clear HHB HR3 HXR qd6
          go_wp2
          go_meet
          case rel => exact ⟨by rw [HB2.o], HE0.o⟩
      · have k120 : ¬ c.toNat = 120 := fun e => qd6 (UInt8.toNat_inj.1 e)
        have k120' : ((c.toNat : Int) == 120) = false := pG (b := 120) qd6
        have HB2 : Hid (hb = false) := qa (by rw [HHB.o]; simp [qd6])
        clear HHB HR3 HXR qd6
        go_wp2
        go_meet
        case rel => exact ⟨by rw [HB2.o], HE0.o⟩
    case rest =>
      obtain ⟨rfl, hE⟩ := hcut
      have HE1 := qa hE
      clear hE HE0 c0'
      have c0' := HE1.o.box.c0
      cases hb with
      | true =>
        have hq := HHB.o
        have hq' := jc hq.symm
        obtain ⟨qd6, hp3, hn1, hn2⟩ := hq'
        obtain ⟨m1, rfl⟩ : ∃ m : Nat, n1 = (m : Int) := ⟨n1.toNat, by omega⟩
        obtain ⟨m2, rfl⟩ : ∃ m : Nat, n2 = (m : Int) := ⟨n2.toNat, by omega⟩
        have HR : Hid (R = ((lX (UInt8.ofNat (16 * m1 + m2)), false), ⟨z.p + 4, z.e, z.b⟩)) := qa (by
          rw [HR3.o, HXR.o, qv (by rw [qd6]; decide), qw qd6, qw ⟨hp3, by omega, by omega⟩]; rfl)
        have qk9 := HI1.o hp3
        have qff := HI2.o hp3
        have HO := qa (fun W => HOF.o (UInt8.ofNat (16 * m1 + m2)) W)
        have f1 := HE1.o.box.free 1
        have c1w := HE1.o.box.c1
        have hcv := fun W => q2O (UInt8.ofNat (16 * m1 + m2)) W
        rw [show ((UInt8.ofNat (16 * m1 + m2)).toNat : Int) = 16 * (m1 : Int) + (m2 : Int) by simp; omega] at hcv
        generalize UInt8.ofNat (16 * m1 + m2) = ch at *
        have HE2 : Hid (QEs w (wc.setCell ⟨g, 1, none⟩ (.int .i64 ((z.p : Int) + 1 + 3))) g s ⟨z.p + 4, z.e, z.b⟩ g0 0) := qa (by
          obtain ⟨a, b⟩ := HE1.o.box.hop (z.p + 4) (v := (z.p : Int) + 1 + 3) (by omega)
          exact HE1.o.act a b)
        clear hq HHB HR3 HXR qd6 HPF HP c0'
        go_upto_region 19 with (fail)
        generalize wc.setCell ⟨g, 1, none⟩ (.int .i64 ((z.p : Int) + 1 + 3)) = w5 at *
        have c05 := HE2.o.box.c0
        have hl5 := HE2.o.box.lt
        have hne : ¬ g = g0 := by have := HE2.o.lo; have := HE2.o.gl; omega
        refine hU (C := fun w' => ∃ x, w' = chg w5 (some g0) x) (.q 0 (.q 1 (.q 2 (.q 3 (.q 4 (.q 5 (.q 6 (.q 9 (.q 10 (.q 11 (.q 12 (.q 13 (.q 14 (.q 15 (.br 7 (.q 8 (.br 16 (.q 17 (.q 18 (.br 19 (.br 20 (.br 21 (.br 22 (.br 23 .done .no) .no) .no) .no) .no))) .no)) .no))))))))))))))) (by kernel_rfl) (by kernel_rfl) (dD (eW _ _)) ?_
        (repeat ((unfold aZ; simp only [pk]); go_big_quiet_step (fail); refine wpQuiet_nil ?_))
        have HE3 := qa (HE2.o.below (aX w5 1))
        have HG3 : Hid (w5.grownBy w5.drew (some g0)) := qa (eW w5 _)
        rw [show w5.drewN 1 = w5.drew from rfl] at HE3
        clear f1 c1w
        ((unfold aZ; simp only [pk]); refine ⟨?_, by unfold aZ; trivial⟩; unfold aF)
        go_wp2_with ((with_reducible refine (HH1.o _).mono ?_); rintro e w6 ⟨rfl, hx⟩; have HE4 := qa (HE3.o.ext hx); have HG4 := qa (aL HG3.o (aK (aI hx) _)); clear hx)
        refine ⟨dD HG4.o, ?_⟩
        unfold aF
        (repeat ((unfold aZ; simp only [pk]); go_big_quiet_step (fail); refine wpQuiet_nil ?_))
        ((unfold aZ; simp only [pk]); refine ⟨?_, by unfold aZ; trivial⟩; unfold aF)
        go_wp2_with ((with_reducible refine (HH2.o _).mono ?_); rintro e w7 ⟨rfl, hx⟩; have HE5 := qa (HE4.o.ext hx); have HG5 := qa (aL HG4.o (aK (aI hx) _)); clear hx)
        refine ⟨dD HG5.o, ?_⟩
        unfold aF
        (repeat ((unfold aZ; simp only [pk]); go_big_quiet_step (fail); refine wpQuiet_nil ?_))
        ((unfold aZ; simp only [pk]); refine ⟨?_, by unfold aZ; trivial⟩; unfold aF)
        go_wp2
        have HBA := aD w7 (.cells #[.int .u8 (16 * (m1 : Int) + (m2 : Int))] 5)
        have HE6 := qa (HE5.o.below HBA)
        have HG6 := qa (aL HG5.o (aK HBA _))
        have qki := hcv w7
        clear HBA
        refine ⟨dD HG6.o, ?_⟩
        unfold aF
        ((unfold aZ; simp only [pk]); refine ⟨?_, by unfold aZ; trivial⟩; unfold aF)
        go_wp2
        refine ⟨dD HG6.o, ?_⟩
        unfold aF
        ((unfold aZ; simp only [pk]); refine ⟨?_, by unfold aZ; trivial⟩; unfold aF)
        go_wp2_with ((with_reducible refine (HO.o _).mono ?_); rintro e w8 ⟨rfl, hx⟩; have HE7 := qa (HE6.o.ext hx); have HG7 := qa (aL HG6.o (aK (aI hx) _)); clear hx)
        refine ⟨dD HG7.o, ?_⟩
        unfold aF
        ((unfold aZ; simp only [pk]); refine ⟨?_, by unfold aZ; trivial⟩; unfold aF)
        go_wp2_with (refine b7 rfl _ _ rfl g0 rfl _ _ rfl HE7.o.set ?_; intro w9 hB2 hg2; have HE8 := qa (HE7.o.store hB2 hg2); have HG8 := qa (aL HG7.o hg2); clear hB2 hg2)
        refine ⟨dD HG8.o, ?_⟩
        unfold aF
        ((unfold aZ; simp only [pk]); refine ⟨?_, by unfold aZ; trivial⟩; unfold aF)
        go_wp2
        refine ⟨dD HG8.o, ?_⟩
        unfold aF
        unfold aZ
        intro hz8 hz9
        clear hz9
        go_wp2
        refine bS (s := 2) (b := 3) (ad := ⟨g0, 0, none⟩) (x := fR (lX ch)) (y := .bool false) rfl rfl rfl rfl HE8.o.set.load ?_
        exact ⟨_, false, _, rfl, y6 _, HE8.o.qs, Al.same HR.o (by show z.p ≤ z.p + 4; omega) (by show z.p + 4 ≤ s.size; omega)⟩
      | false =>
        have HMC := qa (fun W => HMA.o c W)
        by_cases hm : c ∈ q0h
        · have HR : Hid (R = ((lX c, false), bZ (bZ z))) := qa (by rw [HR3.o, qw hm])
          have hcv := fun W => q2O c W
          have HO := qa (fun W => HOF.o c W)
          rw [qz hm] at HMC
          clear HHB HR3 HXR hm HOF
          go_wp2_with (first
            | ((with_reducible refine (HMC.o _).mono ?_); rintro e w2 ⟨rfl, hx⟩; have HE2 := qa (HE1.o.ext hx); have qki := hcv w2; have HE3 := qa (HE2.o.below (aD w2 (.cells #[.int .u8 (c.toNat : Nat)] 5))); clear hx)
            | ((with_reducible refine (HO.o _).mono ?_); rintro e w3 ⟨rfl, hx⟩; have HE4 := qa (HE3.o.ext hx); clear hx)
            | (refine b7 rfl _ _ rfl g0 rfl _ _ rfl HE4.o.set ?_; intro w4 hB2 hg2; have HE5 := qa (HE4.o.store hB2 hg2); clear hB2 hg2))
          refine bS (s := 2) (b := 3) (ad := ⟨g0, 0, none⟩) (x := fR (lX c)) (y := .bool false) rfl rfl rfl rfl HE5.o.set.load ?_
          exact ⟨_, false, _, rfl, y6 _, HE5.o.qs, Al.same HR.o HP.o.1 HP.o.2⟩
        · have HR : Hid (R.2.e ≠ 0) := qa (by
            have h := HHB.o
            rw [HR3.o, qv hm]
            split
            · rename_i qd6
              rw [HXR.o, qv (fun hh => by rw [qz ⟨qd6, hh.1, hh.2.1, hh.2.2⟩] at h; cases h)]
              exact cP _ (by decide)
            · exact cP _ (by decide))
          rw [qx hm] at HMC
          clear HHB HR3 HXR hm HOF
          go_wp2_with (first
            | ((with_reducible refine (HMC.o _).mono ?_); rintro e w2 ⟨rfl, hx⟩; have HE2 := qa (HE1.o.ext hx); clear hx)
            | ((with_reducible refine (HF.o _ _ HE2.o.box).mono ?_); rintro e w3 ⟨rfl, hB, hg⟩; have HE3 := qa (HE2.o.act hB hg); clear hB hg)
            | (refine b7 rfl _ _ rfl g0 rfl _ 0 HZV.o HE3.o.set ?_; intro w4 hB2 hg2; have HE4 := qa (HE3.o.store hB2 hg2); clear hB2 hg2))
          refine bS (s := 2) (b := 3) (ad := ⟨g0, 0, none⟩) (x := fR 0) (y := .bool false) rfl rfl rfl rfl HE4.o.set.load ?_
          exact ⟨_, false, _, rfl, HL0.o, HE4.o.qs, Al.fault _ HR.o HPF.o.2.2 HPF.o.1 HPF.o.2.1⟩
theorem q6q(s:ByteArray)(a:Nat)(h:a<s.size):s.extract a (a+1)=⟨#[(bys s).getD a 0]⟩:=by
 have hl:a<(bys s).length:=by rw[cH];exact h
 refine q1C (l:=[(bys s).getD a 0]) ?_;rw[show a+1-a=1 by omega,jE hl,qu,qy hl];rfl
theorem qck{w:World}{g:Nat}{s:ByteArray}{z:PS}(h:dY w g s z)(hs:s.size<=1000000)(hz0:z.e=0)(hzp:z.p<=s.size):
  Calls prog 98 #[.pointer (some ⟨g,0,none⟩)] w (qaW (lA (bys s) z) g s z w):=by
 have hz:=vG;obtain⟨Z,hZ⟩:∃Z,Z=z4:=⟨_,rfl⟩;rw[<-hZ]at hz;have HZV:Hid (Value.agg Z=fR 0):=qa (by rw[hZ];rfl);have HEA:Hid (QEs w (w.alloc (.cells Z 53)) g s z w.heap.size 0):=qa ⟨h.up (aD _ _),kP w Z hZ,aK (aD _ _) _,qb _,h.lt⟩;have HF:Hid (∀W,dY W g s z->Calls prog 39 #[.pointer (some ⟨g,0,none⟩),.int .i64 15,.int .i64 z.p] W (sM (.tuple #[]) g s (bV 15 z.p z) W)):=qa (fun W h=>W2 h 15 z.p);have HES:Hid (∀W,nxR (bys s) z=some 92->dY W g s z->Calls prog 95 #[.pointer (some ⟨g,0,none⟩)] W (qaW (M6 (bys s) z) g s z W)):=qa (fun W hc h=>qbZ h hs hc);have HSL:=qa (q6q s z.p);have HOF:=qa (fun c W=>qb9 c W);have hnx:nxR (bys s) z=if z.p<s.size then some ((bys s).getD z.p 0)else none:=by unfold nxR;rw[cH];simp only[hz0,true_and]
 obtain⟨R,hR⟩:∃R,R=lA (bys s) z:=⟨_,rfl⟩;rw[<-hR];have HL0:Hid ((0:Nat)<2^256):=qa qbB;have HPF:Hid (z.p<=(bV 15 z.p z).p/\(bV 15 z.p z).p<=s.size/\(bV 15 z.p z).e≠0):=qa (by rw[f6];exact⟨qb _,hzp,cP _ (by decide)⟩);obtain⟨g0,hg0⟩:∃g0,g0=w.heap.size:=⟨_,rfl⟩;have qdP:Hid (∀W,dY W g s z->Calls prog 84 #[.pointer (some ⟨g,0,none⟩),.int .u8 92] W fun e w'=>e=.returned (.bool (lU (bys s) 92 z))/\∃x,w'=ext W x):=qa (fun W h=>isQ h 92);have qfN:Hid (∀W,dY W g s z->Calls prog 84 #[.pointer (some ⟨g,0,none⟩),.int .u8 45] W fun e w'=>e=.returned (.bool (lU (bys s) 45 z))/\∃x,w'=ext W x):=qa (fun W h=>isQ h 45);rw[<-hg0]at HEA;have hne:¬g=g0:=by have:=h.lt;omega
 have HG0:=qa hg0;clear h hZ;go_enter func98,ntmps98;cases h92:lU (bys s) 92 z with
 |true=>
  obtain⟨-,-,hn⟩:=nW h92;have HR:Hid (R=M6 (bys s) z):=qa (by rw[hR];unfold lA;rw[hn];rfl);have HE:=qa (fun W=>HES.o W hn);rw[h92]at qdP;clear hR hnx HES h92 hn;rw[hg0]at HEA hne
  go_wp2_with(first
   |((with_reducible refine(qdP.o _ HEA.o.box).mono ?_);rintro e w1 ⟨rfl,hx⟩;have HE1:=qa (HEA.o.ext hx);clear hx)
   |((with_reducible refine(HE.o _ HE1.o.box).mono ?_);rintro e w2 ⟨x,b,z',rfl,hxl,hQ,hA⟩;have HXL:=qa hxl;have HE2:=qa (HE1.o.act hQ.box hQ.gr);have HAL:=qa hA;clear hxl hQ hA)
   |(refine b7 rfl _ _ rfl w.heap.size rfl _ x rfl HE2.o.set ?_;intro w3 hB2 hg2;have HE3:=qa (HE2.o.store hB2 hg2);clear hB2 hg2))
  refine bS (s:=2) (b:=3) (ad:=⟨w.heap.size,0,none⟩) (x:=fR x) (y:=.bool b) rfl rfl rfl rfl HE3.o.set.load ?_;exact⟨x,b,z',rfl,HXL.o,HE3.o.qs,by rw[HR.o];exact HAL.o⟩
 |false=>
  rw[h92]at qdP;clear HES;rw[hg0]at HEA hne
  go_upto_region 3 with((with_reducible refine(qdP.o _ HEA.o.box).mono ?_);rintro e w1 ⟨rfl,hx⟩;have HE1:=qa (HEA.o.ext hx);clear hx)
  have c0:=HE1.o.box.c0;have c1:=HE1.o.box.c1;have hg1:=HE1.o.box.lt;by_cases h45:lU (bys s) 45 z=true
  ·have HR:Hid (R.2.e≠0):=qa (by
    obtain⟨-,-,hn⟩:=nW h45;rw[hR];unfold lA;rw[hn];exact cP _ (by decide))
   rw[h45]at qfN;clear hR hnx h45 h92;refine cO (by kernel_rfl) (by kernel_rfl) ?_
   exact ZmL0
  have h45:lU (bys s) 45 z=false:=by simpa using h45
  rw[h45]at qfN;by_cases hp:z.p<s.size
  ·rw[qw hp]at hnx
   have qf6:(bys s).getD z.p 0≠92:=fun e=>by unfold lU at h92;rw[hnx,e]at h92;simp at h92
   have qf7:(bys s).getD z.p 0≠45:=fun e=>by unfold lU at h45;rw[hnx,e]at h45;simp at h45
   have HR:Hid (R=((lX ((bys s).getD z.p 0),false),bZ z)):=qa (by
    rw[hR];unfold lA;rw[hnx];simp only[qv qf6,qv qf7])
   have hpi:decide ((s.size:Int)<=(z.p:Int))=false:=qx (by omega);have hpn:¬s.size<=z.p:=by omega
   have HSC:=qa (HSL.o hp);generalize (bys s).getD z.p 0=c at*;have HO:Hid (∀W,Calls prog 94 #[.string (s.extract z.p (z.p+1))] W (gN (lX c) W)):=qa (fun W=>by rw[HSC.o];exact HOF.o c W);clear hR hnx h45 h92 qf6 qf7 HSL HOF;refine cO (by kernel_rfl) (by kernel_rfl) ?_
   repeat(go_big_quiet_step ((go_at_call 84;(with_reducible exact dH (qfN.o _ (HE1.o.box.up (aE _ _)))))))
   refine wpQuiet_nil ?_;intro w2 hw2;have HE2:=qa (HE1.o.ext hw2);have c12:=HE2.o.box.c1;have f12:=HE2.o.box.free 1;have HE3:=qa HE2.o.inc;clear hw2 c0 c1 hg1
   go_upto_region 7 with(fail)
   generalize w2.setCell ⟨g,1,none⟩ (.int .i64 ((z.p:Int)+1))=w3 at*;have c03:=HE3.o.box.c0;have c13:=HE3.o.box.c11;have hg3:=HE3.o.box.lt;clear c12 f12;refine hU (C:=fun w'=>∃x,w'=chg w3 (some w.heap.size) x) (.q 0 (.q 1 (.q 2 (.q 3 (.q 4 (.q 5 (.q 6 (.q 7 (.q 8 (.q 9 (.q 10 (.q 11 (.q 12 (.q 13 (.br 14 (.br 15 (.br 16 .done .no) .no) .no))))))))))))))) (by kernel_rfl) (by kernel_rfl) (dD (eW _ _)) ?_
   (repeat((unfold aZ;simp only[pk]);go_big_quiet_step (fail);refine wpQuiet_nil ?_))
   have HE4:=qa (HE3.o.below (aX w3 1));have HG4:Hid (w3.grownBy w3.drew (some w.heap.size)):=qa (eW w3 _);rw[show w3.drewN 1=w3.drew from rfl]at HE4
   ((unfold aZ;simp only[pk]);refine⟨?_,by unfold aZ;trivial⟩;unfold aF)
   go_wp2_with((with_reducible refine(HO.o _).mono ?_);rintro e w5 ⟨rfl,hx⟩;have HE5:=qa (HE4.o.ext hx);have HG5:=qa (aL HG4.o (aK (aI hx) _));clear hx)
   refine⟨dD HG5.o,?_⟩;unfold aF
   ((unfold aZ;simp only[pk]);refine⟨?_,by unfold aZ;trivial⟩;unfold aF)
   go_wp2_with(refine b7 rfl _ _ rfl w.heap.size rfl _ _ rfl HE5.o.set ?_;intro w6 hB2 hg2;have HE6:=qa (HE5.o.store hB2 hg2);have HG6:=qa (aL HG5.o hg2);clear hB2 hg2)
   refine⟨dD HG6.o,?_⟩;unfold aF
   ((unfold aZ;simp only[pk]);refine⟨?_,by unfold aZ;trivial⟩;unfold aF)
   go_wp2;refine⟨dD HG6.o,?_⟩;unfold aF;unfold aZ;intro hz8 hz9;clear hz9;go_wp2;refine bS (s:=2) (b:=3) (ad:=⟨w.heap.size,0,none⟩) (x:=fR (lX c)) (y:=.bool false) rfl rfl rfl rfl HE6.o.set.load ?_;exact⟨_,false,_,rfl,y6 _,HE6.o.qs,Al.same HR.o (by show z.p<=z.p+1;omega) (by show z.p+1<=s.size;omega)⟩
  rw[qv hp]at hnx;have HR:Hid (R.2.e≠0):=qa (by rw[hR];unfold lA;rw[hnx];exact cP _ (by decide));have hpi:decide ((s.size:Int)<=(z.p:Int))=true:=qz (by omega);have hpn:s.size<=z.p:=by omega
  clear hR hnx h45 h92 HSL;refine cO (by kernel_rfl) (by kernel_rfl) ?_
  exact ZmL0
theorem qcl(x:Nat)(w:World):Calls prog 91 #[fR x] w (F4 w [setN x]):=by
 obtain⟨X,hX⟩:∃X,X=(wsV x).toArray:=⟨_,rfl⟩;have HB0:Hid (lB (w.alloc (.cells X 53)) w.heap.size x):=qa (by rw[hX];exact sI w x);obtain⟨C,hC⟩:∃C:Array Value,C=#[.int .i64 1,.int .i64 0,.int .u64 (wdR x 0:Nat),.int .u64 (wdR x 1:Nat),.int .u64 (wdR x 2:Nat),.int .u64 (wdR x 3:Nat),.int .i64 0,.int .i64 0]:=⟨_,rfl⟩
 have HO:Hid (bH ((w.alloc (.cells X 53)).alloc (.cells C 98)) w.heap.size (.slice (some ⟨w.heap.size+1,0,none⟩) 1 1) [setN x]):=qa (by
  have:=oU 8 (w.alloc (.cells X 53)) w.heap.size C 98 [ndC (setN x)] (by rw[hC];rfl) (by intro y hy;simp at hy;subst hy;rfl) (by simp) (by simp);rw[show(w.alloc (.cells X 53)).heap.size=w.heap.size+1 by simp]at this;exact this)
 have HBL:Hid (Below w.heap.size w ((w.alloc (.cells X 53)).alloc (.cells C 98))):=qa aO;rw[hC]at HO HBL;rw[show fR x=.agg X by rw[hX];rfl];clear hX hC;go_enter func91,ntmps91
 go_wp2_with(refine q6l rfl _ rfl w.heap.size rfl x HB0.o ?_)
 go_ret;exact⟨_,rfl,HO.o,HBL.o⟩
theorem qaX{w:World}{x:Nd}{kv:Value}{vs:List Value}{ks:List (List Nd)}(hk:Sl w kv vs)(hl:vs.length=ks.length)(hn:∀i,i<ks.length->bE w (vs.getD i undef) (ks.getD i []))(hb:ks.flatten.length<=500000000):
  Calls prog 86 #[.agg (ndA x),kv] w (F4 w (iZ x ks)):=by
 obtain⟨oa,cap,b,off,rfl,hd,hc⟩:=hk;rw[hl]at hd hc⊢;have hix:=fun(W:World) (i:Nat) (hi:i<ks.length)=>aT (P:=prog) 22 42 underlying22 (by kernel_rfl) hd W .i64 i (by omega) (by omega);simp only[qD]at hix;have HIX:=qa hix;have hm:=hd.len;have hblk:=hd.hblk;have HC:=qa hc;have HN:=qa hn;obtain⟨X,hX⟩:∃X:Array Value,X=ndA x:=⟨_,rfl⟩;have HB0:=qa (q2C w x X hX);have c1:=HB0.o.c1;have f1:=HB0.o.free 1;have hl0:=HB0.o.lt;obtain⟨k0,n0,a0,b0,c0,d0,l0,h0⟩:=x;have HN1:Hid (yO (w.alloc (.cells (X.setIfInBounds 1 (.int .i64 (ks.length:Nat))) 98)) w.heap.size ⟨k0,(ks.length:Nat),a0,b0,c0,d0,l0,h0⟩):=qa (q2C w _ _ (by rw[hX];rfl));have HR:Hid (iZ ⟨k0,n0,a0,b0,c0,d0,l0,h0⟩ ks=⟨k0,(ks.length:Nat),a0,b0,c0,d0,l0,h0⟩::ks.flatten):=qa rfl;rw[HR.o];obtain⟨K,hK⟩:∃K,K=ks.length:=⟨_,rfl⟩;have HK:=qa hK;rw[<-hK]at hd HC HIX HN1 HN hm hblk⊢;obtain⟨w1,hw1⟩:∃w1,w1=w.alloc (.cells (X.setIfInBounds 1 (.int .i64 (K:Nat))) 98):=⟨_,rfl⟩;have hs1:w1.heap.size=w.heap.size+1:=by rw[hw1];simp
 have hb1:Below w.heap.size w w1:=by rw[hw1];exact aD w _
 obtain⟨x1,hx1⟩:∃x1:Nd,x1=⟨k0,(K:Nat),a0,b0,c0,d0,l0,h0⟩:=⟨_,rfl⟩;obtain⟨C,hC⟩:∃C:Array Value,C=#[.int .i64 k0,.int .i64 (K:Nat),.int .u64 a0,.int .u64 b0,.int .u64 c0,.int .u64 d0,.int .i64 l0,.int .i64 h0]:=⟨_,rfl⟩;have hCx:C=ndA x1:=by rw[hC,hx1];rfl
 have HB2:Hid (Below w.heap.size w (w1.alloc (.cells C 98))):=qa (hb1.trans ((aD w1 _).mono (by omega)))
 have HO2:Hid (bH (w1.alloc (.cells C 98)) w.heap.size (.slice (some ⟨w.heap.size+1,0,none⟩) 1 1) [x1]):=qa (by
  have:=oU 8 w1 w.heap.size C 98 [ndC x1] (by rw[hCx];simp[q7D]) (by intro y hy;simp at hy;subst hy;rfl) (by simp) (by omega);rw[hs1]at this;exact this)
 rw[hw1,hC]at HB2 HO2;rw[<-hX,<-hx1];clear hix hd hc hn hl hX hw1 hs1 hb1 hC hCx;have HX1:=qa hx1;clear hx1 hK;go_enter func86,ntmps86
 go_wp2_with(refine q3I rfl _ rfl w.heap.size rfl k0 (K:Nat) a0 b0 c0 d0 l0 h0 HN1.o ?_)
 generalize (w.alloc (.cells (X.setIfInBounds 1 (.int .i64 (K:Nat))) 98)).alloc (.cells #[.int .i64 k0,.int .i64 (K:Nat),.int .u64 a0,.int .u64 b0,.int .u64 c0,.int .u64 d0,.int .i64 l0,.int .i64 h0] 98)=w2 at*;clear HN1 c1 f1 hl0 HB0 HR
 go_loopg [5,6] (K+1) (fun gk lv iv wr=>∃i:Nat,i<=K/\iv=.int .i64 i/\bH wr w.heap.size lv (x1::(ks.take i).flatten)/\Below w.heap.size w wr/\gk=K+1-i)
 case atStart=>exact⟨0,qd _,rfl,by simpa using HO2.o,HB2.o,rfl⟩
 case round=>
  clear HO2 HB2;obtain⟨i,hi,rfl,hO,hB,hgk⟩:=hrel;subst hgk;have HO:=qa hO;have HB:=qa hB;clear hO hB;by_cases hlt:i<K
  ·have qcB:=fun W=>HIX.o W i hlt
   have hbw:=hblk (by omega);have hcell:=(HB.o.cell (p:=⟨b,off+i,none⟩) hbw).trans (HC.o i hlt);have qg3:b<wr.heap.size:=by have:=HB.o.size;omega
   have HKI:=qa (bE.up (HN.o i hlt) ((HB.o)))
   have HLE:Hid (((x1::(ks.take i).flatten).map ndC).length+((ks.getD i []).map ndC).length<=1000000000):=qa (by
    have h1:((ks.take (i+1)).flatten).length<=ks.flatten.length:=by
     have:=j8 (i+1) ks;rw[<-this,jy,qj];rw[this];omega
    rw[aV ks i [] (by rw[<-HK.o];exact hlt),jy,qj]at h1;simp only[jI]at h1;simp only[qB,qA];omega)
   have HTS:Hid (x1::(ks.take (i+1)).flatten=(x1::(ks.take i).flatten)++ks.getD i []):=qa (by
    rw[aV ks i [] (by rw[<-HK.o];exact hlt),jy];simp)
   generalize vs.getD i undef=kv at*;generalize ks.getD i []=ki at*;generalize x1::(ks.take i).flatten=cur at*;clear HN HC
   go_wp2_with(at_builtin;refine eP 8 rfl (.tmp 18) (.tmp 22) 42 rfl w.heap.size 98 (.agg (ndA zN)) 64 underlying42 (by kernel_rfl) rfl (by decide) (by decide) u5 _ rfl HO.o kv _ rfl HKI.o (q9I ki) (q9J ki) HLE.o HB.o.size ?_;intro v' w5 hown1 hg1 hk1;have HO5:=qa hown1;have HB5:=qa (HB.o.grown hg1 HB.o.size (fun k hk=>(HO.o.lt k hk).1));clear hown1 hg1 hk1)
   go_roundg (K-i)
   case measure=>omega
   case rel=>exact⟨i+1,by omega,by go_num,by rw[HTS.o];unfold bH;rw[qH];exact HO5.o,HB5.o,by omega⟩
  obtain rfl:i=K:=by omega
  rw[HK.o,j3]at HO;go_wp2;go_ret;exact⟨_,rfl,HO.o,HB.o⟩
def qbD(B:Nat)(l:List Nd)(w:World)(e:Ending)(w':World):Prop:=∃v,e=.returned v/\bH w' B v l/\Below w.heap.size w w'
theorem qaY{w:World}{B k:Nat}{kv:Value}{vs:List Value}{ks:List (List Nd)}(h:Own w B 42 kv vs)(hr:iM w B vs ks)(hB:B<=w.heap.size)(hne:ks≠[])(hs:pY ks<=4000000):
  Calls prog 70 #[.int .i64 k,kv] w (qbD B (sH k ks) w):=by
 have qdE:=hr.1
 match ks,hne with
 |[l1],_=>
  obtain⟨v1,hvs⟩:∃v1,vs=[v1]:=List.length_eq_one_iff.1 qdE;subst hvs;obtain⟨oa,cap,b,hv,hd,hob,hcl,-,-⟩:=h.cases;obtain⟨off,qgu⟩:∃off,off=0:=⟨_,rfl⟩;rw[<-qgu]at hd;have hv0:kv=.slice oa 1 cap:=hv;subst hv0;have hix:=fun W=>aT (P:=prog) 22 42 underlying22 (by kernel_rfl) hd W .i64 0 (by omega) (by simp);have HN1:Hid (bH w B v1 l1):=qa (hr.2 0 (by simp));simp only[Int.toNat_zero,jF,qE]at hix;have qfk:w.cell? ⟨b,off,none⟩=some v1:=by rw[qgu];exact hcl 0 (by simp)
  clear hv qdE hd hcl hob qgu h hr;go_enter func70,ntmps70;go_wp2;go_ret;exact⟨v1,rfl,HN1.o,qn _ _⟩
 |l1::l2::ls2,_=>
  have HJ:=qa (qaX (x:=kN k) h.sl hr.1 (hr.nodes (qn _ _)) (by unfold pY at hs;omega));obtain⟨oa,cap,b,off,hv,-,-⟩:=h.sl;rw[qdE]at hv;have hv0:kv=.slice oa (ls2.length+1+1) cap:=hv;subst hv0;have HR3:Hid (sH k (l1::l2::ls2)=iZ (kN k) (l1::l2::ls2)):=qa rfl;have hn1:¬((ls2.length:Int)+1+1=1):=by omega
  have hn2:((ls2.length:Int)+1+1==1)=false:=by simpa using hn1
  rw[HR3.o];have HA:Hid (ndA (kN k)=#[.int .i64 k,.int .i64 0,.int .u64 0,.int .u64 0,.int .u64 0,.int .u64 0,.int .i64 0,.int .i64 0]):=qa rfl;rw[HA.o]at HJ;clear qdE hv h hr HR3 HA hs;generalize l1::l2::ls2=lss at*;generalize ls2.length=m at*;go_enter func70,ntmps70
  go_wp2_with((with_reducible refine(HJ.o).mono ?_);rintro e w2 ⟨v2,rfl,ho,hb⟩;have HO2:=qa (ho.mono hB);have HB2:=qa hb;clear ho hb)
  go_ret;exact⟨v2,rfl,HO2.o,HB2.o⟩
end Go.Cm
