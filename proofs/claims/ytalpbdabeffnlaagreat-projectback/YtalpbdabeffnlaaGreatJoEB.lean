import Derived.Test.YtalpbdabeffnlaaGreatJoEI
import Derived.Test.YtalpbdabeffnlaaGreatJoE
import Derived.Test.YtalpbdabeffnlaaGreatJoBE
import Derived.Test.YtalpbdabeffnlaaGreatJoK
/- The entry that comes at a place: the program's. -/
set_option linter.unusedVariables false
set_option linter.unusedSimpArgs false
namespace Go.Proofs.YtalpbdabeffnlaaGreat
open Go Go.Av Go.Fl
set_option maxRecDepth 100000
set_option maxHeartbeats 4000000

def e0 (w : List SEntry) : SEntry := w.getD 0 noEntry
def e1 (w : List SEntry) : SEntry := w.getD 1 noEntry
def txt0 (e : SEntry) : ByteArray := e.texts.getD 0 noS
def lastTxt (e : SEntry) : ByteArray := e.texts.getD (e.texts.length - 1) noS
/-- What the lens asks of the entries that go. -/
def comeOk (x : SLens) (w : List SEntry) : Prop :=
  (iEq x.kind 7 = true → 0 < (e0 w).texts.length) ∧ (iEq x.kind 8 = true → 0 < (e0 w).texts.length) ∧ (iEq x.kind 9 = true → whole (e0 w).n ∧ whole (e1 w).n ∧ 2 ≤ x.factor ∧ x.factor ≤ 1000)
def comeP (x : SLens) (f : SField) (k : Int) (w : List SEntry) : SEntry × Int :=
  if iEq x.kind 1 || (iEq x.kind 4 || iEq x.kind 5) then ({ e0 w with place := f.place }, 0)
  else if iEq x.kind 6 then (if iEq k 0 then { valueF f with n := (e0 w).n } else valueF f, 0)
  else if iEq x.kind 9 then (if iEq (joinF (e0 w).n (e1 w).n x.factor).2 0 then ({ valueF f with n := (joinF (e0 w).n (e1 w).n x.factor).1 }, 0) else (valueF f, (joinF (e0 w).n (e1 w).n x.factor).2))
  else if iEq x.kind 7 then (if sEq (txt0 (e0 w)) x.other then valueF f else { valueF f with texts := [txt0 (e0 w)] }, 0)
  else if iEq x.kind 10 then (if iLt 0 ((e0 w).texts.length : Int) then { valueF f with texts := [lastTxt (e0 w)] } else valueF f, 0)
  else if iEq x.kind 8 then ({ valueF f with texts := [(caseOf x.forth (txt0 (e0 w))).1] }, 0)
  else (valueF f, 0)
def encCome (p : SEntry × Int) : AV := .tup 2 (at_ (.p .any) [.p (encEntry p.1), .p (.val (.int .i64 p.2))])
theorem come_ret {a b : PV} {p : SEntry × Int} {e : SEntry} {c : Int} (h : p = (e, c)) (ha : PLe a (encEntry e)) (hb : PLe b (.val (.int .i64 c))) : RepLe (.tup 2 (at_ (.p .any) [.p a, .p b])) (encCome p) := by
  subst h; exact RepLe.tup2 (PLe.rep ha) (PLe.rep hb)
theorem entry5 {c0 c1 c2 c3 c4 : PV} {e : SEntry} (h0 : PLe c0 (.val (.int .i64 e.place.scope))) (h1 : PLe c1 (.val (.string e.place.group))) (h2 : PLe c2 (.val (.string e.place.name))) (h3 : PLe c3 (.val (.int .i64 e.n))) (h4 : PLe c4 (encStrs e.texts)) :
    PLe (aggL [c0, c1, c2, c3, c4]) (encEntry e) := PLe.agg (PLes.cons h0 (PLes.cons h1 (PLes.cons h2 (PLes.cons h3 (PLes.cons h4 PLes.end)))))
theorem f354 (x : SLens) (f : SField) (k : Int) (w : List SEntry) (hx : okLens x) (hc : comeOk x w) (hw0 : fitEntry (e0 w)) (h1 : iEq x.kind 2 = false → 0 < w.length) (h2 : iEq x.kind 9 = true → 1 < w.length) :
    PCall Tryz.prog 129 [encLens x, encField f, .val (.int .i64 k), encEntries w] (encCome (comeP x f k w)) [] := by
  have hlen : (e0 w).texts.length ≤ 8796093022208 := hw0
  refine gcode hT hM Tryz.func129 rfl rfl (rv := [(8, some 101), (9, none)]) rfl rfl rfl fun G hG => ?_
  conv => whnf
  refine CallK.go [] (f372 f) rfl rfl rfl rfl rfl ?_
  conv => whnf
  refine ⟨fun k1 => ?_, fun k1 => ?_⟩
  · have hw := h1 (iEq_ne 2 k1 (by decide))
    conv => whnf
    refine ⟨fun _ => ?_, fun h => Bool.noConfusion (k1.symm.trans h)⟩
    conv => whnf
    refine ⟨by omega, ?_⟩
    conv => whnf
    exact ⟨[], _, _, _, rfl, rfl, rfl, come_ret (e := { e0 w with place := f.place }) (by unfold comeP; rw [k1]; rfl) (entry5 (PLe.refl _) (PLe.refl _) (PLe.refl _) (PLe.refl _) (PLe.refl _)) (PLe.refl _), trivial⟩
  conv => whnf
  refine ⟨fun k4 => ?_, fun k4 => ?_⟩
  · have hw := h1 (iEq_ne 2 k4 (by decide))
    conv => whnf
    refine ⟨fun _ => ?_, fun h => Bool.noConfusion (k4.symm.trans h)⟩
    conv => whnf
    refine ⟨by omega, ?_⟩
    conv => whnf
    exact ⟨[], _, _, _, rfl, rfl, rfl, come_ret (e := { e0 w with place := f.place }) (by unfold comeP; rw [k1, k4]; rfl) (entry5 (PLe.refl _) (PLe.refl _) (PLe.refl _) (PLe.refl _) (PLe.refl _)) (PLe.refl _), trivial⟩
  conv => whnf
  refine ⟨fun k5 => ?_, fun k5 => ?_⟩
  · have hw := h1 (iEq_ne 2 k5 (by decide))
    conv => whnf
    refine ⟨by omega, ?_⟩
    conv => whnf
    exact ⟨[], _, _, _, rfl, rfl, rfl, come_ret (e := { e0 w with place := f.place }) (by unfold comeP; rw [k1, k4, k5]; rfl) (entry5 (PLe.refl _) (PLe.refl _) (PLe.refl _) (PLe.refl _) (PLe.refl _)) (PLe.refl _), trivial⟩
  have base : (iEq x.kind 1 || (iEq x.kind 4 || iEq x.kind 5)) = false := by rw [k1, k4, k5]; rfl
  clear k1 k4 k5
  conv => whnf
  refine ⟨fun k6 => ?_, fun k6 => ?_⟩
  · have hw := h1 (iEq_ne 2 k6 (by decide))
    conv => whnf
    refine ⟨fun q0 => ?_, fun q0 => ?_⟩
    · conv => whnf
      refine ⟨by omega, ?_⟩
      conv => whnf
      exact ⟨[], _, _, _, rfl, rfl, rfl, come_ret (e := { valueF f with n := (e0 w).n }) (by unfold comeP; rw [base, k6, q0]; rfl) (entry5 (PLe.refl _) (PLe.refl _) (PLe.refl _) (PLe.refl _) (PLe.refl _)) (PLe.refl _), trivial⟩
    conv => whnf
    exact ⟨[], _, _, _, rfl, rfl, rfl, come_ret (e := valueF f) (by unfold comeP; rw [base, k6, q0]; rfl) (entry5 (PLe.refl _) (PLe.refl _) (PLe.refl _) (PLe.refl _) (PLe.refl _)) (PLe.refl _), trivial⟩
  conv => whnf
  refine ⟨fun k9 => ?_, fun k9 => ?_⟩
  · have hw := h2 k9
    obtain ⟨g1, g2, g3, g4⟩ := hc.2.2 k9
    conv => whnf
    refine ⟨by omega, ?_⟩
    conv => whnf
    refine ⟨by omega, ?_⟩
    conv => whnf
    refine CallK.go [] (f373 g1 g2 g3 g4) rfl rfl rfl rfl rfl ?_
    conv => whnf
    refine ⟨rfl, ?_⟩
    conv => whnf
    refine ⟨fun q0 => ?_, fun q0 => ?_⟩
    · have q0 := nott q0
      conv => whnf
      exact ⟨[], _, _, _, rfl, rfl, rfl, come_ret (e := valueF f) (by unfold comeP; rw [base, k6, k9, q0]; rfl) (entry5 (PLe.refl _) (PLe.refl _) (PLe.refl _) (PLe.refl _) (PLe.refl _)) (PLe.refl _), trivial⟩
    have q0 := notf q0
    conv => whnf
    exact ⟨[], _, _, _, rfl, rfl, rfl, come_ret (e := { valueF f with n := (joinF (e0 w).n (e1 w).n x.factor).1 }) (by unfold comeP; rw [base, k6, k9, q0]; rfl) (entry5 (PLe.refl _) (PLe.refl _) (PLe.refl _) (PLe.refl _) (PLe.refl _)) (PLe.refl _), trivial⟩
  conv => whnf
  refine ⟨fun k7 => ?_, fun k7 => ?_⟩
  · have hw := h1 (iEq_ne 2 k7 (by decide))
    have ht := hc.1 k7
    conv => whnf
    refine ⟨by omega, ?_⟩
    conv => whnf
    refine ⟨⟨Int.le_refl _, Int.ofNat_lt.2 ht⟩, ?_⟩
    conv => whnf
    refine ⟨fun q0 => ?_, fun q0 => ?_⟩
    · have q0 : sEq (txt0 (e0 w)) x.other = false := nott q0
      conv => whnf
      refine .inl ?_
      conv => whnf
      exact ⟨[], _, _, _, rfl, rfl, rfl, come_ret (e := { valueF f with texts := [txt0 (e0 w)] }) (by unfold comeP; rw [base, k6, k9, k7, q0]; rfl) (entry5 (PLe.refl _) (PLe.refl _) (PLe.refl _) (PLe.refl _) (strs1 (PLe.refl _))) (PLe.refl _), trivial⟩
    have q0 : sEq (txt0 (e0 w)) x.other = true := notf q0
    conv => whnf
    exact ⟨[], _, _, _, rfl, rfl, rfl, come_ret (e := valueF f) (by unfold comeP; rw [base, k6, k9, k7, q0]; rfl) (entry5 (PLe.refl _) (PLe.refl _) (PLe.refl _) (PLe.refl _) (PLe.refl _)) (PLe.refl _), trivial⟩
  conv => whnf
  refine ⟨fun k10 => ?_, fun k10 => ?_⟩
  · have hw := h1 (iEq_ne 2 k10 (by decide))
    conv => whnf
    refine ⟨by omega, ?_⟩
    conv => whnf
    refine ⟨fun q0 => ?_, fun q0 => ?_⟩
    · have ht : 0 < (e0 w).texts.length := by have := iLt_t.1 q0; exact Int.ofNat_lt.1 this
      conv => whnf
      intro z hz
      have hz : z = wrapO .i64 (((e0 w).texts.length : Int) - 1) := hz
      have hz := wrap64_eq hz (by omega) (by omega)
      have hz2 : z = (((e0 w).texts.length - 1 : Nat) : Int) := by omega
      clear hz
      subst hz2
      conv => whnf
      refine ⟨⟨Int.natCast_nonneg _, Int.ofNat_lt.2 (show (e0 w).texts.length - 1 < (e0 w).texts.length by omega)⟩, ?_⟩
      conv => whnf
      refine .inl ?_
      conv => whnf
      exact ⟨[], _, _, _, rfl, rfl, rfl, come_ret (e := { valueF f with texts := [lastTxt (e0 w)] }) (by unfold comeP; rw [base, k6, k9, k7, k10, show iLt 0 ((e0 w).texts.length : Int) = true from q0]; rfl) (entry5 (PLe.refl _) (PLe.refl _) (PLe.refl _) (PLe.refl _) (strs1 (PLe.refl _))) (PLe.refl _), trivial⟩
    conv => whnf
    exact ⟨[], _, _, _, rfl, rfl, rfl, come_ret (e := valueF f) (by unfold comeP; rw [base, k6, k9, k7, k10, show iLt 0 ((e0 w).texts.length : Int) = false from q0]; rfl) (entry5 (PLe.refl _) (PLe.refl _) (PLe.refl _) (PLe.refl _) (PLe.refl _)) (PLe.refl _), trivial⟩
  conv => whnf
  refine ⟨fun k8 => ?_, fun k8 => ?_⟩
  · have hw := h1 (iEq_ne 2 k8 (by decide))
    have ht := hc.2.1 k8
    conv => whnf
    refine ⟨by omega, ?_⟩
    conv => whnf
    refine ⟨⟨Int.le_refl _, Int.ofNat_lt.2 ht⟩, ?_⟩
    conv => whnf
    refine CallK.go [] (f54 x.forth (txt0 (e0 w)) hx.2.1) rfl rfl rfl rfl rfl ?_
    conv => whnf
    refine ⟨rfl, ?_⟩
    conv => whnf
    refine .inl ?_
    conv => whnf
    exact ⟨[], _, _, _, rfl, rfl, rfl, come_ret (e := { valueF f with texts := [(caseOf x.forth (txt0 (e0 w))).1] }) (by unfold comeP; rw [base, k6, k9, k7, k10, k8]; rfl) (entry5 (PLe.refl _) (PLe.refl _) (PLe.refl _) (PLe.refl _) (strs1 (PLe.refl _))) (PLe.refl _), trivial⟩
  conv => whnf
  exact ⟨[], _, _, _, rfl, rfl, rfl, come_ret (e := valueF f) (by unfold comeP; rw [base, k6, k9, k7, k10, k8]; rfl) (entry5 (PLe.refl _) (PLe.refl _) (PLe.refl _) (PLe.refl _) (PLe.refl _)) (PLe.refl _), trivial⟩
end Go.Proofs.YtalpbdabeffnlaaGreat

/- The entry that comes at a place: the reference's. -/
set_option linter.unusedVariables false
set_option linter.unusedSimpArgs false
namespace Go.Proofs.YtalpbdabeffnlaaGreat
open Go Go.Av Go.Fl
set_option maxRecDepth 100000
set_option maxHeartbeats 4000000

def g0 (x : SLens) (es : List SEntry) : SEntry := (atF es ((goes2 x).getD 0 noRef)).1
def g1 (x : SLens) (es : List SEntry) : SEntry := (atF es ((goes2 x).getD 1 noRef)).1
def wentF (x : SLens) (es : List SEntry) : List SEntry := (goes2 x).map fun r => (atF es r).1
def comeR (x : SLens) (f : SField) (k : Int) (es : List SEntry) : SEntry × Bool :=
  if iEq x.kind 2 || (iEq x.kind 6 && iEq k 1) then (valueF f, true)
  else if iEq x.kind 6 then (⟨f.place, (g0 x es).n, []⟩, true)
  else if iEq x.kind 9 then (if farI (g1 x es).n || (farI ((g1 x es).n * x.factor) || farI ((g0 x es).n + (g1 x es).n * x.factor)) then (noEntry, false) else (⟨f.place, (g0 x es).n + (g1 x es).n * x.factor, []⟩, true))
  else if iEq x.kind 7 then (if sEq (txt0 (g0 x es)) x.other then ⟨f.place, 0, []⟩ else ⟨f.place, 0, [txt0 (g0 x es)]⟩, true)
  else if iEq x.kind 10 then (⟨f.place, 0, [if iLt 0 ((g0 x es).texts.length : Int) then lastTxt (g0 x es) else x.other]⟩, true)
  else if iEq x.kind 8 then (⟨f.place, 0, [(caseOf x.forth (txt0 (g0 x es))).1]⟩, true)
  else ({ g0 x es with place := f.place }, true)
def comeOkR (x : SLens) (es : List SEntry) : Prop :=
  (iEq x.kind 7 = true → 0 < (g0 x es).texts.length) ∧ (iEq x.kind 8 = true → 0 < (g0 x es).texts.length) ∧ (iEq x.kind 9 = true → whole (g0 x es).n ∧ whole (g1 x es).n ∧ 2 ≤ x.factor ∧ x.factor ≤ 1000)
theorem goes_pos {x : SLens} (h : iEq x.kind 2 = false) : 0 < (goes2 x).length := by
  unfold goes2; rw [h]
  cases iEq x.kind 3
  · cases iEq x.kind 9
    · exact (show 0 < 1 by decide)
    · exact (show 0 < 2 by decide)
  · exact (show 0 < 1 by decide)
theorem goes_two {x : SLens} (h : iEq x.kind 9 = true) : 1 < (goes2 x).length := by
  unfold goes2; rw [iEq_ne 2 h (by decide), iEq_ne 3 h (by decide), h]; exact (show 1 < 2 by decide)
theorem f358 (x : SLens) (f : SField) (k : Int) (es : List SEntry) (hx : okLens x) (he : fitEntries es) (hc : comeOkR x es) (hf : fitEntry (g0 x es)) :
    PCall Tryz.prog 133 [encLens x, encField f, .val (.int .i64 k), encEntries es] (encAt (comeR x f k es)) [] := by
  have hlen : (g0 x es).texts.length ≤ 8796093022208 := hf
  refine gcode hT hM Tryz.func133 rfl rfl (rv := [(8, some 101), (9, none)]) rfl rfl rfl fun G hG => ?_
  conv => whnf
  refine ⟨fun k2 => ?_, fun k2 => ?_⟩
  · conv => whnf
    refine CallK.go [] (f375 f) rfl rfl rfl rfl rfl ?_
    conv => whnf
    exact ⟨[], _, _, _, rfl, rfl, rfl, at_ret (e := valueF f) (by unfold comeR; rw [k2]; rfl) (PLe.refl _) (PLe.bool _), trivial⟩
  have hpos := goes_pos k2
  conv => whnf
  refine ⟨fun k6 => ?_, fun k6 => ?_⟩
  · conv => whnf
    refine ⟨fun q1 => ?_, fun q1 => ?_⟩
    · conv => whnf
      refine CallK.go [] (f375 f) rfl rfl rfl rfl rfl ?_
      conv => whnf
      exact ⟨[], _, _, _, rfl, rfl, rfl, at_ret (e := valueF f) (by unfold comeR; rw [k2, k6, q1]; rfl) (PLe.refl _) (PLe.bool _), trivial⟩
    conv => whnf
    refine CallK.go [] (f59 x) rfl rfl rfl rfl rfl ?_
    conv => whnf
    refine ⟨by omega, ?_⟩
    conv => whnf
    refine CallK.go [] (f357 es ((goes2 x).getD 0 noRef) he) rfl rfl rfl rfl rfl ?_
    conv => whnf
    refine ⟨fun _ => ?_, fun h => Bool.noConfusion (k6.symm.trans h)⟩
    conv => whnf
    exact ⟨[], _, _, _, rfl, rfl, rfl, at_ret (e := ⟨f.place, (g0 x es).n, []⟩) (by unfold comeR; rw [k2, k6, q1]; rfl) (entry5 (PLe.refl _) (PLe.refl _) (PLe.refl _) (PLe.refl _) PLe.nil) (PLe.bool _), trivial⟩
  conv => whnf
  refine CallK.go [] (f59 x) rfl rfl rfl rfl rfl ?_
  conv => whnf
  refine ⟨by omega, ?_⟩
  conv => whnf
  refine CallK.go [] (f357 es ((goes2 x).getD 0 noRef) he) rfl rfl rfl rfl rfl ?_
  conv => whnf
  refine ⟨fun h => Bool.noConfusion (k6.symm.trans h), fun _ => ?_⟩
  conv => whnf
  refine ⟨fun k9 => ?_, fun k9 => ?_⟩
  · have hw := goes_two k9
    obtain ⟨w1, w2, w3, w4⟩ := hc.2.2 k9
    have hb := mul_bound w2 w3 w4
    have hsum : -4503599627370496 ≤ (g0 x es).n ∧ (g0 x es).n ≤ 4503599627370496 := by unfold whole at w1; omega
    conv => whnf
    refine ⟨by omega, ?_⟩
    conv => whnf
    refine CallK.go [] (f357 es ((goes2 x).getD 1 noRef) he) rfl rfl rfl rfl rfl ?_
    conv => whnf
    refine CallK.lent (f376 (g1 x es).n) rfl ?_
    conv => whnf
    refine ⟨fun v1 => ?_, fun v1 => ?_⟩
    · conv => whnf
      exact ⟨[], _, _, _, rfl, rfl, rfl, at_ret (e := noEntry) (by unfold comeR; rw [k2, k6, k9, v1]; rfl) (entry5 (PLe.refl _) (PLe.refl _) (PLe.refl _) (PLe.refl _) PLe.nil) (PLe.bool _), trivial⟩
    conv => whnf
    intro z hz
    have hz : z = wrapO .i64 ((g1 x es).n * x.factor) := hz
    have hz := wrap64_eq hz (by omega) (by omega)
    subst hz
    conv => whnf
    refine CallK.lent (f376 ((g1 x es).n * x.factor)) rfl ?_
    conv => whnf
    refine ⟨fun v2 => ?_, fun v2 => ?_⟩
    · conv => whnf
      exact ⟨[], _, _, _, rfl, rfl, rfl, at_ret (e := noEntry) (by unfold comeR; rw [k2, k6, k9, v1, v2]; rfl) (entry5 (PLe.refl _) (PLe.refl _) (PLe.refl _) (PLe.refl _) PLe.nil) (PLe.bool _), trivial⟩
    conv => whnf
    intro z hz
    have hz : z = wrapO .i64 ((g1 x es).n * x.factor) := hz
    have hz := wrap64_eq hz (by omega) (by omega)
    subst hz
    conv => whnf
    intro z hz
    have hz : z = wrapO .i64 ((g0 x es).n + (g1 x es).n * x.factor) := hz
    have hz := wrap64_eq hz (by omega) (by omega)
    subst hz
    conv => whnf
    refine CallK.lent (f376 ((g0 x es).n + (g1 x es).n * x.factor)) rfl ?_
    conv => whnf
    refine ⟨fun v3 => ?_, fun v3 => ?_⟩
    · conv => whnf
      exact ⟨[], _, _, _, rfl, rfl, rfl, at_ret (e := noEntry) (by unfold comeR; rw [k2, k6, k9, v1, v2, v3]; rfl) (entry5 (PLe.refl _) (PLe.refl _) (PLe.refl _) (PLe.refl _) PLe.nil) (PLe.bool _), trivial⟩
    conv => whnf
    intro z hz
    have hz : z = wrapO .i64 ((g1 x es).n * x.factor) := hz
    have hz := wrap64_eq hz (by omega) (by omega)
    subst hz
    conv => whnf
    intro z hz
    have hz : z = wrapO .i64 ((g0 x es).n + (g1 x es).n * x.factor) := hz
    have hz := wrap64_eq hz (by omega) (by omega)
    subst hz
    conv => whnf
    exact ⟨[], _, _, _, rfl, rfl, rfl, at_ret (e := ⟨f.place, (g0 x es).n + (g1 x es).n * x.factor, []⟩) (by unfold comeR; rw [k2, k6, k9, v1, v2, v3]; rfl) (entry5 (PLe.refl _) (PLe.refl _) (PLe.refl _) (PLe.refl _) PLe.nil) (PLe.bool _), trivial⟩
  conv => whnf
  refine ⟨fun k7 => ?_, fun k7 => ?_⟩
  · have ht := hc.1 k7
    conv => whnf
    refine ⟨⟨Int.le_refl _, Int.ofNat_lt.2 ht⟩, ?_⟩
    conv => whnf
    refine ⟨rfl, ?_⟩
    conv => whnf
    refine ⟨fun q0 => ?_, fun q0 => ?_⟩
    · have q0 : sEq (txt0 (g0 x es)) x.other = true := q0
      conv => whnf
      exact ⟨[], _, _, _, rfl, rfl, rfl, at_ret (e := ⟨f.place, 0, []⟩) (by unfold comeR; rw [k2, k6, k9, k7, q0]; rfl) (entry5 (PLe.refl _) (PLe.refl _) (PLe.refl _) (PLe.refl _) PLe.nil) (PLe.bool _), trivial⟩
    have q0 : sEq (txt0 (g0 x es)) x.other = false := q0
    conv => whnf
    refine ⟨⟨Int.le_refl _, Int.ofNat_lt.2 ht⟩, ?_⟩
    conv => whnf
    refine ⟨rfl, ?_⟩
    conv => whnf
    exact ⟨[], _, _, _, rfl, rfl, rfl, at_ret (e := ⟨f.place, 0, [txt0 (g0 x es)]⟩) (by unfold comeR; rw [k2, k6, k9, k7, q0]; rfl) (entry5 (PLe.refl _) (PLe.refl _) (PLe.refl _) (PLe.refl _) (strs1 (PLe.refl _))) (PLe.bool _), trivial⟩
  conv => whnf
  refine ⟨fun k10 => ?_, fun k10 => ?_⟩
  · conv => whnf
    refine ⟨fun q0 => ?_, fun q0 => ?_⟩
    · have q0 : iLt 0 ((g0 x es).texts.length : Int) = true := q0
      have ht : 0 < (g0 x es).texts.length := by have := iLt_t.1 q0; exact Int.ofNat_lt.1 this
      conv => whnf
      intro z hz
      have hz : z = wrapO .i64 (((g0 x es).texts.length : Int) - 1) := hz
      have hz := wrap64_eq hz (by omega) (by omega)
      have hz2 : z = (((g0 x es).texts.length - 1 : Nat) : Int) := by omega
      clear hz
      subst hz2
      conv => whnf
      refine ⟨⟨Int.natCast_nonneg _, Int.ofNat_lt.2 (show (g0 x es).texts.length - 1 < (g0 x es).texts.length by omega)⟩, ?_⟩
      conv => whnf
      exact ⟨[], _, _, _, rfl, rfl, rfl, at_ret (e := ⟨f.place, 0, [lastTxt (g0 x es)]⟩) (by unfold comeR; rw [k2, k6, k9, k7, k10, q0]; rfl) (entry5 (PLe.refl _) (PLe.refl _) (PLe.refl _) (PLe.refl _) (strs1 (PLe.refl _))) (PLe.bool _), trivial⟩
    have q0 : iLt 0 ((g0 x es).texts.length : Int) = false := q0
    conv => whnf
    exact ⟨[], _, _, _, rfl, rfl, rfl, at_ret (e := ⟨f.place, 0, [x.other]⟩) (by unfold comeR; rw [k2, k6, k9, k7, k10, q0]; rfl) (entry5 (PLe.refl _) (PLe.refl _) (PLe.refl _) (PLe.refl _) (strs1 (PLe.refl _))) (PLe.bool _), trivial⟩
  conv => whnf
  refine ⟨fun k8 => ?_, fun k8 => ?_⟩
  · have ht := hc.2.1 k8
    conv => whnf
    refine ⟨⟨Int.le_refl _, Int.ofNat_lt.2 ht⟩, ?_⟩
    conv => whnf
    refine CallK.go [] (f55 x.forth (txt0 (g0 x es)) hx.2.1) rfl rfl rfl rfl rfl ?_
    conv => whnf
    refine ⟨rfl, ?_⟩
    conv => whnf
    exact ⟨[], _, _, _, rfl, rfl, rfl, at_ret (e := ⟨f.place, 0, [(caseOf x.forth (txt0 (g0 x es))).1]⟩) (by unfold comeR; rw [k2, k6, k9, k7, k10, k8]; rfl) (entry5 (PLe.refl _) (PLe.refl _) (PLe.refl _) (PLe.refl _) (strs1 (PLe.refl _))) (PLe.bool _), trivial⟩
  conv => whnf
  exact ⟨[], _, _, _, rfl, rfl, rfl, at_ret (e := { g0 x es with place := f.place }) (by unfold comeR; rw [k2, k6, k9, k7, k10, k8]; rfl) (entry5 (PLe.refl _) (PLe.refl _) (PLe.refl _) (PLe.refl _) (PLe.refl _)) (PLe.bool _), trivial⟩
end Go.Proofs.YtalpbdabeffnlaaGreat

/- Documents: too heavy, the same, in new memory. -/
set_option linter.unusedVariables false
set_option linter.unusedSimpArgs false
namespace Go.Proofs.YtalpbdabeffnlaaGreat
open Go Go.Av
set_option maxRecDepth 100000
set_option maxHeartbeats 4000000

def heavyEntry (e : SEntry) : Bool := (bigS e.place.group || (bigS e.place.name || iLt 410 e.texts.length)) || !allUpto (fun k => !bigS (e.texts.getD k noS)) e.texts.length 0
def heavyEntries (l : List SEntry) : Bool := iLt 40 l.length || !allUpto (fun i => !heavyEntry (l.getD i noEntry)) l.length 0
theorem f334 (l : List SEntry) (hl : fitEntries l) : PCall Tryz.prog 65 [encEntries l] (.p (.val (.bool (heavyEntries l)))) [] := by
  have hlen : l.length ≤ 1954687338211 := hl.1
  refine gcode hT hM Tryz.func65 rfl rfl (rv := [(2, none)]) rfl rfl rfl fun G hG => ?_
  conv => whnf
  refine ⟨fun h => ?_, fun h => ?_⟩
  · conv => whnf
    exact ⟨[], _, _, _, rfl, rfl, rfl, RepLe.bl (by unfold heavyEntries; rw [h]; rfl), trivial⟩
  conv => whnf
  refine AW.loop (X := Nat) (fun i => told 61 [(0, .p (encEntries l)), (3, vI .i64 (i : Int))] [] []) (fun i => i ≤ l.length ∧ heavyEntries l = !allUpto (fun i => !heavyEntry (l.getD i noEntry)) (l.length - i) i) (fun i => l.length - i) (used0 hG _) 0 ⟨by omega, by unfold heavyEntries; rw [h]; rfl⟩ (stle ⟨RepLe.refl _, RepLe.refl _, trivial⟩ trivial rfl) ?_
  rintro i ⟨hi, hr⟩
  refine codeK_aw hT hM _ _ _ ?_
  conv => whnf
  refine ⟨fun h4 => ?_, fun h4 => ?_⟩
  · have hlt : i < l.length := by rw [iLt_t] at h4; omega
    rw [allUpto_step _ hlt] at hr
    have htl : (l.getD i noEntry).texts.length ≤ 8796093022208 := hl.at i
    have ret : heavyEntry (l.getD i noEntry) = true → heavyEntries l = true := fun e => by rw [hr, e]; rfl
    conv => whnf
    refine ⟨by omega, ?_⟩
    conv => whnf
    refine ⟨fun a1 => ?_, fun a1 => ?_⟩
    · have a1 : bigS (l.getD i noEntry).place.group = true := a1
      have e : heavyEntry (l.getD i noEntry) = true := by unfold heavyEntry; rw [a1]; rfl
      conv => whnf
      exact ⟨[], _, _, _, rfl, rfl, rfl, RepLe.bl (ret e).symm, trivial⟩
    have a1 : bigS (l.getD i noEntry).place.group = false := a1
    conv => whnf
    refine ⟨by omega, ?_⟩
    conv => whnf
    refine ⟨fun a2 => ?_, fun a2 => ?_⟩
    · have a2 : bigS (l.getD i noEntry).place.name = true := a2
      have e : heavyEntry (l.getD i noEntry) = true := by unfold heavyEntry; rw [a1, a2]; rfl
      conv => whnf
      exact ⟨[], _, _, _, rfl, rfl, rfl, RepLe.bl (ret e).symm, trivial⟩
    have a2 : bigS (l.getD i noEntry).place.name = false := a2
    conv => whnf
    refine ⟨by omega, ?_⟩
    conv => whnf
    refine ⟨fun a3 => ?_, fun a3 => ?_⟩
    · have a3 : iLt 410 ((l.getD i noEntry).texts.length : Int) = true := a3
      have e : heavyEntry (l.getD i noEntry) = true := by unfold heavyEntry; rw [a1, a2, a3]; rfl
      conv => whnf
      exact ⟨[], _, _, _, rfl, rfl, rfl, RepLe.bl (ret e).symm, trivial⟩
    have a3 : iLt 410 ((l.getD i noEntry).texts.length : Int) = false := a3
    have he : heavyEntry (l.getD i noEntry) = !allUpto (fun k => !bigS ((l.getD i noEntry).texts.getD k noS)) (l.getD i noEntry).texts.length 0 := by unfold heavyEntry; rw [a1, a2, a3]; rfl
    conv => whnf
    refine AW.loop (X := Nat) (fun k => told 61 [(0, .p (encEntries l)), (3, vI .i64 (i : Int)), (4, vI .i64 (k : Int))] [] []) (fun k => k ≤ (l.getD i noEntry).texts.length ∧ heavyEntry (l.getD i noEntry) = !allUpto (fun k => !bigS ((l.getD i noEntry).texts.getD k noS)) ((l.getD i noEntry).texts.length - k) k) (fun k => (l.getD i noEntry).texts.length - k) (used0 hG _) 0 ⟨Nat.zero_le _, he⟩ (stle ⟨RepLe.refl _, RepLe.refl _, RepLe.refl _, trivial⟩ trivial rfl) ?_
    rintro k ⟨hk, hrk⟩
    refine codeK_aw hT hM _ _ _ ?_
    conv => whnf
    refine ⟨by omega, ?_⟩
    conv => whnf
    refine ⟨fun h5 => ?_, fun h5 => ?_⟩
    · have h5 : iLt (k : Int) ((l.getD i noEntry).texts.length : Int) = true := h5
      have hlt2 : k < (l.getD i noEntry).texts.length := by rw [iLt_t] at h5; omega
      rw [allUpto_step _ hlt2] at hrk
      conv => whnf
      refine ⟨by omega, ?_⟩
      conv => whnf
      refine ⟨⟨Int.natCast_nonneg _, Int.ofNat_lt.2 (show k < (l.getD i noEntry).texts.length from hlt2)⟩, ?_⟩
      conv => whnf
      refine ⟨fun b1 => ?_, fun b1 => ?_⟩
      · have e : heavyEntry (l.getD i noEntry) = true := by rw [hrk, show bigS ((l.getD i noEntry).texts.getD k noS) = true from b1]; rfl
        conv => whnf
        exact ⟨[], _, _, _, rfl, rfl, rfl, RepLe.bl (ret e).symm, trivial⟩
      have b1 : bigS ((l.getD i noEntry).texts.getD k noS) = false := b1
      rw [b1] at hrk
      conv => whnf
      intro z hz
      have hy := wrap64_eq hz (by omega) (by omega)
      clear hz
      subst hy
      conv => whnf
      exact ⟨k + 1, ⟨hlt2, hrk⟩, by omega, stle ⟨RepLe.refl _, RepLe.refl _, RepLe.of rfl, trivial⟩ trivial rfl⟩
    have h5 : iLt (k : Int) ((l.getD i noEntry).texts.length : Int) = false := h5
    have hge : k = (l.getD i noEntry).texts.length := by rw [iLt_f] at h5; omega
    rw [hge, Nat.sub_self] at hrk
    have e : heavyEntry (l.getD i noEntry) = false := hrk
    rw [e] at hr
    conv => whnf
    intro z hz
    have hy := wrap64_eq hz (by omega) (by omega)
    clear hz
    subst hy
    conv => whnf
    exact ⟨i + 1, ⟨hlt, hr⟩, by omega, stle ⟨RepLe.refl _, RepLe.of rfl, trivial⟩ trivial rfl⟩
  have hge : i = l.length := by rw [iLt_f] at h4; omega
  subst hge
  conv => whnf
  exact ⟨[], _, _, _, rfl, rfl, rfl, RepLe.bl (by rw [hr, allUpto_end]; rfl), trivial⟩
def heavyDoc (d : SDoc) : Bool := (iLt 410 d.rows.length || heavyEntries d.head) || !allUpto (fun i => !(bigS (d.rows.getD i noRow).item || heavyEntries (d.rows.getD i noRow).l)) d.rows.length 0
theorem f316 (d : SDoc) (hd : fitDoc d) : PCall Tryz.prog 26 [encDoc d] (.p (.val (.bool (heavyDoc d)))) [] := by
  have hlen : d.rows.length ≤ 3518437208780 := hd.2.1
  refine gcode hT hM Tryz.func26 rfl rfl (rv := [(2, none)]) rfl rfl rfl fun G hG => ?_
  conv => whnf
  refine ⟨fun a1 => ?_, fun a1 => ?_⟩
  · conv => whnf
    exact ⟨[], _, _, _, rfl, rfl, rfl, RepLe.bl (by unfold heavyDoc; rw [a1]; rfl), trivial⟩
  conv => whnf
  refine CallK.lent (f334 d.head hd.1) rfl ?_
  conv => whnf
  refine ⟨fun a2 => ?_, fun a2 => ?_⟩
  · conv => whnf
    exact ⟨[], _, _, _, rfl, rfl, rfl, RepLe.bl (by unfold heavyDoc; rw [a1, a2]; rfl), trivial⟩
  conv => whnf
  refine AW.loop (X := Nat) (fun i => told 37 [(1, .pt 0 0), (3, vI .i64 (i : Int))] [(0, some (.box 61 ((docCells d).map .p)))] [0]) (fun i => i ≤ d.rows.length ∧ heavyDoc d = !allUpto (fun i => !(bigS (d.rows.getD i noRow).item || heavyEntries (d.rows.getD i noRow).l)) (d.rows.length - i) i) (fun i => d.rows.length - i) (used0 hG _) 0 ⟨by omega, by unfold heavyDoc; rw [a1, a2]; rfl⟩ (stle ⟨RepLe.refl _, RepLe.refl _, trivial⟩ ⟨⟨_, rfl, BlkLe.refl _⟩, trivial⟩ rfl) ?_
  rintro i ⟨hi, hr⟩
  refine codeK_aw hT hM _ _ _ ?_
  conv => whnf
  refine ⟨fun h4 => ?_, fun h4 => ?_⟩
  · have hlt : i < d.rows.length := by rw [iLt_t] at h4; omega
    rw [allUpto_step _ hlt] at hr
    conv => whnf
    refine ⟨by omega, ?_⟩
    conv => whnf
    refine ⟨fun b1 => ?_, fun b1 => ?_⟩
    · have b1 : bigS (d.rows.getD i noRow).item = true := b1
      conv => whnf
      exact ⟨[], _, _, _, rfl, rfl, rfl, RepLe.bl (by rw [hr, b1]; rfl), trivial⟩
    have b1 : bigS (d.rows.getD i noRow).item = false := b1
    conv => whnf
    refine ⟨by omega, ?_⟩
    conv => whnf
    refine CallK.lent (f334 (d.rows.getD i noRow).l (hd.row i)) rfl ?_
    conv => whnf
    refine ⟨fun b2 => ?_, fun b2 => ?_⟩
    · conv => whnf
      exact ⟨[], _, _, _, rfl, rfl, rfl, RepLe.bl (by rw [hr, b1, b2]; rfl), trivial⟩
    rw [b1, b2] at hr
    conv => whnf
    intro z hz
    have hy := wrap64_eq hz (by omega) (by omega)
    clear hz
    subst hy
    conv => whnf
    exact ⟨i + 1, ⟨hlt, hr⟩, by omega, stle ⟨RepLe.refl _, RepLe.of rfl, trivial⟩ ⟨⟨_, rfl, BlkLe.refl _⟩, trivial⟩ rfl⟩
  have hge : i = d.rows.length := by rw [iLt_f] at h4; omega
  subst hge
  conv => whnf
  exact ⟨[], _, _, _, rfl, rfl, rfl, RepLe.bl (by rw [hr, allUpto_end]; rfl), trivial⟩
def sameEntry (a b : SEntry) : Bool := sameRef a.place b.place && (iEq a.n b.n && sameStrs a.texts b.texts)
def sameEntries (l m : List SEntry) : Bool := decide (l.length = m.length) && allUpto (fun i => sameEntry (l.getD i noEntry) (m.getD i noEntry)) l.length 0
theorem f339 (l m : List SEntry) (hl : fitEntries l) : PCall Tryz.prog 72 [encEntries l, encEntries m] (.p (.val (.bool (sameEntries l m)))) [] := by
  have hlen : l.length ≤ 1954687338211 := hl.1
  refine gcode hT hM Tryz.func72 rfl rfl (rv := [(4, none)]) rfl rfl rfl fun G hG => ?_
  conv => whnf
  refine ⟨fun h => ?_, fun h => ?_⟩
  · conv => whnf
    exact ⟨[], _, _, _, rfl, rfl, rfl, RepLe.bl (by simp [iEq_f] at h; simp [sameEntries]; omega), trivial⟩
  conv => whnf
  have heq : l.length = m.length := by simp [iEq_t] at h; omega
  refine AW.loop (X := Nat) (fun i => told 55 [(0, .p (encEntries l)), (1, .p (encEntries m)), (5, vI .i64 (i : Int))] [] []) (fun i => i ≤ l.length ∧ sameEntries l m = allUpto (fun i => sameEntry (l.getD i noEntry) (m.getD i noEntry)) (l.length - i) i) (fun i => l.length - i) (used0 hG _) 0 ⟨by omega, by simp [sameEntries, heq]⟩ (stle ⟨RepLe.refl _, RepLe.refl _, RepLe.refl _, trivial⟩ trivial rfl) ?_
  rintro i ⟨hi, hr⟩
  refine codeK_aw hT hM _ _ _ ?_
  conv => whnf
  refine ⟨fun h4 => ?_, fun h4 => ?_⟩
  · have hlt : i < l.length := by rw [iLt_t] at h4; omega
    rw [allUpto_step _ hlt] at hr
    conv => whnf
    refine ⟨by omega, ?_⟩
    conv => whnf
    refine ⟨by omega, ?_⟩
    conv => whnf
    refine ⟨fun a1 => ?_, fun a1 => ?_⟩
    · have a1 : sameRef (l.getD i noEntry).place (m.getD i noEntry).place = false := by unfold sameRef; have := nott a1; simpa using this
      conv => whnf
      refine ⟨rfl, ?_⟩
      conv => whnf
      exact ⟨[], _, _, _, rfl, rfl, rfl, RepLe.bl (by rw [hr]; unfold sameEntry; rw [a1]; rfl), trivial⟩
    have a1 : sameRef (l.getD i noEntry).place (m.getD i noEntry).place = true := by unfold sameRef; have := notf a1; simpa using this
    conv => whnf
    refine ⟨by omega, ?_⟩
    conv => whnf
    refine ⟨by omega, ?_⟩
    conv => whnf
    refine ⟨fun a2 => ?_, fun a2 => ?_⟩
    · have a2 : iEq (l.getD i noEntry).n (m.getD i noEntry).n = false := nott a2
      conv => whnf
      refine ⟨rfl, ?_⟩
      conv => whnf
      exact ⟨[], _, _, _, rfl, rfl, rfl, RepLe.bl (by rw [hr]; unfold sameEntry; rw [a1, a2]; rfl), trivial⟩
    have a2 : iEq (l.getD i noEntry).n (m.getD i noEntry).n = true := notf a2
    conv => whnf
    refine ⟨by omega, ?_⟩
    conv => whnf
    refine ⟨by omega, ?_⟩
    conv => whnf
    refine CallK.lent (f102 (l.getD i noEntry).texts (m.getD i noEntry).texts (Nat.le_trans (hl.at i) (by decide))) rfl ?_
    conv => whnf
    refine ⟨rfl, ?_⟩
    conv => whnf
    refine ⟨fun a3 => ?_, fun a3 => ?_⟩
    · have a3 : sameStrs (l.getD i noEntry).texts (m.getD i noEntry).texts = false := nott a3
      conv => whnf
      exact ⟨[], _, _, _, rfl, rfl, rfl, RepLe.bl (by rw [hr]; unfold sameEntry; rw [a1, a2, a3]; rfl), trivial⟩
    have a3 : sameStrs (l.getD i noEntry).texts (m.getD i noEntry).texts = true := notf a3
    conv => whnf
    intro z hz
    have hy := wrap64_eq hz (by omega) (by omega)
    clear hz
    subst hy
    conv => whnf
    exact ⟨i + 1, ⟨by omega, by rw [hr]; unfold sameEntry; rw [a1, a2, a3]; rfl⟩, by omega, stle ⟨RepLe.refl _, RepLe.refl _, RepLe.of rfl, trivial⟩ trivial rfl⟩
  · have hge : i = l.length := by rw [iLt_f] at h4; omega
    subst hge
    conv => whnf
    exact ⟨[], _, _, _, rfl, rfl, rfl, RepLe.bl (by rw [hr, allUpto_end]), trivial⟩

def sameDocRow (a b : SRow) : Bool := sEq a.item b.item && sameEntries a.l b.l
def sameDoc (a b : SDoc) : Bool := decide (a.rows.length = b.rows.length) && (sameEntries a.head b.head && allUpto (fun i => sameDocRow (a.rows.getD i noRow) (b.rows.getD i noRow)) a.rows.length 0)
theorem f320 (a b : SDoc) (ha : fitDoc a) : PCall Tryz.prog 30 [encDoc a, encDoc b] (.p (.val (.bool (sameDoc a b)))) [] := by
  have hlen : a.rows.length ≤ 3518437208780 := ha.2.1
  refine gcode hT hM Tryz.func30 rfl rfl (rv := [(4, none)]) rfl rfl rfl fun G hG => ?_
  conv => whnf
  refine ⟨fun h => ?_, fun h => ?_⟩
  · conv => whnf
    exact ⟨[], _, _, _, rfl, rfl, rfl, RepLe.bl (by simp [iEq_f] at h; simp [sameDoc]; omega), trivial⟩
  have heq : a.rows.length = b.rows.length := by simp [iEq_t] at h; omega
  conv => whnf
  refine CallK.lent (f339 a.head b.head ha.1) rfl ?_
  conv => whnf
  refine ⟨fun h2 => ?_, fun h2 => ?_⟩
  · have h2 := nott h2
    conv => whnf
    exact ⟨[], _, _, _, rfl, rfl, rfl, RepLe.bl (by unfold sameDoc; rw [h2, heq]; simp), trivial⟩
  have h2 := notf h2
  conv => whnf
  refine AW.loop (X := Nat) (fun i => told 57 [(2, .pt 0 0), (3, .pt 8 0), (5, vI .i64 (i : Int))] [(0, some (.box 61 ((docCells a).map .p))), (8, some (.box 61 ((docCells b).map .p)))] [0, 8]) (fun i => i ≤ a.rows.length ∧ sameDoc a b = allUpto (fun i => sameDocRow (a.rows.getD i noRow) (b.rows.getD i noRow)) (a.rows.length - i) i) (fun i => a.rows.length - i) (used0 hG _) 0 ⟨by omega, by unfold sameDoc; rw [h2]; simp [heq]⟩ (stle ⟨RepLe.refl _, RepLe.refl _, RepLe.refl _, trivial⟩ ⟨⟨_, rfl, BlkLe.refl _⟩, ⟨_, rfl, BlkLe.refl _⟩, trivial⟩ rfl) ?_
  rintro i ⟨hi, hr⟩
  refine codeK_aw hT hM _ _ _ ?_
  conv => whnf
  refine ⟨fun h4 => ?_, fun h4 => ?_⟩
  · have hlt : i < a.rows.length := by rw [iLt_t] at h4; omega
    rw [allUpto_step _ hlt] at hr
    conv => whnf
    refine ⟨by omega, ?_⟩
    conv => whnf
    refine ⟨by omega, ?_⟩
    conv => whnf
    refine ⟨fun a1 => ?_, fun a1 => ?_⟩
    · have a1 : sEq (a.rows.getD i noRow).item (b.rows.getD i noRow).item = false := nott a1
      conv => whnf
      refine ⟨rfl, ?_⟩
      conv => whnf
      exact ⟨[], _, _, _, rfl, rfl, rfl, RepLe.bl (by rw [hr]; unfold sameDocRow; rw [a1]; rfl), trivial⟩
    have a1 : sEq (a.rows.getD i noRow).item (b.rows.getD i noRow).item = true := notf a1
    conv => whnf
    refine ⟨by omega, ?_⟩
    conv => whnf
    refine ⟨by omega, ?_⟩
    conv => whnf
    refine CallK.lent (f339 (a.rows.getD i noRow).l (b.rows.getD i noRow).l (ha.row i)) rfl ?_
    conv => whnf
    refine ⟨rfl, ?_⟩
    conv => whnf
    refine ⟨fun a2 => ?_, fun a2 => ?_⟩
    · have a2 : sameEntries (a.rows.getD i noRow).l (b.rows.getD i noRow).l = false := nott a2
      conv => whnf
      exact ⟨[], _, _, _, rfl, rfl, rfl, RepLe.bl (by rw [hr]; unfold sameDocRow; rw [a1, a2]; rfl), trivial⟩
    have a2 : sameEntries (a.rows.getD i noRow).l (b.rows.getD i noRow).l = true := notf a2
    conv => whnf
    intro z hz
    have hy := wrap64_eq hz (by omega) (by omega)
    clear hz
    subst hy
    conv => whnf
    exact ⟨i + 1, ⟨by omega, by rw [hr]; unfold sameDocRow; rw [a1, a2]; rfl⟩, by omega, stle ⟨RepLe.refl _, RepLe.refl _, RepLe.of rfl, trivial⟩ ⟨⟨_, rfl, BlkLe.refl _⟩, ⟨_, rfl, BlkLe.refl _⟩, trivial⟩ rfl⟩
  have hge : i = a.rows.length := by rw [iLt_f] at h4; omega
  subst hge
  conv => whnf
  exact ⟨[], _, _, _, rfl, rfl, rfl, RepLe.bl (by rw [hr, allUpto_end]), trivial⟩
end Go.Proofs.YtalpbdabeffnlaaGreat
