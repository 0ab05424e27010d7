import Derived.Test.YtalpbdabeffnlaaGreatJoAR
import Derived.Test.YtalpbdabeffnlaaGreatJoBH
import Derived.Test.YtalpbdabeffnlaaGreatJoCD
/- The reference: a lens' places, a field put. -/
set_option linter.unusedVariables false
set_option linter.unusedSimpArgs false
namespace Go.Proofs.YtalpbdabeffnlaaGreat
open Go Go.Av
set_option maxRecDepth 100000
set_option maxHeartbeats 2000000

theorem f111 (r : SRef) (s : ByteArray) : PCall Tryz.prog 145 [encRef r, .val (.string s)] (.p (encRef { r with name := s })) [] := by
  refine gcode hT hM Tryz.func145 rfl rfl (rv := [(4, some 36)]) rfl rfl rfl fun G hG => ?_
  conv => whnf
  exact ⟨[], _, _, _, rfl, rfl, rfl, RepLe.refl _, trivial⟩
theorem f101 (f : SField) (r : SRef) : PCall Tryz.prog 88 [encField f, encRef r] (.p (encField { f with place := r })) [] := by
  refine gcode hT hM Tryz.func88 rfl rfl (rv := [(4, some 39)]) rfl rfl rfl fun G hG => ?_
  conv => whnf
  exact ⟨[], _, _, _, rfl, rfl, rfl, RepLe.refl _, trivial⟩
def goes2 (x : SLens) : List SRef := if iEq x.kind 2 then [] else if iEq x.kind 3 then [x.field.place] else if iEq x.kind 9 then twoOf x else [x.place]
theorem goes2_eq {x : SLens} (h : lensOk x = true) : goes2 x = goesOf x := by
  unfold goes2 goesOf
  rw [h]
  cases iEq x.kind 2 <;> rfl
theorem f59 (x : SLens) : PCall Tryz.prog 84 [encLens x] (.p (encRefs (goes2 x))) [] := by
  refine gcode hT hM Tryz.func84 rfl rfl (rv := [(2, none)]) rfl rfl rfl fun G hG => ?_
  conv => whnf
  refine ⟨fun k2 => ?_, fun k2 => ?_⟩
  · conv => whnf
    exact ⟨[], _, _, _, rfl, rfl, rfl, nil_refs (by unfold goes2; rw [k2]; rfl), trivial⟩
  conv => whnf
  refine ⟨fun k3 => ?_, fun k3 => ?_⟩
  · conv => whnf
    exact ⟨[], _, _, _, rfl, rfl, rfl, PLe.rep (refs1 (r := x.field.place) (by unfold goes2; rw [k2, k3]; rfl) (three rfl rfl rfl)), trivial⟩
  conv => whnf
  refine ⟨fun k9 => ?_, fun k9 => ?_⟩
  · conv => whnf
    refine CallK.go [] (f111 x.place x.name) rfl rfl rfl rfl rfl ?_
    conv => whnf
    refine CallK.go [] (f111 x.place x.other) rfl rfl rfl rfl rfl ?_
    conv => whnf
    refine ⟨rfl, ?_⟩
    conv => whnf
    exact ⟨[], _, _, _, rfl, rfl, rfl, PLe.rep (refs2 (r := { x.place with name := x.name }) (s := { x.place with name := x.other }) (by unfold goes2; rw [k2, k3, k9]; rfl) (three rfl rfl rfl) (three rfl rfl rfl)), trivial⟩
  conv => whnf
  exact ⟨[], _, _, _, rfl, rfl, rfl, PLe.rep (refs1 (r := x.place) (by unfold goes2; rw [k2, k3, k9]; rfl) (three rfl rfl rfl)), trivial⟩

def comes2 (x : SLens) : List SRef :=
  if iEq x.kind 2 then [x.field.place] else if iEq x.kind 3 then [] else if iEq x.kind 6 then twoOf x else if iEq x.kind 1 then [{ x.place with name := x.name }]
  else if iEq x.kind 4 then [{ x.place with group := noS }] else if iEq x.kind 5 then [{ x.place with group := x.name }] else [x.place]
theorem comes2_eq {x : SLens} (h : lensOk x = true) : comes2 x = comesOf x := by
  unfold comes2 comesOf
  rw [h]
  cases h2 : iEq x.kind 2 with
  | true =>
    rw [show iEq x.kind 3 = false by rw [iEq_t] at h2; rw [iEq_f]; omega]
    rfl
  | false =>
    cases h3 : iEq x.kind 3 with
    | true => rfl
    | false =>
      cases h6 : iEq x.kind 6 with
      | true =>
        rw [show iEq x.kind 1 = false by rw [iEq_t] at h6; rw [iEq_f]; omega, show iEq x.kind 4 = false by rw [iEq_t] at h6; rw [iEq_f]; omega, show iEq x.kind 5 = false by rw [iEq_t] at h6; rw [iEq_f]; omega]
        rfl
      | false => cases iEq x.kind 1 <;> cases iEq x.kind 4 <;> cases iEq x.kind 5 <;> rfl
theorem f60 (x : SLens) : PCall Tryz.prog 86 [encLens x] (.p (encRefs (comes2 x))) [] := by
  refine gcode hT hM Tryz.func86 rfl rfl (rv := [(2, none)]) rfl rfl rfl fun G hG => ?_
  conv => whnf
  refine ⟨fun k2 => ?_, fun k2 => ?_⟩
  · conv => whnf
    exact ⟨[], _, _, _, rfl, rfl, rfl, PLe.rep (refs1 (r := x.field.place) (by unfold comes2; rw [k2]; rfl) (three rfl rfl rfl)), trivial⟩
  conv => whnf
  refine ⟨fun k3 => ?_, fun k3 => ?_⟩
  · conv => whnf
    exact ⟨[], _, _, _, rfl, rfl, rfl, nil_refs (by unfold comes2; rw [k2, k3]; rfl), trivial⟩
  conv => whnf
  refine ⟨fun k6 => ?_, fun k6 => ?_⟩
  · conv => whnf
    refine CallK.go [] (f111 x.place x.name) rfl rfl rfl rfl rfl ?_
    conv => whnf
    refine CallK.go [] (f111 x.place x.other) rfl rfl rfl rfl rfl ?_
    conv => whnf
    refine ⟨rfl, ?_⟩
    conv => whnf
    exact ⟨[], _, _, _, rfl, rfl, rfl, PLe.rep (refs2 (r := { x.place with name := x.name }) (s := { x.place with name := x.other }) (by unfold comes2; rw [k2, k3, k6]; rfl) (three rfl rfl rfl) (three rfl rfl rfl)), trivial⟩
  conv => whnf
  refine ⟨fun k1 => ?_, fun k1 => ?_⟩
  · conv => whnf
    refine CallK.go [] (f111 x.place x.name) rfl rfl rfl rfl rfl ?_
    conv => whnf
    exact ⟨[], _, _, _, rfl, rfl, rfl, PLe.rep (refs1 (r := { x.place with name := x.name }) (by unfold comes2; rw [k2, k3, k6, k1]; rfl) (three rfl rfl rfl)), trivial⟩
  conv => whnf
  refine ⟨fun k4 => ?_, fun k4 => ?_⟩
  · have k5 : iEq x.kind 5 = false := by rw [iEq_t] at k4; rw [iEq_f]; omega
    conv => whnf
    refine ⟨fun h => Bool.noConfusion (k5.symm.trans h), fun _ => ?_⟩
    conv => whnf
    exact ⟨[], _, _, _, rfl, rfl, rfl, PLe.rep (refs1 (r := { x.place with group := noS }) (by unfold comes2; rw [k2, k3, k6, k1, k4]; rfl) (three rfl rfl rfl)), trivial⟩
  conv => whnf
  refine ⟨fun k5 => ?_, fun k5 => ?_⟩
  · conv => whnf
    exact ⟨[], _, _, _, rfl, rfl, rfl, PLe.rep (refs1 (r := { x.place with group := x.name }) (by unfold comes2; rw [k2, k3, k6, k1, k4, k5]; rfl) (three rfl rfl rfl)), trivial⟩
  conv => whnf
  exact ⟨[], _, _, _, rfl, rfl, rfl, PLe.rep (refs1 (r := x.place) (by unfold comes2; rw [k2, k3, k6, k1, k4, k5]; rfl) (three rfl rfl rfl)), trivial⟩

theorem f100 (l : List SField) (f : SField) (b : Bool) (hl : fitFields l) (hf : fitField f) : PCall Tryz.prog 87 [encFields l, encField f, .val (.bool b)] (encTurn ((withF l f).1, b && iEq (withF l f).2 0)) [] := by
  refine gcode hT hM Tryz.func87 rfl rfl (rv := [(6, none), (7, none)]) rfl rfl rfl fun G hG => ?_
  conv => whnf
  refine CallK.go [] (f46 l f hl hf) rfl rfl rfl rfl rfl ?_
  conv => whnf
  refine ⟨fun h => ?_, fun h => ?_⟩
  · conv => whnf
    exact ⟨[], _, _, _, rfl, rfl, rfl, turn_ret (by rw [h]; rfl) (PLe.refl _), trivial⟩
  conv => whnf
  exact ⟨[], _, _, _, rfl, rfl, rfl, turn_bl (by rw [h]; rfl) (PLe.refl _), trivial⟩

def hasRef (l : List SRef) (r : SRef) : Bool := !allUpto (fun i => !sameRef (l.getD i noRef) r) l.length 0
end Go.Proofs.YtalpbdabeffnlaaGreat

/- The reference's way of putting comes to the same as the code's: plain law. -/
set_option linter.unusedVariables false
set_option linter.unusedSimpArgs false
namespace Go.Proofs.YtalpbdabeffnlaaGreat
open Go Go.Av
set_option maxRecDepth 100000

theorem place_lt {l : List SField} {r : SRef} {j : Nat} (h : placeIn l r = some j) : j < l.length := by
  obtain ⟨_, h, _, _⟩ := findUpto_some _ _ _ _ h
  omega
theorem one_len {α : Type} {c : List α} (h : c.length = 1) : ∃ a, c = [a] := by
  match c, h with
  | [a], _ => exact ⟨a, rfl⟩
theorem two_len {α : Type} {c : List α} (h : c.length = 2) : ∃ a b, c = [a, b] := by
  match c, h with
  | [a, b], _ => exact ⟨a, b, rfl⟩
section
variable {l : List SField} {x : SLens} {rest was : List SField}
theorem fin_none {b : Bool} (h1 : rightFields l = true) (h2 : lensOk x = true) (ht : takeAll l (goesOf x) l [] = some (rest, was)) (hc : comesOf x = []) (hb : (turnedOf x was).2 = b) : applyF l x = if b then (rest, 0) else ([], 16) := by
  subst hb
  unfold applyF
  rw [h1, h2, ht, hc]
  rfl
theorem fin_one {b : Bool} {f : SField} (h1 : rightFields l = true) (h2 : lensOk x = true) (ht : takeAll l (goesOf x) l [] = some (rest, was)) (hc : (comesOf x).length = 1) (hb : (turnedOf x was).2 = b)
    (hf : b = true → { (turnedOf x was).1.getD 0 noField with place := (comesOf x).getD 0 noRef } = f) : applyF l x = if b && iEq (withF rest f).2 0 then ((withF rest f).1, 0) else ([], 16) := by
  subst hb
  obtain ⟨r, hc⟩ := one_len hc
  rw [hc] at hf
  unfold applyF
  rw [h1, h2, ht, hc]
  show (if (turnedOf x was).2 = true then putAll [r] (turnedOf x was).1 rest else ([], 16)) = _
  cases q : (turnedOf x was).2 with
  | false => rfl
  | true =>
    have hf : { (turnedOf x was).1.getD 0 noField with place := r } = f := hf q
    show (if iEq (withF rest { (turnedOf x was).1.getD 0 noField with place := r }).2 0 then ((withF rest { (turnedOf x was).1.getD 0 noField with place := r }).1, (0 : Int)) else ([], 16)) = _
    rw [hf]
    rfl
theorem fin_two {b : Bool} {f g : SField} (h1 : rightFields l = true) (h2 : lensOk x = true) (ht : takeAll l (goesOf x) l [] = some (rest, was)) (hc : (comesOf x).length = 2) (hn : (turnedOf x was).1.length = 2) (hb : (turnedOf x was).2 = b)
    (hf : b = true → { (turnedOf x was).1.getD 0 noField with place := (comesOf x).getD 0 noRef } = f) (hg : b = true → { (turnedOf x was).1.getD 1 noField with place := (comesOf x).getD 1 noRef } = g) :
    applyF l x = if (b && iEq (withF rest f).2 0) && iEq (withF (withF rest f).1 g).2 0 then ((withF (withF rest f).1 g).1, 0) else ([], 16) := by
  subst hb
  obtain ⟨r, s, hc⟩ := two_len hc
  obtain ⟨u, v, hn⟩ := two_len hn
  rw [hc, hn] at hf
  rw [hc, hn] at hg
  unfold applyF
  rw [h1, h2, ht, hc]
  show (if (turnedOf x was).2 = true then putAll [r, s] (turnedOf x was).1 rest else ([], 16)) = _
  rw [hn]
  cases q : (turnedOf x was).2 with
  | false => rfl
  | true =>
    have hf : { u with place := r } = f := hf q
    have hg : { v with place := s } = g := hg q
    show (if iEq (withF rest { u with place := r }).2 0 then (if iEq (withF (withF rest { u with place := r }).1 { v with place := s }).2 0 then ((withF (withF rest { u with place := r }).1 { v with place := s }).1, (0 : Int)) else ([], 16)) else ([], 16)) = _
    rw [hf, hg]
    cases iEq (withF rest f).2 0 <;> rfl
theorem plainF {f : SField} (h : fieldOk f = true) (k : iEq f.kind 1 = true) (r : SRef) : { f with place := r } = ({ noField with place := r, kind := 1, worth := f.worth } : SField) := by
  obtain ⟨a, _, _, b⟩ := plain_field h
  have a3 := a (kinds 1 k 3 (by decide))
  have b3 := (b k).1
  have k3 := iEq_t.1 k
  clear a b h k
  obtain ⟨p, c, d, e, w⟩ := f
  simp only at a3 b3 k3
  subst a3 b3 k3
  rfl
theorem comes_one (h : lensOk x = true) (h3 : iEq x.kind 3 = false) (h6 : iEq x.kind 6 = false) : (comesOf x).length = 1 := by
  unfold comesOf
  rw [h, h3, h6]
  cases iEq x.kind 2 <;> cases iEq x.kind 1 <;> cases iEq x.kind 4 <;> cases iEq x.kind 5 <;> rfl
theorem comes_two (h : lensOk x = true) (h6 : iEq x.kind 6 = true) : (comesOf x).length = 2 := by
  unfold comesOf
  rw [h, kinds 6 h6 3 (by decide), kinds 6 h6 2 (by decide), kinds 6 h6 1 (by decide), kinds 6 h6 4 (by decide), kinds 6 h6 5 (by decide), h6]
  rfl
variable (h1 : rightFields l = true) (h2 : lensOk x = true) (ht : takeAll l (goesOf x) l [] = some (rest, was))
include h1 h2 ht
theorem fin_moved (k : Int) (hk : iEq x.kind k = true) (hkk : k = 1 ∨ k = 4 ∨ k = 5) {ok : Bool} (ho : (true && iEq (withF rest { was.getD 0 noField with place := (comesOf x).getD 0 noRef }).2 0) = ok) :
    applyF l x = if ok then ((withF rest { was.getD 0 noField with place := (comesOf x).getD 0 noRef }).1, 0) else ([], 16) := by
  subst ho
  have e := was_moved was k hk hkk
  refine fin_one (b := true) h1 h2 ht (comes_one h2 ?_ ?_) (by rw [e]) (fun _ => by rw [e])
  · rcases hkk with rfl | rfl | rfl
    · exact kinds 1 hk 3 (by decide)
    · exact kinds 4 hk 3 (by decide)
    · exact kinds 5 hk 3 (by decide)
  · rcases hkk with rfl | rfl | rfl
    · exact kinds 1 hk 6 (by decide)
    · exact kinds 4 hk 6 (by decide)
    · exact kinds 5 hk 6 (by decide)
theorem fin_added (hk : iEq x.kind 2 = true) {ok : Bool} (ho : (true && iEq (withF rest x.field).2 0) = ok) : applyF l x = if ok then ((withF rest x.field).1, 0) else ([], 16) := by
  subst ho
  have e : turnedOf x was = ([x.field], true) := by unfold turnedOf; rw [hk]; rfl
  have c : comesOf x = [x.field.place] := by unfold comesOf; rw [h2, kinds 2 hk 3 (by decide), hk]; rfl
  exact fin_one (b := true) h1 h2 ht (by rw [c]; rfl) (by rw [e]) (fun _ => by rw [e, c]; rfl)
theorem fin_gone (hk : iEq x.kind 3 = true) {ok : Bool} (ho : sameField (was.getD 0 noField) x.field = ok) : applyF l x = if ok then (rest, 0) else ([], 16) := by
  subst ho
  exact fin_none h1 h2 ht (comes_nil hk) (by unfold turnedOf; rw [kinds 3 hk 2 (by decide), hk]; rfl)
theorem fin_spread (hk : iEq x.kind 6 = true) (hw : fieldOk (was.getD 0 noField) = true) {b ok : Bool} {f g : SField} (hb : (iEq (was.getD 0 noField).kind 1 && iLt (wrapO .i64 ((was.getD 0 noField).worth * x.factor)) 1048577) = b)
    (hf : f = { noField with place := (comesOf x).getD 0 noRef, kind := 1, worth := (was.getD 0 noField).worth }) (hg : g = { noField with place := (comesOf x).getD 1 noRef, kind := 1, worth := wrapO .i64 ((was.getD 0 noField).worth * x.factor) })
    (ho : ((b && iEq (withF rest f).2 0) && iEq (withF (withF rest f).1 g).2 0) = ok) : applyF l x = if ok then ((withF (withF rest f).1 g).1, 0) else ([], 16) := by
  subst ho
  have e : turnedOf x was = ([w0 was, { w0 was with worth := wrapO .i64 ((w0 was).worth * x.factor) }], iEq (w0 was).kind 1 && iLe (wrapO .i64 ((w0 was).worth * x.factor)) 1048576) := by
    unfold turnedOf; rw [kinds 6 hk 2 (by decide), kinds 6 hk 3 (by decide), hk]; rfl
  have e2 : iLe (wrapO .i64 ((w0 was).worth * x.factor)) 1048576 = iLt (wrapO .i64 ((w0 was).worth * x.factor)) 1048577 := by
    rw [Bool.eq_iff_iff, iLe_t, iLt_t]; omega
  rw [e2] at e
  have hk1 : b = true → iEq (was.getD 0 noField).kind 1 = true := fun h => by rw [← hb, Bool.and_eq_true] at h; exact h.1
  refine fin_two h1 h2 ht (comes_two h2 hk) (by rw [e]; rfl) (by rw [e]; exact hb) (fun h => ?_) (fun h => ?_)
  · rw [e, hf]; exact plainF hw (hk1 h) _
  · rw [e, hg]
    have := plainF hw (hk1 h) ((comesOf x).getD 1 noRef)
    show ({ { was.getD 0 noField with place := (comesOf x).getD 1 noRef } with worth := wrapO .i64 ((was.getD 0 noField).worth * x.factor) } : SField) = _
    rw [this]
theorem fin_gathered (hk : iEq x.kind 9 = true) (hw : fieldOk (was.getD 0 noField) = true) {b ok : Bool} {f : SField} (hb : (iEq (was.getD 0 noField).kind 1 && (iEq (was.getD 1 noField).kind 1 && iEq (was.getD 1 noField).worth (wrapO .i64 ((was.getD 0 noField).worth * x.factor)))) = b)
    (hf : f = { noField with place := (comesOf x).getD 0 noRef, kind := 1, worth := (was.getD 0 noField).worth })
    (ho : (b && iEq (withF rest f).2 0) = ok) : applyF l x = if ok then ((withF rest f).1, 0) else ([], 16) := by
  subst ho
  have e : turnedOf x was = ([w0 was], iEq (w0 was).kind 1 && (iEq (w1 was).kind 1 && iEq (w1 was).worth (wrapO .i64 ((w0 was).worth * x.factor)))) := by
    unfold turnedOf; rw [kinds 9 hk 2 (by decide), kinds 9 hk 3 (by decide), kinds 9 hk 6 (by decide), hk]; rfl
  have hk1 : b = true → iEq (was.getD 0 noField).kind 1 = true := fun h => by rw [← hb, Bool.and_eq_true] at h; exact h.1
  refine fin_one h1 h2 ht (comes_one h2 (kinds 9 hk 3 (by decide)) (kinds 9 hk 6 (by decide))) (by rw [e]; exact hb) (fun h => ?_)
  rw [e, hf]; exact plainF hw (hk1 h) _
theorem fin_opened (hk : iEq x.kind 7 = true) {b ok : Bool} {f : SField} (hb : (iEq (was.getD 0 noField).kind 2 && sEq (was.getD 0 noField).dflt x.other) = b)
    (hf : f = { noField with place := (comesOf x).getD 0 noRef, kind := 4 })
    (ho : (b && iEq (withF rest f).2 0) = ok) : applyF l x = if ok then ((withF rest f).1, 0) else ([], 16) := by
  subst ho
  have e : turnedOf x was = ([{ noField with kind := 4 }], iEq (w0 was).kind 2 && sEq (w0 was).dflt x.other) := by
    unfold turnedOf; rw [kinds 7 hk 2 (by decide), kinds 7 hk 3 (by decide), kinds 7 hk 6 (by decide), kinds 7 hk 9 (by decide), hk]; rfl
  exact fin_one h1 h2 ht (comes_one h2 (kinds 7 hk 3 (by decide)) (kinds 7 hk 6 (by decide))) (by rw [e]; exact hb) (fun h => by rw [e, hf]; rfl)
theorem fin_closed (hk : iEq x.kind 10 = true) {b ok : Bool} {f : SField} (hb : iEq (was.getD 0 noField).kind 4 = b)
    (hf : f = { noField with place := (comesOf x).getD 0 noRef, kind := 2, dflt := x.other })
    (ho : (b && iEq (withF rest f).2 0) = ok) : applyF l x = if ok then ((withF rest f).1, 0) else ([], 16) := by
  subst ho
  have e : turnedOf x was = ([{ noField with kind := 2, dflt := x.other }], iEq (w0 was).kind 4) := by
    unfold turnedOf; rw [kinds 10 hk 2 (by decide), kinds 10 hk 3 (by decide), kinds 10 hk 6 (by decide), kinds 10 hk 9 (by decide), kinds 10 hk 7 (by decide), hk]; rfl
  exact fin_one h1 h2 ht (comes_one h2 (kinds 10 hk 3 (by decide)) (kinds 10 hk 6 (by decide))) (by rw [e]; exact hb) (fun h => by rw [e, hf]; rfl)
theorem fin_cased (hk : iEq x.kind 8 = true) {b ok : Bool} {f : SField} (hb : (iEq (was.getD 0 noField).kind 3 && (sEq (was.getD 0 noField).dflt x.name && sameStrs (was.getD 0 noField).cases (fromsOf x.forth))) = b)
    (hf : f = { noField with place := (comesOf x).getD 0 noRef, kind := 3, dflt := x.other, cases := fromsOf x.back })
    (ho : (b && iEq (withF rest f).2 0) = ok) : applyF l x = if ok then ((withF rest f).1, 0) else ([], 16) := by
  subst ho
  have e : turnedOf x was = ([{ noField with kind := 3, dflt := x.other, cases := fromsOf x.back }], iEq (w0 was).kind 3 && (sEq (w0 was).dflt x.name && sameStrs (w0 was).cases (fromsOf x.forth))) := by
    unfold turnedOf; rw [kinds 8 hk 2 (by decide), kinds 8 hk 3 (by decide), kinds 8 hk 6 (by decide), kinds 8 hk 9 (by decide), kinds 8 hk 7 (by decide), kinds 8 hk 10 (by decide), hk]; rfl
  exact fin_one h1 h2 ht (comes_one h2 (kinds 8 hk 3 (by decide)) (kinds 8 hk 6 (by decide))) (by rw [e]; exact hb) (fun h => by rw [e, hf]; rfl)
end
end Go.Proofs.YtalpbdabeffnlaaGreat

/- The reference: where a lens leads. -/
set_option linter.unusedVariables false
set_option linter.unusedSimpArgs false
namespace Go.Proofs.YtalpbdabeffnlaaGreat
open Go Go.Av
set_option maxRecDepth 100000
set_option maxHeartbeats 4000000

theorem nott {b : Bool} (h : (!b) = true) : b = false := by cases b; rfl; cases h
theorem notf {b : Bool} (h : (!b) = false) : b = true := by cases b; cases h; rfl
theorem allLe3 {a b c d e f : AV} (h1 : RepLe a d) (h2 : RepLe b e) (h3 : RepLe c f) : allLe [a, b, c] [d, e, f] := ⟨h1, h2, h3, trivial⟩
def rp (l : List SField) (x : SLens) (p : Nat × List SField × List SField) : St :=
  told 283 [(0, .p (encFields l)), (3, .pt 0 0), (6, .p (encFields p.2.1)), (7, .sl 16384), (8, .p (encRefs (goesOf x))), (9, vI .i64 (p.1 : Int))] [(0, some (.box 42 ((lensCells x).map .p))), (16384, rowFields p.2.2)] [0, 16384]
theorem f50 (l : List SField) (x : SLens) (hl : fitFields l) (hx : fitLens x) : PCall Tryz.prog 42 [encFields l, encLens x] (encTake (applyF l x)) [] := by
  have hlen := hl.1
  refine gcode hT hM Tryz.func42 rfl rfl (rv := [(4, none), (5, none)]) rfl rfl rfl fun G hG => ?_
  conv => whnf
  refine CallK.lent (f34 l hl.ok) rfl ?_
  conv => whnf
  refine ⟨fun h1 => ?_, fun h1 => ?_⟩
  · have h1 : rightFields l = false := by simpa using h1
    conv => whnf
    exact ⟨[], _, _, _, rfl, rfl, rfl, by unfold applyF; rw [h1]; exact nil_take, trivial⟩
  have h1 : rightFields l = true := by simpa using h1
  conv => whnf
  refine CallK.lent (f56 x hx) rfl ?_
  conv => whnf
  refine ⟨fun h2 => ?_, fun h2 => ?_⟩
  · have h2 : lensOk x = false := by simpa using h2
    conv => whnf
    exact ⟨[], _, _, _, rfl, rfl, rfl, by unfold applyF; rw [h1, h2]; exact nil_take, trivial⟩
  have h2 : lensOk x = true := by simpa using h2
  conv => whnf
  have c59 := f59 x
  rw [goes2_eq h2] at c59
  refine CallK.go [] (c59) rfl rfl rfl rfl rfl ?_
  conv => whnf
  have hgl : (goesOf x).length ≤ 2 := by rw [goes_len h2]; cases iEq x.kind 2 <;> cases iEq x.kind 3 <;> cases iEq x.kind 9 <;> decide
  refine AW.loop (X := Nat × List SField × List SField) (rp l x) (fun p => p.1 ≤ (goesOf x).length ∧ p.2.2.length = p.1 ∧ fitFields p.2.1 ∧ (∀ y ∈ p.2.2, y ∈ l) ∧ takeAll l (goesOf x) l [] = takeAll l ((goesOf x).drop p.1) p.2.1 p.2.2) (fun p => (goesOf x).length - p.1) (used0 hG _) (0, l, []) ⟨Nat.zero_le _, rfl, hl, fun y hy => by simp at hy, rfl⟩
    (show StLe _ (rp l x (0, l, [])) from stle ⟨RepLe.refl _, RepLe.refl _, RepLe.refl _, RepLe.refl _, RepLe.refl _, RepLe.refl _, trivial⟩ ⟨⟨_, rfl, BlkLe.refl _⟩, ⟨_, rfl, BlkLe.rowLe rfl fun a b ha hb => absurd ha (Nat.not_lt_zero _)⟩, trivial⟩ rfl) ?_
  rintro ⟨i, rest, was⟩ ⟨hi, hwl, hfr, hwf, hr⟩
  have hi : i ≤ (goesOf x).length := hi
  have hwl : was.length = i := hwl
  have hfr : fitFields rest := hfr
  have hwf : ∀ y ∈ was, y ∈ l := hwf
  have hr : takeAll l (goesOf x) l [] = takeAll l ((goesOf x).drop i) rest was := hr
  refine codeK_aw hT hM _ _ _ ?_
  conv => whnf
  refine ⟨fun h4 => ?_, fun h4 => ?_⟩
  · have hlt : i < (goesOf x).length := by rw [iLt_t] at h4; omega
    rw [take_step l (goesOf x) rest was hlt] at hr
    have c31 := f31 l ((goesOf x).getD i noRef) hl.ok
    conv => whnf
    refine ⟨by omega, ?_⟩
    conv => whnf
    cases q : placeIn l ((goesOf x).getD i noRef) with
    | none =>
      rw [q] at hr c31
      have ha : applyF l x = ([], 16) := by unfold applyF; rw [h1, h2, hr]; rfl
      refine CallK.go [] (c31) rfl rfl rfl rfl rfl ?_
      conv => whnf
      refine ⟨fun e1 => ?_, fun e1 => ?_⟩
      · conv => whnf
        exact ⟨[], _, _, _, rfl, rfl, rfl, by rw [ha]; exact nil_take, trivial⟩
      · rw [iLt_f] at e1
        exact absurd e1 (show ¬ (0 : Int) ≤ -1 by decide)
    | some j =>
      rw [q] at hr c31
      have hr : takeAll l (goesOf x) l [] = takeAll l ((goesOf x).drop (i + 1)) (withoutF rest ((goesOf x).getD i noRef)).1 (was ++ [l.getD j noField]) := hr
      have hj := place_lt q
      refine CallK.go [] (c31) rfl rfl rfl rfl rfl ?_
      conv => whnf
      refine ⟨fun e1 => ?_, fun e1 => ?_⟩
      · rw [iLt_t] at e1
        exact absurd e1 (show ¬ ((j : Nat) : Int) < 0 by omega)
      conv => whnf
      refine ⟨⟨Int.natCast_nonneg _, Int.ofNat_lt.2 hj⟩, ?_⟩
      conv => whnf
      refine ⟨⟨show was.length + 1 ≤ 9223372036854775807 by omega, show (was.length + 1) * 96 ≤ 140737488355328 by omega⟩, ?_⟩
      conv => whnf
      refine ⟨by omega, ?_⟩
      conv => whnf
      refine CallK.go [] (f47 rest ((goesOf x).getD i noRef) hfr) rfl rfl rfl rfl rfl ?_
      conv => whnf
      intro z hz
      have hy := wrap64_eq hz (by omega) (by omega)
      clear hz
      subst hy
      conv => whnf
      refine ⟨(i + 1, (withoutF rest ((goesOf x).getD i noRef)).1, was ++ [l.getD j noField]), ⟨by omega, by simp [hwl], without_fit hfr, fun y hy => by
          rcases List.mem_append.1 hy with h | h
          · exact hwf y h
          · rw [List.mem_singleton.1 h]; exact at_mem hj, hr⟩, by show (goesOf x).length - (i + 1) < (goesOf x).length - i; omega,
        (show StLe _ (rp l x (i + 1, (withoutF rest ((goesOf x).getD i noRef)).1, was ++ [l.getD j noField])) from stleR [(16384, 49200)] ⟨RepLe.refl _, RepLe.refl _, RepLe.refl _, RepLe.refl _, RepLe.refl _, RepLe.of rfl, trivial⟩ ⟨⟨_, rfl, BlkLe.refl _⟩, ⟨_, rfl, rowSnoc _ _ (seven (PLe.refl _) (PLe.refl _) (PLe.refl _) (PLe.refl _) (PLe.refl _) (PLe.refl _) (PLe.refl _))⟩, trivial⟩ rfl)⟩
  have hge : i = (goesOf x).length := by rw [iLt_f] at h4; omega
  rw [hge, List.drop_length] at hr
  have ht : takeAll l (goesOf x) l [] = some (rest, was) := hr
  have hwn : was.length = (goesOf x).length := hwl.trans hge
  have hwl2 : was.length ≤ 2 := by omega
  have hwp : iEq x.kind 2 = false → 0 < was.length := fun h => by rw [hwn, goes_len h2, h]; cases iEq x.kind 3 <;> cases iEq x.kind 9 <;> decide
  have hwo : 0 < was.length → fieldOk (was.getD 0 noField) = true := fun h => by
    obtain ⟨j, hj, e⟩ := getD_mem (hwf _ (at_mem h))
    rw [← e]; exact (right_step h1 hj).1
  have hwa : ∀ k, fitField (was.getD k noField) := was_at fun y hy => hl.2 y (hwf y hy)
  have c60 := f60 x
  rw [comes2_eq h2] at c60
  clear h4 hr hi hwl hge c59
  conv => whnf
  refine CallK.go [] (c60) rfl rfl rfl rfl rfl ?_
  conv => whnf
  rcases kind_range h2 with k | k | k | k | k | k | k | k | k | k
  · have kk : iEq x.kind 1 = true := iEq_t.2 k
    have q1 : iEq x.kind 1 = true := kk
    have q2 : iEq x.kind 2 = false := kinds 1 kk 2 (by decide)
    have q3 : iEq x.kind 3 = false := kinds 1 kk 3 (by decide)
    have q4 : iEq x.kind 4 = false := kinds 1 kk 4 (by decide)
    have q5 : iEq x.kind 5 = false := kinds 1 kk 5 (by decide)
    have q6 : iEq x.kind 6 = false := kinds 1 kk 6 (by decide)
    have q7 : iEq x.kind 7 = false := kinds 1 kk 7 (by decide)
    have q8 : iEq x.kind 8 = false := kinds 1 kk 8 (by decide)
    have q9 : iEq x.kind 9 = false := kinds 1 kk 9 (by decide)
    have q10 : iEq x.kind 10 = false := kinds 1 kk 10 (by decide)
    have hw := hwp q2
    have hc := comes_one h2 q3 q6
    refine ⟨fun _ => ?_, fun h => Bool.noConfusion (q1.symm.trans h)⟩
    conv => whnf
    refine ⟨(show (0 : Int) ≤ 0 ∧ (0 : Int) < (was.length : Int) by omega), ?_⟩
    conv => whnf
    refine ⟨(show 0 < was.length by omega), ?_⟩
    conv => whnf
    refine ⟨by omega, ?_⟩
    conv => whnf
    refine CallK.go [] (f101 (was.getD 0 noField) ((comesOf x).getD 0 noRef)) rfl rfl rfl rfl rfl ?_
    conv => whnf
    refine CallK.go [] (GCall.args (f100 rest { was.getD 0 noField with place := (comesOf x).getD 0 noRef } true hfr (hwa 0)) ?hh) rfl rfl rfl rfl rfl ?_
    case hh => exact allLe3 (RepLe.refl _) (PLe.rep (PLe.agg (by repeat' (first | refine PLes.cons ?_ ?_ | exact PLe.refl _ | exact PLe.nil | exact PLes.end)))) (by first | exact RepLe.bl rfl | exact RepLe.refl _)
    conv => whnf
    refine ⟨rfl, ?_⟩
    conv => whnf
    refine ⟨fun h => Bool.noConfusion (q2.symm.trans h), fun _ => ?_⟩
    conv => whnf
    refine ⟨fun h => Bool.noConfusion (q3.symm.trans h), fun _ => ?_⟩
    conv => whnf
    refine ⟨fun h => Bool.noConfusion (q6.symm.trans h), fun _ => ?_⟩
    conv => whnf
    refine ⟨fun h => Bool.noConfusion (q7.symm.trans h), fun _ => ?_⟩
    conv => whnf
    refine ⟨fun h => Bool.noConfusion (q8.symm.trans h), fun _ => ?_⟩
    conv => whnf
    refine ⟨fun h => Bool.noConfusion (q9.symm.trans h), fun _ => ?_⟩
    conv => whnf
    refine ⟨fun h => Bool.noConfusion (q10.symm.trans h), fun _ => ?_⟩
    conv => whnf
    refine ⟨fun e1 => ?_, fun e1 => ?_⟩
    · have e1 : (true && iEq (withF rest { was.getD 0 noField with place := (comesOf x).getD 0 noRef }).2 0) = false := nott e1
      have ha := fin_moved h1 h2 ht 1 kk (by omega) rfl
      rw [e1] at ha
      conv => whnf
      exact ⟨[], _, _, _, rfl, rfl, rfl, by rw [ha]; exact nil_take, trivial⟩
    have e1 : (true && iEq (withF rest { was.getD 0 noField with place := (comesOf x).getD 0 noRef }).2 0) = true := notf e1
    have ha := fin_moved h1 h2 ht 1 kk (by omega) rfl
    rw [e1] at ha
    conv => whnf
    exact ⟨[], _, _, _, rfl, rfl, rfl, by rw [ha]; exact RepLe.refl _, trivial⟩
  · have kk : iEq x.kind 2 = true := iEq_t.2 k
    have q1 : iEq x.kind 1 = false := kinds 2 kk 1 (by decide)
    have q2 : iEq x.kind 2 = true := kk
    have q3 : iEq x.kind 3 = false := kinds 2 kk 3 (by decide)
    have q4 : iEq x.kind 4 = false := kinds 2 kk 4 (by decide)
    have q5 : iEq x.kind 5 = false := kinds 2 kk 5 (by decide)
    have q6 : iEq x.kind 6 = false := kinds 2 kk 6 (by decide)
    have q7 : iEq x.kind 7 = false := kinds 2 kk 7 (by decide)
    have q8 : iEq x.kind 8 = false := kinds 2 kk 8 (by decide)
    have q9 : iEq x.kind 9 = false := kinds 2 kk 9 (by decide)
    have q10 : iEq x.kind 10 = false := kinds 2 kk 10 (by decide)
    have hc := comes_one h2 q3 q6
    refine ⟨fun h => Bool.noConfusion (q1.symm.trans h), fun _ => ?_⟩
    conv => whnf
    refine ⟨fun h => Bool.noConfusion (q4.symm.trans h), fun _ => ?_⟩
    conv => whnf
    refine ⟨fun h => Bool.noConfusion (q5.symm.trans h), fun _ => ?_⟩
    conv => whnf
    refine ⟨fun _ => ?_, fun h => Bool.noConfusion (q2.symm.trans h)⟩
    conv => whnf
    refine CallK.go [] (GCall.args (f100 rest x.field true hfr hx.1) ?hh) rfl rfl rfl rfl rfl ?_
    case hh => exact allLe3 (RepLe.refl _) (PLe.rep (PLe.agg (by repeat' (first | refine PLes.cons ?_ ?_ | exact PLe.refl _ | exact PLe.nil | exact PLes.end)))) (by first | exact RepLe.bl rfl | exact RepLe.refl _)
    conv => whnf
    refine ⟨fun h => Bool.noConfusion (q3.symm.trans h), fun _ => ?_⟩
    conv => whnf
    refine ⟨fun h => Bool.noConfusion (q6.symm.trans h), fun _ => ?_⟩
    conv => whnf
    refine ⟨fun h => Bool.noConfusion (q7.symm.trans h), fun _ => ?_⟩
    conv => whnf
    refine ⟨fun h => Bool.noConfusion (q8.symm.trans h), fun _ => ?_⟩
    conv => whnf
    refine ⟨fun h => Bool.noConfusion (q9.symm.trans h), fun _ => ?_⟩
    conv => whnf
    refine ⟨fun h => Bool.noConfusion (q10.symm.trans h), fun _ => ?_⟩
    conv => whnf
    refine ⟨fun e1 => ?_, fun e1 => ?_⟩
    · have e1 : (true && iEq (withF rest x.field).2 0) = false := nott e1
      have ha := fin_added h1 h2 ht kk rfl
      rw [e1] at ha
      conv => whnf
      exact ⟨[], _, _, _, rfl, rfl, rfl, by rw [ha]; exact nil_take, trivial⟩
    have e1 : (true && iEq (withF rest x.field).2 0) = true := notf e1
    have ha := fin_added h1 h2 ht kk rfl
    rw [e1] at ha
    conv => whnf
    exact ⟨[], _, _, _, rfl, rfl, rfl, by rw [ha]; exact RepLe.refl _, trivial⟩
  · have kk : iEq x.kind 3 = true := iEq_t.2 k
    have q1 : iEq x.kind 1 = false := kinds 3 kk 1 (by decide)
    have q2 : iEq x.kind 2 = false := kinds 3 kk 2 (by decide)
    have q3 : iEq x.kind 3 = true := kk
    have q4 : iEq x.kind 4 = false := kinds 3 kk 4 (by decide)
    have q5 : iEq x.kind 5 = false := kinds 3 kk 5 (by decide)
    have q6 : iEq x.kind 6 = false := kinds 3 kk 6 (by decide)
    have q7 : iEq x.kind 7 = false := kinds 3 kk 7 (by decide)
    have q8 : iEq x.kind 8 = false := kinds 3 kk 8 (by decide)
    have q9 : iEq x.kind 9 = false := kinds 3 kk 9 (by decide)
    have q10 : iEq x.kind 10 = false := kinds 3 kk 10 (by decide)
    have hw := hwp q2
    refine ⟨fun h => Bool.noConfusion (q1.symm.trans h), fun _ => ?_⟩
    conv => whnf
    refine ⟨fun h => Bool.noConfusion (q4.symm.trans h), fun _ => ?_⟩
    conv => whnf
    refine ⟨fun h => Bool.noConfusion (q5.symm.trans h), fun _ => ?_⟩
    conv => whnf
    refine ⟨fun h => Bool.noConfusion (q2.symm.trans h), fun _ => ?_⟩
    conv => whnf
    refine ⟨fun _ => ?_, fun h => Bool.noConfusion (q3.symm.trans h)⟩
    conv => whnf
    refine ⟨(show (0 : Int) ≤ 0 ∧ (0 : Int) < (was.length : Int) by omega), ?_⟩
    conv => whnf
    refine ⟨(show 0 < was.length by omega), ?_⟩
    conv => whnf
    refine CallK.lent (f32 (was.getD 0 noField) x.field (hwa 0).ok) rfl ?_
    conv => whnf
    refine ⟨rfl, ?_⟩
    conv => whnf
    refine ⟨fun h => Bool.noConfusion (q6.symm.trans h), fun _ => ?_⟩
    conv => whnf
    refine ⟨fun h => Bool.noConfusion (q7.symm.trans h), fun _ => ?_⟩
    conv => whnf
    refine ⟨fun h => Bool.noConfusion (q8.symm.trans h), fun _ => ?_⟩
    conv => whnf
    refine ⟨fun h => Bool.noConfusion (q9.symm.trans h), fun _ => ?_⟩
    conv => whnf
    refine ⟨fun h => Bool.noConfusion (q10.symm.trans h), fun _ => ?_⟩
    conv => whnf
    refine ⟨fun e1 => ?_, fun e1 => ?_⟩
    · have e1 : sameField (was.getD 0 noField) x.field = false := nott e1
      have ha := fin_gone h1 h2 ht kk rfl
      rw [e1] at ha
      conv => whnf
      exact ⟨[], _, _, _, rfl, rfl, rfl, by rw [ha]; exact nil_take, trivial⟩
    have e1 : sameField (was.getD 0 noField) x.field = true := notf e1
    have ha := fin_gone h1 h2 ht kk rfl
    rw [e1] at ha
    conv => whnf
    exact ⟨[], _, _, _, rfl, rfl, rfl, by rw [ha]; exact RepLe.refl _, trivial⟩
  · have kk : iEq x.kind 4 = true := iEq_t.2 k
    have q1 : iEq x.kind 1 = false := kinds 4 kk 1 (by decide)
    have q2 : iEq x.kind 2 = false := kinds 4 kk 2 (by decide)
    have q3 : iEq x.kind 3 = false := kinds 4 kk 3 (by decide)
    have q4 : iEq x.kind 4 = true := kk
    have q5 : iEq x.kind 5 = false := kinds 4 kk 5 (by decide)
    have q6 : iEq x.kind 6 = false := kinds 4 kk 6 (by decide)
    have q7 : iEq x.kind 7 = false := kinds 4 kk 7 (by decide)
    have q8 : iEq x.kind 8 = false := kinds 4 kk 8 (by decide)
    have q9 : iEq x.kind 9 = false := kinds 4 kk 9 (by decide)
    have q10 : iEq x.kind 10 = false := kinds 4 kk 10 (by decide)
    have hw := hwp q2
    have hc := comes_one h2 q3 q6
    refine ⟨fun h => Bool.noConfusion (q1.symm.trans h), fun _ => ?_⟩
    conv => whnf
    refine ⟨fun _ => ?_, fun h => Bool.noConfusion (q4.symm.trans h)⟩
    conv => whnf
    refine ⟨(show (0 : Int) ≤ 0 ∧ (0 : Int) < (was.length : Int) by omega), ?_⟩
    conv => whnf
    refine ⟨(show 0 < was.length by omega), ?_⟩
    conv => whnf
    refine ⟨by omega, ?_⟩
    conv => whnf
    refine CallK.go [] (f101 (was.getD 0 noField) ((comesOf x).getD 0 noRef)) rfl rfl rfl rfl rfl ?_
    conv => whnf
    refine CallK.go [] (GCall.args (f100 rest { was.getD 0 noField with place := (comesOf x).getD 0 noRef } true hfr (hwa 0)) ?hh) rfl rfl rfl rfl rfl ?_
    case hh => exact allLe3 (RepLe.refl _) (PLe.rep (PLe.agg (by repeat' (first | refine PLes.cons ?_ ?_ | exact PLe.refl _ | exact PLe.nil | exact PLes.end)))) (by first | exact RepLe.bl rfl | exact RepLe.refl _)
    conv => whnf
    refine ⟨rfl, ?_⟩
    conv => whnf
    refine ⟨fun h => Bool.noConfusion (q2.symm.trans h), fun _ => ?_⟩
    conv => whnf
    refine ⟨fun h => Bool.noConfusion (q3.symm.trans h), fun _ => ?_⟩
    conv => whnf
    refine ⟨fun h => Bool.noConfusion (q6.symm.trans h), fun _ => ?_⟩
    conv => whnf
    refine ⟨fun h => Bool.noConfusion (q7.symm.trans h), fun _ => ?_⟩
    conv => whnf
    refine ⟨fun h => Bool.noConfusion (q8.symm.trans h), fun _ => ?_⟩
    conv => whnf
    refine ⟨fun h => Bool.noConfusion (q9.symm.trans h), fun _ => ?_⟩
    conv => whnf
    refine ⟨fun h => Bool.noConfusion (q10.symm.trans h), fun _ => ?_⟩
    conv => whnf
    refine ⟨fun e1 => ?_, fun e1 => ?_⟩
    · have e1 : (true && iEq (withF rest { was.getD 0 noField with place := (comesOf x).getD 0 noRef }).2 0) = false := nott e1
      have ha := fin_moved h1 h2 ht 4 kk (by omega) rfl
      rw [e1] at ha
      conv => whnf
      exact ⟨[], _, _, _, rfl, rfl, rfl, by rw [ha]; exact nil_take, trivial⟩
    have e1 : (true && iEq (withF rest { was.getD 0 noField with place := (comesOf x).getD 0 noRef }).2 0) = true := notf e1
    have ha := fin_moved h1 h2 ht 4 kk (by omega) rfl
    rw [e1] at ha
    conv => whnf
    exact ⟨[], _, _, _, rfl, rfl, rfl, by rw [ha]; exact RepLe.refl _, trivial⟩
  · have kk : iEq x.kind 5 = true := iEq_t.2 k
    have q1 : iEq x.kind 1 = false := kinds 5 kk 1 (by decide)
    have q2 : iEq x.kind 2 = false := kinds 5 kk 2 (by decide)
    have q3 : iEq x.kind 3 = false := kinds 5 kk 3 (by decide)
    have q4 : iEq x.kind 4 = false := kinds 5 kk 4 (by decide)
    have q5 : iEq x.kind 5 = true := kk
    have q6 : iEq x.kind 6 = false := kinds 5 kk 6 (by decide)
    have q7 : iEq x.kind 7 = false := kinds 5 kk 7 (by decide)
    have q8 : iEq x.kind 8 = false := kinds 5 kk 8 (by decide)
    have q9 : iEq x.kind 9 = false := kinds 5 kk 9 (by decide)
    have q10 : iEq x.kind 10 = false := kinds 5 kk 10 (by decide)
    have hw := hwp q2
    have hc := comes_one h2 q3 q6
    refine ⟨fun h => Bool.noConfusion (q1.symm.trans h), fun _ => ?_⟩
    conv => whnf
    refine ⟨fun h => Bool.noConfusion (q4.symm.trans h), fun _ => ?_⟩
    conv => whnf
    refine ⟨fun _ => ?_, fun h => Bool.noConfusion (q5.symm.trans h)⟩
    conv => whnf
    refine ⟨(show (0 : Int) ≤ 0 ∧ (0 : Int) < (was.length : Int) by omega), ?_⟩
    conv => whnf
    refine ⟨(show 0 < was.length by omega), ?_⟩
    conv => whnf
    refine ⟨by omega, ?_⟩
    conv => whnf
    refine CallK.go [] (f101 (was.getD 0 noField) ((comesOf x).getD 0 noRef)) rfl rfl rfl rfl rfl ?_
    conv => whnf
    refine CallK.go [] (GCall.args (f100 rest { was.getD 0 noField with place := (comesOf x).getD 0 noRef } true hfr (hwa 0)) ?hh) rfl rfl rfl rfl rfl ?_
    case hh => exact allLe3 (RepLe.refl _) (PLe.rep (PLe.agg (by repeat' (first | refine PLes.cons ?_ ?_ | exact PLe.refl _ | exact PLe.nil | exact PLes.end)))) (by first | exact RepLe.bl rfl | exact RepLe.refl _)
    conv => whnf
    refine ⟨rfl, ?_⟩
    conv => whnf
    refine ⟨fun h => Bool.noConfusion (q2.symm.trans h), fun _ => ?_⟩
    conv => whnf
    refine ⟨fun h => Bool.noConfusion (q3.symm.trans h), fun _ => ?_⟩
    conv => whnf
    refine ⟨fun h => Bool.noConfusion (q6.symm.trans h), fun _ => ?_⟩
    conv => whnf
    refine ⟨fun h => Bool.noConfusion (q7.symm.trans h), fun _ => ?_⟩
    conv => whnf
    refine ⟨fun h => Bool.noConfusion (q8.symm.trans h), fun _ => ?_⟩
    conv => whnf
    refine ⟨fun h => Bool.noConfusion (q9.symm.trans h), fun _ => ?_⟩
    conv => whnf
    refine ⟨fun h => Bool.noConfusion (q10.symm.trans h), fun _ => ?_⟩
    conv => whnf
    refine ⟨fun e1 => ?_, fun e1 => ?_⟩
    · have e1 : (true && iEq (withF rest { was.getD 0 noField with place := (comesOf x).getD 0 noRef }).2 0) = false := nott e1
      have ha := fin_moved h1 h2 ht 5 kk (by omega) rfl
      rw [e1] at ha
      conv => whnf
      exact ⟨[], _, _, _, rfl, rfl, rfl, by rw [ha]; exact nil_take, trivial⟩
    have e1 : (true && iEq (withF rest { was.getD 0 noField with place := (comesOf x).getD 0 noRef }).2 0) = true := notf e1
    have ha := fin_moved h1 h2 ht 5 kk (by omega) rfl
    rw [e1] at ha
    conv => whnf
    exact ⟨[], _, _, _, rfl, rfl, rfl, by rw [ha]; exact RepLe.refl _, trivial⟩
  · have kk : iEq x.kind 6 = true := iEq_t.2 k
    have q1 : iEq x.kind 1 = false := kinds 6 kk 1 (by decide)
    have q2 : iEq x.kind 2 = false := kinds 6 kk 2 (by decide)
    have q3 : iEq x.kind 3 = false := kinds 6 kk 3 (by decide)
    have q4 : iEq x.kind 4 = false := kinds 6 kk 4 (by decide)
    have q5 : iEq x.kind 5 = false := kinds 6 kk 5 (by decide)
    have q6 : iEq x.kind 6 = true := kk
    have q7 : iEq x.kind 7 = false := kinds 6 kk 7 (by decide)
    have q8 : iEq x.kind 8 = false := kinds 6 kk 8 (by decide)
    have q9 : iEq x.kind 9 = false := kinds 6 kk 9 (by decide)
    have q10 : iEq x.kind 10 = false := kinds 6 kk 10 (by decide)
    have hw := hwp q2
    have hc := comes_two h2 q6
    refine ⟨fun h => Bool.noConfusion (q1.symm.trans h), fun _ => ?_⟩
    conv => whnf
    refine ⟨fun h => Bool.noConfusion (q4.symm.trans h), fun _ => ?_⟩
    conv => whnf
    refine ⟨fun h => Bool.noConfusion (q5.symm.trans h), fun _ => ?_⟩
    conv => whnf
    refine ⟨fun h => Bool.noConfusion (q2.symm.trans h), fun _ => ?_⟩
    conv => whnf
    refine ⟨fun h => Bool.noConfusion (q3.symm.trans h), fun _ => ?_⟩
    conv => whnf
    refine ⟨fun _ => ?_, fun h => Bool.noConfusion (q6.symm.trans h)⟩
    conv => whnf
    refine ⟨(show (0 : Int) ≤ 0 ∧ (0 : Int) < (was.length : Int) by omega), ?_⟩
    conv => whnf
    refine ⟨(show 0 < was.length by omega), ?_⟩
    conv => whnf
    intro z hz
    subst hz
    conv => whnf
    refine ⟨rfl, ?_⟩
    conv => whnf
    refine ⟨(show (0 : Int) ≤ 0 ∧ (0 : Int) < (was.length : Int) by omega), ?_⟩
    conv => whnf
    refine ⟨(show 0 < was.length by omega), ?_⟩
    conv => whnf
    refine ⟨fun g1 => ?_, fun g1 => ?_⟩
    · have g1 : iEq (was.getD 0 noField).kind 1 = true := g1
      conv => whnf
      refine ⟨by omega, ?_⟩
      conv => whnf
      refine ⟨(show (0 : Int) ≤ 0 ∧ (0 : Int) < (was.length : Int) by omega), ?_⟩
      conv => whnf
      refine ⟨(show 0 < was.length by omega), ?_⟩
      conv => whnf
      refine CallK.go [] (GCall.args (f100 rest { noField with place := (comesOf x).getD 0 noRef, kind := 1, worth := (was.getD 0 noField).worth } (iLt (wrapO .i64 ((was.getD 0 noField).worth * x.factor)) 1048577) hfr (show fitField _ from Nat.zero_le _)) ?hh) rfl rfl rfl rfl rfl ?_
      case hh => exact allLe3 (RepLe.refl _) (PLe.rep (PLe.agg (by repeat' (first | refine PLes.cons ?_ ?_ | exact PLe.refl _ | exact PLe.nil | exact PLes.end)))) (by first | exact RepLe.bl rfl | exact RepLe.refl _)
      conv => whnf
      refine ⟨rfl, ?_⟩
      conv => whnf
      refine ⟨by omega, ?_⟩
      conv => whnf
      refine CallK.go [] (GCall.args (f100 (withF rest { noField with place := (comesOf x).getD 0 noRef, kind := 1, worth := (was.getD 0 noField).worth }).1 { noField with place := (comesOf x).getD 1 noRef, kind := 1, worth := (wrapO .i64 ((was.getD 0 noField).worth * x.factor)) } ((iLt (wrapO .i64 ((was.getD 0 noField).worth * x.factor)) 1048577) && iEq (withF rest { noField with place := (comesOf x).getD 0 noRef, kind := 1, worth := (was.getD 0 noField).worth }).2 0) (with_fit hfr (show fitField _ from Nat.zero_le _)) (show fitField _ from Nat.zero_le _)) ?hh) rfl rfl rfl rfl rfl ?_
      case hh => exact allLe3 (RepLe.refl _) (PLe.rep (PLe.agg (by repeat' (first | refine PLes.cons ?_ ?_ | exact PLe.refl _ | exact PLe.nil | exact PLes.end)))) (by first | exact RepLe.bl rfl | exact RepLe.refl _)
      conv => whnf
      refine ⟨fun h => Bool.noConfusion (q7.symm.trans h), fun _ => ?_⟩
      conv => whnf
      refine ⟨fun h => Bool.noConfusion (q8.symm.trans h), fun _ => ?_⟩
      conv => whnf
      refine ⟨fun h => Bool.noConfusion (q9.symm.trans h), fun _ => ?_⟩
      conv => whnf
      refine ⟨fun h => Bool.noConfusion (q10.symm.trans h), fun _ => ?_⟩
      conv => whnf
      refine ⟨fun e1 => ?_, fun e1 => ?_⟩
      · have e1 : (((iLt (wrapO .i64 ((was.getD 0 noField).worth * x.factor)) 1048577) && iEq (withF rest { noField with place := (comesOf x).getD 0 noRef, kind := 1, worth := (was.getD 0 noField).worth }).2 0) && iEq (withF (withF rest { noField with place := (comesOf x).getD 0 noRef, kind := 1, worth := (was.getD 0 noField).worth }).1 { noField with place := (comesOf x).getD 1 noRef, kind := 1, worth := (wrapO .i64 ((was.getD 0 noField).worth * x.factor)) }).2 0) = false := nott e1
        have ha := fin_spread h1 h2 ht kk (hwo hw) (b := iLt (wrapO .i64 ((was.getD 0 noField).worth * x.factor)) 1048577) (by rw [g1]; rfl) rfl rfl rfl
        rw [e1] at ha
        conv => whnf
        exact ⟨[], _, _, _, rfl, rfl, rfl, by rw [ha]; exact nil_take, trivial⟩
      have e1 : (((iLt (wrapO .i64 ((was.getD 0 noField).worth * x.factor)) 1048577) && iEq (withF rest { noField with place := (comesOf x).getD 0 noRef, kind := 1, worth := (was.getD 0 noField).worth }).2 0) && iEq (withF (withF rest { noField with place := (comesOf x).getD 0 noRef, kind := 1, worth := (was.getD 0 noField).worth }).1 { noField with place := (comesOf x).getD 1 noRef, kind := 1, worth := (wrapO .i64 ((was.getD 0 noField).worth * x.factor)) }).2 0) = true := notf e1
      have ha := fin_spread h1 h2 ht kk (hwo hw) (b := iLt (wrapO .i64 ((was.getD 0 noField).worth * x.factor)) 1048577) (by rw [g1]; rfl) rfl rfl rfl
      rw [e1] at ha
      conv => whnf
      exact ⟨[], _, _, _, rfl, rfl, rfl, by rw [ha]; exact RepLe.refl _, trivial⟩
    · have g1 : iEq (was.getD 0 noField).kind 1 = false := g1
      conv => whnf
      refine ⟨by omega, ?_⟩
      conv => whnf
      refine ⟨(show (0 : Int) ≤ 0 ∧ (0 : Int) < (was.length : Int) by omega), ?_⟩
      conv => whnf
      refine ⟨(show 0 < was.length by omega), ?_⟩
      conv => whnf
      refine CallK.go [] (GCall.args (f100 rest { noField with place := (comesOf x).getD 0 noRef, kind := 1, worth := (was.getD 0 noField).worth } false hfr (show fitField _ from Nat.zero_le _)) ?hh) rfl rfl rfl rfl rfl ?_
      case hh => exact allLe3 (RepLe.refl _) (PLe.rep (PLe.agg (by repeat' (first | refine PLes.cons ?_ ?_ | exact PLe.refl _ | exact PLe.nil | exact PLes.end)))) (by first | exact RepLe.bl rfl | exact RepLe.refl _)
      conv => whnf
      refine ⟨rfl, ?_⟩
      conv => whnf
      refine ⟨by omega, ?_⟩
      conv => whnf
      refine CallK.go [] (GCall.args (f100 (withF rest { noField with place := (comesOf x).getD 0 noRef, kind := 1, worth := (was.getD 0 noField).worth }).1 { noField with place := (comesOf x).getD 1 noRef, kind := 1, worth := (wrapO .i64 ((was.getD 0 noField).worth * x.factor)) } (false && iEq (withF rest { noField with place := (comesOf x).getD 0 noRef, kind := 1, worth := (was.getD 0 noField).worth }).2 0) (with_fit hfr (show fitField _ from Nat.zero_le _)) (show fitField _ from Nat.zero_le _)) ?hh) rfl rfl rfl rfl rfl ?_
      case hh => exact allLe3 (RepLe.refl _) (PLe.rep (PLe.agg (by repeat' (first | refine PLes.cons ?_ ?_ | exact PLe.refl _ | exact PLe.nil | exact PLes.end)))) (by first | exact RepLe.bl rfl | exact RepLe.refl _)
      conv => whnf
      refine ⟨fun h => Bool.noConfusion (q7.symm.trans h), fun _ => ?_⟩
      conv => whnf
      refine ⟨fun h => Bool.noConfusion (q8.symm.trans h), fun _ => ?_⟩
      conv => whnf
      refine ⟨fun h => Bool.noConfusion (q9.symm.trans h), fun _ => ?_⟩
      conv => whnf
      refine ⟨fun h => Bool.noConfusion (q10.symm.trans h), fun _ => ?_⟩
      conv => whnf
      refine ⟨fun e1 => ?_, fun e1 => ?_⟩
      · have e1 : ((false && iEq (withF rest { noField with place := (comesOf x).getD 0 noRef, kind := 1, worth := (was.getD 0 noField).worth }).2 0) && iEq (withF (withF rest { noField with place := (comesOf x).getD 0 noRef, kind := 1, worth := (was.getD 0 noField).worth }).1 { noField with place := (comesOf x).getD 1 noRef, kind := 1, worth := (wrapO .i64 ((was.getD 0 noField).worth * x.factor)) }).2 0) = false := nott e1
        have ha := fin_spread h1 h2 ht kk (hwo hw) (b := false) (by rw [g1]; rfl) rfl rfl rfl
        rw [e1] at ha
        conv => whnf
        exact ⟨[], _, _, _, rfl, rfl, rfl, by rw [ha]; exact nil_take, trivial⟩
      have e1 : ((false && iEq (withF rest { noField with place := (comesOf x).getD 0 noRef, kind := 1, worth := (was.getD 0 noField).worth }).2 0) && iEq (withF (withF rest { noField with place := (comesOf x).getD 0 noRef, kind := 1, worth := (was.getD 0 noField).worth }).1 { noField with place := (comesOf x).getD 1 noRef, kind := 1, worth := (wrapO .i64 ((was.getD 0 noField).worth * x.factor)) }).2 0) = true := notf e1
      have ha := fin_spread h1 h2 ht kk (hwo hw) (b := false) (by rw [g1]; rfl) rfl rfl rfl
      rw [e1] at ha
      conv => whnf
      exact ⟨[], _, _, _, rfl, rfl, rfl, by rw [ha]; exact RepLe.refl _, trivial⟩
  · have kk : iEq x.kind 7 = true := iEq_t.2 k
    have q1 : iEq x.kind 1 = false := kinds 7 kk 1 (by decide)
    have q2 : iEq x.kind 2 = false := kinds 7 kk 2 (by decide)
    have q3 : iEq x.kind 3 = false := kinds 7 kk 3 (by decide)
    have q4 : iEq x.kind 4 = false := kinds 7 kk 4 (by decide)
    have q5 : iEq x.kind 5 = false := kinds 7 kk 5 (by decide)
    have q6 : iEq x.kind 6 = false := kinds 7 kk 6 (by decide)
    have q7 : iEq x.kind 7 = true := kk
    have q8 : iEq x.kind 8 = false := kinds 7 kk 8 (by decide)
    have q9 : iEq x.kind 9 = false := kinds 7 kk 9 (by decide)
    have q10 : iEq x.kind 10 = false := kinds 7 kk 10 (by decide)
    have hw := hwp q2
    have hc := comes_one h2 q3 q6
    refine ⟨fun h => Bool.noConfusion (q1.symm.trans h), fun _ => ?_⟩
    conv => whnf
    refine ⟨fun h => Bool.noConfusion (q4.symm.trans h), fun _ => ?_⟩
    conv => whnf
    refine ⟨fun h => Bool.noConfusion (q5.symm.trans h), fun _ => ?_⟩
    conv => whnf
    refine ⟨fun h => Bool.noConfusion (q2.symm.trans h), fun _ => ?_⟩
    conv => whnf
    refine ⟨fun h => Bool.noConfusion (q3.symm.trans h), fun _ => ?_⟩
    conv => whnf
    refine ⟨fun h => Bool.noConfusion (q6.symm.trans h), fun _ => ?_⟩
    conv => whnf
    refine ⟨fun _ => ?_, fun h => Bool.noConfusion (q7.symm.trans h)⟩
    conv => whnf
    refine ⟨(show (0 : Int) ≤ 0 ∧ (0 : Int) < (was.length : Int) by omega), ?_⟩
    conv => whnf
    refine ⟨(show 0 < was.length by omega), ?_⟩
    conv => whnf
    refine ⟨fun g1 => ?_, fun g1 => ?_⟩
    · have g1 : iEq (was.getD 0 noField).kind 2 = true := g1
      conv => whnf
      refine ⟨(show (0 : Int) ≤ 0 ∧ (0 : Int) < (was.length : Int) by omega), ?_⟩
      conv => whnf
      refine ⟨(show 0 < was.length by omega), ?_⟩
      conv => whnf
      refine ⟨rfl, ?_⟩
      conv => whnf
      refine ⟨by omega, ?_⟩
      conv => whnf
      refine CallK.go [] (GCall.args (f100 rest { noField with place := (comesOf x).getD 0 noRef, kind := 4 } (sEq (was.getD 0 noField).dflt x.other) hfr (show fitField _ from Nat.zero_le _)) ?hh) rfl rfl rfl rfl rfl ?_
      case hh => exact allLe3 (RepLe.refl _) (PLe.rep (PLe.agg (by repeat' (first | refine PLes.cons ?_ ?_ | exact PLe.refl _ | exact PLe.nil | exact PLes.end)))) (by first | exact RepLe.bl rfl | exact RepLe.refl _)
      conv => whnf
      refine ⟨fun h => Bool.noConfusion (q8.symm.trans h), fun _ => ?_⟩
      conv => whnf
      refine ⟨fun h => Bool.noConfusion (q9.symm.trans h), fun _ => ?_⟩
      conv => whnf
      refine ⟨fun h => Bool.noConfusion (q10.symm.trans h), fun _ => ?_⟩
      conv => whnf
      refine ⟨fun e1 => ?_, fun e1 => ?_⟩
      · have e1 : ((sEq (was.getD 0 noField).dflt x.other) && iEq (withF rest { noField with place := (comesOf x).getD 0 noRef, kind := 4 }).2 0) = false := nott e1
        have ha := fin_opened h1 h2 ht kk (b := sEq (was.getD 0 noField).dflt x.other) (by rw [g1]; rfl) rfl rfl
        rw [e1] at ha
        conv => whnf
        exact ⟨[], _, _, _, rfl, rfl, rfl, by rw [ha]; exact nil_take, trivial⟩
      have e1 : ((sEq (was.getD 0 noField).dflt x.other) && iEq (withF rest { noField with place := (comesOf x).getD 0 noRef, kind := 4 }).2 0) = true := notf e1
      have ha := fin_opened h1 h2 ht kk (b := sEq (was.getD 0 noField).dflt x.other) (by rw [g1]; rfl) rfl rfl
      rw [e1] at ha
      conv => whnf
      exact ⟨[], _, _, _, rfl, rfl, rfl, by rw [ha]; exact RepLe.refl _, trivial⟩
    · have g1 : iEq (was.getD 0 noField).kind 2 = false := g1
      conv => whnf
      refine ⟨rfl, ?_⟩
      conv => whnf
      refine ⟨by omega, ?_⟩
      conv => whnf
      refine CallK.go [] (GCall.args (f100 rest { noField with place := (comesOf x).getD 0 noRef, kind := 4 } false hfr (show fitField _ from Nat.zero_le _)) ?hh) rfl rfl rfl rfl rfl ?_
      case hh => exact allLe3 (RepLe.refl _) (PLe.rep (PLe.agg (by repeat' (first | refine PLes.cons ?_ ?_ | exact PLe.refl _ | exact PLe.nil | exact PLes.end)))) (by first | exact RepLe.bl rfl | exact RepLe.refl _)
      conv => whnf
      refine ⟨fun h => Bool.noConfusion (q8.symm.trans h), fun _ => ?_⟩
      conv => whnf
      refine ⟨fun h => Bool.noConfusion (q9.symm.trans h), fun _ => ?_⟩
      conv => whnf
      refine ⟨fun h => Bool.noConfusion (q10.symm.trans h), fun _ => ?_⟩
      conv => whnf
      refine ⟨fun e1 => ?_, fun e1 => ?_⟩
      · have e1 : (false && iEq (withF rest { noField with place := (comesOf x).getD 0 noRef, kind := 4 }).2 0) = false := nott e1
        have ha := fin_opened h1 h2 ht kk (b := false) (by rw [g1]; rfl) rfl rfl
        rw [e1] at ha
        conv => whnf
        exact ⟨[], _, _, _, rfl, rfl, rfl, by rw [ha]; exact nil_take, trivial⟩
      have e1 : (false && iEq (withF rest { noField with place := (comesOf x).getD 0 noRef, kind := 4 }).2 0) = true := notf e1
      have ha := fin_opened h1 h2 ht kk (b := false) (by rw [g1]; rfl) rfl rfl
      rw [e1] at ha
      conv => whnf
      exact ⟨[], _, _, _, rfl, rfl, rfl, by rw [ha]; exact RepLe.refl _, trivial⟩
  · have kk : iEq x.kind 8 = true := iEq_t.2 k
    have q1 : iEq x.kind 1 = false := kinds 8 kk 1 (by decide)
    have q2 : iEq x.kind 2 = false := kinds 8 kk 2 (by decide)
    have q3 : iEq x.kind 3 = false := kinds 8 kk 3 (by decide)
    have q4 : iEq x.kind 4 = false := kinds 8 kk 4 (by decide)
    have q5 : iEq x.kind 5 = false := kinds 8 kk 5 (by decide)
    have q6 : iEq x.kind 6 = false := kinds 8 kk 6 (by decide)
    have q7 : iEq x.kind 7 = false := kinds 8 kk 7 (by decide)
    have q8 : iEq x.kind 8 = true := kk
    have q9 : iEq x.kind 9 = false := kinds 8 kk 9 (by decide)
    have q10 : iEq x.kind 10 = false := kinds 8 kk 10 (by decide)
    have hw := hwp q2
    have hc := comes_one h2 q3 q6
    refine ⟨fun h => Bool.noConfusion (q1.symm.trans h), fun _ => ?_⟩
    conv => whnf
    refine ⟨fun h => Bool.noConfusion (q4.symm.trans h), fun _ => ?_⟩
    conv => whnf
    refine ⟨fun h => Bool.noConfusion (q5.symm.trans h), fun _ => ?_⟩
    conv => whnf
    refine ⟨fun h => Bool.noConfusion (q2.symm.trans h), fun _ => ?_⟩
    conv => whnf
    refine ⟨fun h => Bool.noConfusion (q3.symm.trans h), fun _ => ?_⟩
    conv => whnf
    refine ⟨fun h => Bool.noConfusion (q6.symm.trans h), fun _ => ?_⟩
    conv => whnf
    refine ⟨fun h => Bool.noConfusion (q7.symm.trans h), fun _ => ?_⟩
    conv => whnf
    refine ⟨fun _ => ?_, fun h => Bool.noConfusion (q8.symm.trans h)⟩
    conv => whnf
    refine ⟨(show (0 : Int) ≤ 0 ∧ (0 : Int) < (was.length : Int) by omega), ?_⟩
    conv => whnf
    refine ⟨(show 0 < was.length by omega), ?_⟩
    conv => whnf
    refine ⟨fun g1 => ?_, fun g1 => ?_⟩
    · have g1 : iEq (was.getD 0 noField).kind 3 = true := g1
      conv => whnf
      refine ⟨(show (0 : Int) ≤ 0 ∧ (0 : Int) < (was.length : Int) by omega), ?_⟩
      conv => whnf
      refine ⟨(show 0 < was.length by omega), ?_⟩
      conv => whnf
      refine ⟨fun g2 => ?_, fun g2 => ?_⟩
      · have g2 : sEq (was.getD 0 noField).dflt x.name = true := g2
        conv => whnf
        refine ⟨(show (0 : Int) ≤ 0 ∧ (0 : Int) < (was.length : Int) by omega), ?_⟩
        conv => whnf
        refine ⟨(show 0 < was.length by omega), ?_⟩
        conv => whnf
        refine CallK.go [] (f103 x.forth hx.2.1) rfl rfl rfl rfl rfl ?_
        conv => whnf
        refine CallK.lent (f102 (was.getD 0 noField).cases (fromsOf x.forth) (hwa 0).ok) rfl ?_
        conv => whnf
        refine ⟨rfl, ?_⟩
        conv => whnf
        refine ⟨by omega, ?_⟩
        conv => whnf
        refine CallK.go [] (f103 x.back hx.2.2) rfl rfl rfl rfl rfl ?_
        conv => whnf
        refine CallK.go [] (GCall.args (f100 rest { noField with place := (comesOf x).getD 0 noRef, kind := 3, dflt := x.other, cases := fromsOf x.back } (sameStrs (was.getD 0 noField).cases (fromsOf x.forth)) hfr (show fitField _ from (by show (fromsOf x.back).length ≤ 8796093022208; rw [froms_len]; exact Nat.le_trans hx.2.2 (by decide)))) ?hh) rfl rfl rfl rfl rfl ?_
        case hh => exact allLe3 (RepLe.refl _) (PLe.rep (PLe.agg (by repeat' (first | refine PLes.cons ?_ ?_ | exact PLe.refl _ | exact PLe.nil | exact PLes.end)))) (by first | exact RepLe.bl rfl | exact RepLe.refl _)
        conv => whnf
        refine ⟨rfl, ?_⟩
        conv => whnf
        refine ⟨fun h => Bool.noConfusion (q9.symm.trans h), fun _ => ?_⟩
        conv => whnf
        refine ⟨fun h => Bool.noConfusion (q10.symm.trans h), fun _ => ?_⟩
        conv => whnf
        refine ⟨fun e1 => ?_, fun e1 => ?_⟩
        · have e1 : ((sameStrs (was.getD 0 noField).cases (fromsOf x.forth)) && iEq (withF rest { noField with place := (comesOf x).getD 0 noRef, kind := 3, dflt := x.other, cases := fromsOf x.back }).2 0) = false := nott e1
          have ha := fin_cased h1 h2 ht kk (b := sameStrs (was.getD 0 noField).cases (fromsOf x.forth)) (by rw [g1, g2]; rfl) rfl rfl
          rw [e1] at ha
          conv => whnf
          exact ⟨[], _, _, _, rfl, rfl, rfl, by rw [ha]; exact nil_take, trivial⟩
        have e1 : ((sameStrs (was.getD 0 noField).cases (fromsOf x.forth)) && iEq (withF rest { noField with place := (comesOf x).getD 0 noRef, kind := 3, dflt := x.other, cases := fromsOf x.back }).2 0) = true := notf e1
        have ha := fin_cased h1 h2 ht kk (b := sameStrs (was.getD 0 noField).cases (fromsOf x.forth)) (by rw [g1, g2]; rfl) rfl rfl
        rw [e1] at ha
        conv => whnf
        exact ⟨[], _, _, _, rfl, rfl, rfl, by rw [ha]; exact RepLe.refl _, trivial⟩
      · have g2 : sEq (was.getD 0 noField).dflt x.name = false := g2
        conv => whnf
        refine ⟨rfl, ?_⟩
        conv => whnf
        refine ⟨by omega, ?_⟩
        conv => whnf
        refine CallK.go [] (f103 x.back hx.2.2) rfl rfl rfl rfl rfl ?_
        conv => whnf
        refine CallK.go [] (GCall.args (f100 rest { noField with place := (comesOf x).getD 0 noRef, kind := 3, dflt := x.other, cases := fromsOf x.back } false hfr (show fitField _ from (by show (fromsOf x.back).length ≤ 8796093022208; rw [froms_len]; exact Nat.le_trans hx.2.2 (by decide)))) ?hh) rfl rfl rfl rfl rfl ?_
        case hh => exact allLe3 (RepLe.refl _) (PLe.rep (PLe.agg (by repeat' (first | refine PLes.cons ?_ ?_ | exact PLe.refl _ | exact PLe.nil | exact PLes.end)))) (by first | exact RepLe.bl rfl | exact RepLe.refl _)
        conv => whnf
        refine ⟨rfl, ?_⟩
        conv => whnf
        refine ⟨fun h => Bool.noConfusion (q9.symm.trans h), fun _ => ?_⟩
        conv => whnf
        refine ⟨fun h => Bool.noConfusion (q10.symm.trans h), fun _ => ?_⟩
        conv => whnf
        refine ⟨fun e1 => ?_, fun e1 => ?_⟩
        · have e1 : (false && iEq (withF rest { noField with place := (comesOf x).getD 0 noRef, kind := 3, dflt := x.other, cases := fromsOf x.back }).2 0) = false := nott e1
          have ha := fin_cased h1 h2 ht kk (b := false) (by rw [g1, g2]; rfl) rfl rfl
          rw [e1] at ha
          conv => whnf
          exact ⟨[], _, _, _, rfl, rfl, rfl, by rw [ha]; exact nil_take, trivial⟩
        have e1 : (false && iEq (withF rest { noField with place := (comesOf x).getD 0 noRef, kind := 3, dflt := x.other, cases := fromsOf x.back }).2 0) = true := notf e1
        have ha := fin_cased h1 h2 ht kk (b := false) (by rw [g1, g2]; rfl) rfl rfl
        rw [e1] at ha
        conv => whnf
        exact ⟨[], _, _, _, rfl, rfl, rfl, by rw [ha]; exact RepLe.refl _, trivial⟩
    · have g1 : iEq (was.getD 0 noField).kind 3 = false := g1
      conv => whnf
      refine ⟨rfl, ?_⟩
      conv => whnf
      refine ⟨by omega, ?_⟩
      conv => whnf
      refine CallK.go [] (f103 x.back hx.2.2) rfl rfl rfl rfl rfl ?_
      conv => whnf
      refine CallK.go [] (GCall.args (f100 rest { noField with place := (comesOf x).getD 0 noRef, kind := 3, dflt := x.other, cases := fromsOf x.back } false hfr (show fitField _ from (by show (fromsOf x.back).length ≤ 8796093022208; rw [froms_len]; exact Nat.le_trans hx.2.2 (by decide)))) ?hh) rfl rfl rfl rfl rfl ?_
      case hh => exact allLe3 (RepLe.refl _) (PLe.rep (PLe.agg (by repeat' (first | refine PLes.cons ?_ ?_ | exact PLe.refl _ | exact PLe.nil | exact PLes.end)))) (by first | exact RepLe.bl rfl | exact RepLe.refl _)
      conv => whnf
      refine ⟨rfl, ?_⟩
      conv => whnf
      refine ⟨fun h => Bool.noConfusion (q9.symm.trans h), fun _ => ?_⟩
      conv => whnf
      refine ⟨fun h => Bool.noConfusion (q10.symm.trans h), fun _ => ?_⟩
      conv => whnf
      refine ⟨fun e1 => ?_, fun e1 => ?_⟩
      · have e1 : (false && iEq (withF rest { noField with place := (comesOf x).getD 0 noRef, kind := 3, dflt := x.other, cases := fromsOf x.back }).2 0) = false := nott e1
        have ha := fin_cased h1 h2 ht kk (b := false) (by rw [g1]; rfl) rfl rfl
        rw [e1] at ha
        conv => whnf
        exact ⟨[], _, _, _, rfl, rfl, rfl, by rw [ha]; exact nil_take, trivial⟩
      have e1 : (false && iEq (withF rest { noField with place := (comesOf x).getD 0 noRef, kind := 3, dflt := x.other, cases := fromsOf x.back }).2 0) = true := notf e1
      have ha := fin_cased h1 h2 ht kk (b := false) (by rw [g1]; rfl) rfl rfl
      rw [e1] at ha
      conv => whnf
      exact ⟨[], _, _, _, rfl, rfl, rfl, by rw [ha]; exact RepLe.refl _, trivial⟩
  · have kk : iEq x.kind 9 = true := iEq_t.2 k
    have q1 : iEq x.kind 1 = false := kinds 9 kk 1 (by decide)
    have q2 : iEq x.kind 2 = false := kinds 9 kk 2 (by decide)
    have q3 : iEq x.kind 3 = false := kinds 9 kk 3 (by decide)
    have q4 : iEq x.kind 4 = false := kinds 9 kk 4 (by decide)
    have q5 : iEq x.kind 5 = false := kinds 9 kk 5 (by decide)
    have q6 : iEq x.kind 6 = false := kinds 9 kk 6 (by decide)
    have q7 : iEq x.kind 7 = false := kinds 9 kk 7 (by decide)
    have q8 : iEq x.kind 8 = false := kinds 9 kk 8 (by decide)
    have q9 : iEq x.kind 9 = true := kk
    have q10 : iEq x.kind 10 = false := kinds 9 kk 10 (by decide)
    have hw := hwp q2
    have hw2 : 1 < was.length := by rw [hwn, goes_len h2, q2, q3, q9]; decide
    have hc := comes_one h2 q3 q6
    refine ⟨fun h => Bool.noConfusion (q1.symm.trans h), fun _ => ?_⟩
    conv => whnf
    refine ⟨fun h => Bool.noConfusion (q4.symm.trans h), fun _ => ?_⟩
    conv => whnf
    refine ⟨fun h => Bool.noConfusion (q5.symm.trans h), fun _ => ?_⟩
    conv => whnf
    refine ⟨fun h => Bool.noConfusion (q2.symm.trans h), fun _ => ?_⟩
    conv => whnf
    refine ⟨fun h => Bool.noConfusion (q3.symm.trans h), fun _ => ?_⟩
    conv => whnf
    refine ⟨fun h => Bool.noConfusion (q6.symm.trans h), fun _ => ?_⟩
    conv => whnf
    refine ⟨fun h => Bool.noConfusion (q7.symm.trans h), fun _ => ?_⟩
    conv => whnf
    refine ⟨fun h => Bool.noConfusion (q8.symm.trans h), fun _ => ?_⟩
    conv => whnf
    refine ⟨fun _ => ?_, fun h => Bool.noConfusion (q9.symm.trans h)⟩
    conv => whnf
    refine ⟨(show (0 : Int) ≤ 0 ∧ (0 : Int) < (was.length : Int) by omega), ?_⟩
    conv => whnf
    refine ⟨(show 0 < was.length by omega), ?_⟩
    conv => whnf
    refine ⟨fun g1 => ?_, fun g1 => ?_⟩
    · have g1 : iEq (was.getD 0 noField).kind 1 = true := g1
      conv => whnf
      refine ⟨(show (0 : Int) ≤ 1 ∧ (1 : Int) < (was.length : Int) by omega), ?_⟩
      conv => whnf
      refine ⟨(show 1 < was.length by omega), ?_⟩
      conv => whnf
      refine ⟨fun g2 => ?_, fun g2 => ?_⟩
      · have g2 : iEq (was.getD 1 noField).kind 1 = true := g2
        conv => whnf
        refine ⟨(show (0 : Int) ≤ 1 ∧ (1 : Int) < (was.length : Int) by omega), ?_⟩
        conv => whnf
        refine ⟨(show 1 < was.length by omega), ?_⟩
        conv => whnf
        refine ⟨(show (0 : Int) ≤ 0 ∧ (0 : Int) < (was.length : Int) by omega), ?_⟩
        conv => whnf
        refine ⟨(show 0 < was.length by omega), ?_⟩
        conv => whnf
        intro z hz
        subst hz
        conv => whnf
        refine ⟨rfl, ?_⟩
        conv => whnf
        refine ⟨by omega, ?_⟩
        conv => whnf
        refine ⟨(show (0 : Int) ≤ 0 ∧ (0 : Int) < (was.length : Int) by omega), ?_⟩
        conv => whnf
        refine ⟨(show 0 < was.length by omega), ?_⟩
        conv => whnf
        refine CallK.go [] (GCall.args (f100 rest { noField with place := (comesOf x).getD 0 noRef, kind := 1, worth := (was.getD 0 noField).worth } (iEq (was.getD 1 noField).worth (wrapO .i64 ((was.getD 0 noField).worth * x.factor))) hfr (show fitField _ from Nat.zero_le _)) ?hh) rfl rfl rfl rfl rfl ?_
        case hh => exact allLe3 (RepLe.refl _) (PLe.rep (PLe.agg (by repeat' (first | refine PLes.cons ?_ ?_ | exact PLe.refl _ | exact PLe.nil | exact PLes.end)))) (by first | exact RepLe.bl rfl | exact RepLe.refl _)
        conv => whnf
        refine ⟨rfl, ?_⟩
        conv => whnf
        refine ⟨fun h => Bool.noConfusion (q10.symm.trans h), fun _ => ?_⟩
        conv => whnf
        refine ⟨fun e1 => ?_, fun e1 => ?_⟩
        · have e1 : ((iEq (was.getD 1 noField).worth (wrapO .i64 ((was.getD 0 noField).worth * x.factor))) && iEq (withF rest { noField with place := (comesOf x).getD 0 noRef, kind := 1, worth := (was.getD 0 noField).worth }).2 0) = false := nott e1
          have ha := fin_gathered h1 h2 ht kk (hwo hw) (b := iEq (was.getD 1 noField).worth (wrapO .i64 ((was.getD 0 noField).worth * x.factor))) (by rw [g1, g2]; rfl) rfl rfl
          rw [e1] at ha
          conv => whnf
          exact ⟨[], _, _, _, rfl, rfl, rfl, by rw [ha]; exact nil_take, trivial⟩
        have e1 : ((iEq (was.getD 1 noField).worth (wrapO .i64 ((was.getD 0 noField).worth * x.factor))) && iEq (withF rest { noField with place := (comesOf x).getD 0 noRef, kind := 1, worth := (was.getD 0 noField).worth }).2 0) = true := notf e1
        have ha := fin_gathered h1 h2 ht kk (hwo hw) (b := iEq (was.getD 1 noField).worth (wrapO .i64 ((was.getD 0 noField).worth * x.factor))) (by rw [g1, g2]; rfl) rfl rfl
        rw [e1] at ha
        conv => whnf
        exact ⟨[], _, _, _, rfl, rfl, rfl, by rw [ha]; exact RepLe.refl _, trivial⟩
      · have g2 : iEq (was.getD 1 noField).kind 1 = false := g2
        conv => whnf
        refine ⟨rfl, ?_⟩
        conv => whnf
        refine ⟨by omega, ?_⟩
        conv => whnf
        refine ⟨(show (0 : Int) ≤ 0 ∧ (0 : Int) < (was.length : Int) by omega), ?_⟩
        conv => whnf
        refine ⟨(show 0 < was.length by omega), ?_⟩
        conv => whnf
        refine CallK.go [] (GCall.args (f100 rest { noField with place := (comesOf x).getD 0 noRef, kind := 1, worth := (was.getD 0 noField).worth } false hfr (show fitField _ from Nat.zero_le _)) ?hh) rfl rfl rfl rfl rfl ?_
        case hh => exact allLe3 (RepLe.refl _) (PLe.rep (PLe.agg (by repeat' (first | refine PLes.cons ?_ ?_ | exact PLe.refl _ | exact PLe.nil | exact PLes.end)))) (by first | exact RepLe.bl rfl | exact RepLe.refl _)
        conv => whnf
        refine ⟨rfl, ?_⟩
        conv => whnf
        refine ⟨fun h => Bool.noConfusion (q10.symm.trans h), fun _ => ?_⟩
        conv => whnf
        refine ⟨fun e1 => ?_, fun e1 => ?_⟩
        · have e1 : (false && iEq (withF rest { noField with place := (comesOf x).getD 0 noRef, kind := 1, worth := (was.getD 0 noField).worth }).2 0) = false := nott e1
          have ha := fin_gathered h1 h2 ht kk (hwo hw) (b := false) (by rw [g1, g2]; rfl) rfl rfl
          rw [e1] at ha
          conv => whnf
          exact ⟨[], _, _, _, rfl, rfl, rfl, by rw [ha]; exact nil_take, trivial⟩
        have e1 : (false && iEq (withF rest { noField with place := (comesOf x).getD 0 noRef, kind := 1, worth := (was.getD 0 noField).worth }).2 0) = true := notf e1
        have ha := fin_gathered h1 h2 ht kk (hwo hw) (b := false) (by rw [g1, g2]; rfl) rfl rfl
        rw [e1] at ha
        conv => whnf
        exact ⟨[], _, _, _, rfl, rfl, rfl, by rw [ha]; exact RepLe.refl _, trivial⟩
    · have g1 : iEq (was.getD 0 noField).kind 1 = false := g1
      conv => whnf
      refine ⟨rfl, ?_⟩
      conv => whnf
      refine ⟨by omega, ?_⟩
      conv => whnf
      refine ⟨(show (0 : Int) ≤ 0 ∧ (0 : Int) < (was.length : Int) by omega), ?_⟩
      conv => whnf
      refine ⟨(show 0 < was.length by omega), ?_⟩
      conv => whnf
      refine CallK.go [] (GCall.args (f100 rest { noField with place := (comesOf x).getD 0 noRef, kind := 1, worth := (was.getD 0 noField).worth } false hfr (show fitField _ from Nat.zero_le _)) ?hh) rfl rfl rfl rfl rfl ?_
      case hh => exact allLe3 (RepLe.refl _) (PLe.rep (PLe.agg (by repeat' (first | refine PLes.cons ?_ ?_ | exact PLe.refl _ | exact PLe.nil | exact PLes.end)))) (by first | exact RepLe.bl rfl | exact RepLe.refl _)
      conv => whnf
      refine ⟨rfl, ?_⟩
      conv => whnf
      refine ⟨fun h => Bool.noConfusion (q10.symm.trans h), fun _ => ?_⟩
      conv => whnf
      refine ⟨fun e1 => ?_, fun e1 => ?_⟩
      · have e1 : (false && iEq (withF rest { noField with place := (comesOf x).getD 0 noRef, kind := 1, worth := (was.getD 0 noField).worth }).2 0) = false := nott e1
        have ha := fin_gathered h1 h2 ht kk (hwo hw) (b := false) (by rw [g1]; rfl) rfl rfl
        rw [e1] at ha
        conv => whnf
        exact ⟨[], _, _, _, rfl, rfl, rfl, by rw [ha]; exact nil_take, trivial⟩
      have e1 : (false && iEq (withF rest { noField with place := (comesOf x).getD 0 noRef, kind := 1, worth := (was.getD 0 noField).worth }).2 0) = true := notf e1
      have ha := fin_gathered h1 h2 ht kk (hwo hw) (b := false) (by rw [g1]; rfl) rfl rfl
      rw [e1] at ha
      conv => whnf
      exact ⟨[], _, _, _, rfl, rfl, rfl, by rw [ha]; exact RepLe.refl _, trivial⟩
  · have kk : iEq x.kind 10 = true := iEq_t.2 k
    have q1 : iEq x.kind 1 = false := kinds 10 kk 1 (by decide)
    have q2 : iEq x.kind 2 = false := kinds 10 kk 2 (by decide)
    have q3 : iEq x.kind 3 = false := kinds 10 kk 3 (by decide)
    have q4 : iEq x.kind 4 = false := kinds 10 kk 4 (by decide)
    have q5 : iEq x.kind 5 = false := kinds 10 kk 5 (by decide)
    have q6 : iEq x.kind 6 = false := kinds 10 kk 6 (by decide)
    have q7 : iEq x.kind 7 = false := kinds 10 kk 7 (by decide)
    have q8 : iEq x.kind 8 = false := kinds 10 kk 8 (by decide)
    have q9 : iEq x.kind 9 = false := kinds 10 kk 9 (by decide)
    have q10 : iEq x.kind 10 = true := kk
    have hw := hwp q2
    have hc := comes_one h2 q3 q6
    refine ⟨fun h => Bool.noConfusion (q1.symm.trans h), fun _ => ?_⟩
    conv => whnf
    refine ⟨fun h => Bool.noConfusion (q4.symm.trans h), fun _ => ?_⟩
    conv => whnf
    refine ⟨fun h => Bool.noConfusion (q5.symm.trans h), fun _ => ?_⟩
    conv => whnf
    refine ⟨fun h => Bool.noConfusion (q2.symm.trans h), fun _ => ?_⟩
    conv => whnf
    refine ⟨fun h => Bool.noConfusion (q3.symm.trans h), fun _ => ?_⟩
    conv => whnf
    refine ⟨fun h => Bool.noConfusion (q6.symm.trans h), fun _ => ?_⟩
    conv => whnf
    refine ⟨fun h => Bool.noConfusion (q7.symm.trans h), fun _ => ?_⟩
    conv => whnf
    refine ⟨fun h => Bool.noConfusion (q8.symm.trans h), fun _ => ?_⟩
    conv => whnf
    refine ⟨fun h => Bool.noConfusion (q9.symm.trans h), fun _ => ?_⟩
    conv => whnf
    refine ⟨fun _ => ?_, fun h => Bool.noConfusion (q10.symm.trans h)⟩
    conv => whnf
    refine ⟨(show (0 : Int) ≤ 0 ∧ (0 : Int) < (was.length : Int) by omega), ?_⟩
    conv => whnf
    refine ⟨(show 0 < was.length by omega), ?_⟩
    conv => whnf
    refine ⟨by omega, ?_⟩
    conv => whnf
    refine CallK.go [] (GCall.args (f100 rest { noField with place := (comesOf x).getD 0 noRef, kind := 2, dflt := x.other } (iEq (was.getD 0 noField).kind 4) hfr (show fitField _ from Nat.zero_le _)) ?hh) rfl rfl rfl rfl rfl ?_
    case hh => exact allLe3 (RepLe.refl _) (PLe.rep (PLe.agg (by repeat' (first | refine PLes.cons ?_ ?_ | exact PLe.refl _ | exact PLe.nil | exact PLes.end)))) (by first | exact RepLe.bl rfl | exact RepLe.refl _)
    conv => whnf
    refine ⟨rfl, ?_⟩
    conv => whnf
    refine ⟨fun e1 => ?_, fun e1 => ?_⟩
    · have e1 : ((iEq (was.getD 0 noField).kind 4) && iEq (withF rest { noField with place := (comesOf x).getD 0 noRef, kind := 2, dflt := x.other }).2 0) = false := nott e1
      have ha := fin_closed h1 h2 ht kk (b := iEq (was.getD 0 noField).kind 4) rfl rfl rfl
      rw [e1] at ha
      conv => whnf
      exact ⟨[], _, _, _, rfl, rfl, rfl, by rw [ha]; exact nil_take, trivial⟩
    have e1 : ((iEq (was.getD 0 noField).kind 4) && iEq (withF rest { noField with place := (comesOf x).getD 0 noRef, kind := 2, dflt := x.other }).2 0) = true := notf e1
    have ha := fin_closed h1 h2 ht kk (b := iEq (was.getD 0 noField).kind 4) rfl rfl rfl
    rw [e1] at ha
    conv => whnf
    exact ⟨[], _, _, _, rfl, rfl, rfl, by rw [ha]; exact RepLe.refl _, trivial⟩
end Go.Proofs.YtalpbdabeffnlaaGreat
