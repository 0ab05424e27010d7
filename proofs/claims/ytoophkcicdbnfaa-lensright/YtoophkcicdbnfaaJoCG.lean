import Derived.Test.YtoophkcicdbnfaaJoAR
/- The reference: a lens' places, a field put. -/
set_option linter.unusedVariables false
set_option linter.unusedSimpArgs false
namespace Go.Proofs.Ytoophkcicdbnfaa
open Go Go.Av
set_option maxRecDepth 100000
set_option maxHeartbeats 2000000

theorem f111 (r : SRef) (s : ByteArray) : PCall Try.prog 111 [encRef r, .val (.string s)] (.p (encRef { r with name := s })) [] := by
  refine gcode hT hM Try.func111 rfl rfl (rv := [(4, some 27)]) rfl rfl rfl fun G hG => ?_
  conv => whnf
  exact ⟨[], _, _, _, rfl, rfl, rfl, RepLe.refl _, trivial⟩
theorem f101 (f : SField) (r : SRef) : PCall Try.prog 101 [encField f, encRef r] (.p (encField { f with place := r })) [] := by
  refine gcode hT hM Try.func101 rfl rfl (rv := [(4, some 30)]) rfl rfl rfl fun G hG => ?_
  conv => whnf
  exact ⟨[], _, _, _, rfl, rfl, rfl, RepLe.refl _, trivial⟩
def goes2 (x : SLens) : List SRef := if iEq x.kind 2 then [] else if iEq x.kind 3 then [x.field.place] else if iEq x.kind 9 then twoOf x else [x.place]
theorem goes2_eq {x : SLens} (h : lensOk x = true) : goes2 x = goesOf x := by
  unfold goes2 goesOf
  rw [h]
  cases iEq x.kind 2 <;> rfl
theorem f59 (x : SLens) : PCall Try.prog 59 [encLens x] (.p (encRefs (goes2 x))) [] := by
  refine gcode hT hM Try.func59 rfl rfl (rv := [(2, none)]) rfl rfl rfl fun G hG => ?_
  conv => whnf
  refine ⟨fun k2 => ?_, fun k2 => ?_⟩
  · conv => whnf
    exact ⟨[], _, _, _, rfl, rfl, rfl, nil_refs (by unfold goes2; rw [k2]; rfl), trivial⟩
  conv => whnf
  refine ⟨fun k3 => ?_, fun k3 => ?_⟩
  · conv => whnf
    exact ⟨[], _, _, _, rfl, rfl, rfl, PLe.rep (refs1 (r := x.field.place) (by unfold goes2; rw [k2, k3]; rfl) (three rfl rfl rfl)), trivial⟩
  conv => whnf
  refine ⟨fun k9 => ?_, fun k9 => ?_⟩
  · conv => whnf
    refine CallK.go [] (f111 x.place x.name) rfl rfl rfl rfl rfl ?_
    conv => whnf
    refine CallK.go [] (f111 x.place x.other) rfl rfl rfl rfl rfl ?_
    conv => whnf
    refine ⟨rfl, ?_⟩
    conv => whnf
    exact ⟨[], _, _, _, rfl, rfl, rfl, PLe.rep (refs2 (r := { x.place with name := x.name }) (s := { x.place with name := x.other }) (by unfold goes2; rw [k2, k3, k9]; rfl) (three rfl rfl rfl) (three rfl rfl rfl)), trivial⟩
  conv => whnf
  exact ⟨[], _, _, _, rfl, rfl, rfl, PLe.rep (refs1 (r := x.place) (by unfold goes2; rw [k2, k3, k9]; rfl) (three rfl rfl rfl)), trivial⟩

def comes2 (x : SLens) : List SRef :=
  if iEq x.kind 2 then [x.field.place] else if iEq x.kind 3 then [] else if iEq x.kind 6 then twoOf x else if iEq x.kind 1 then [{ x.place with name := x.name }]
  else if iEq x.kind 4 then [{ x.place with group := noS }] else if iEq x.kind 5 then [{ x.place with group := x.name }] else [x.place]
theorem comes2_eq {x : SLens} (h : lensOk x = true) : comes2 x = comesOf x := by
  unfold comes2 comesOf
  rw [h]
  cases h2 : iEq x.kind 2 with
  | true =>
    rw [show iEq x.kind 3 = false by rw [iEq_t] at h2; rw [iEq_f]; omega]
    rfl
  | false =>
    cases h3 : iEq x.kind 3 with
    | true => rfl
    | false =>
      cases h6 : iEq x.kind 6 with
      | true =>
        rw [show iEq x.kind 1 = false by rw [iEq_t] at h6; rw [iEq_f]; omega, show iEq x.kind 4 = false by rw [iEq_t] at h6; rw [iEq_f]; omega, show iEq x.kind 5 = false by rw [iEq_t] at h6; rw [iEq_f]; omega]
        rfl
      | false => cases iEq x.kind 1 <;> cases iEq x.kind 4 <;> cases iEq x.kind 5 <;> rfl
theorem f60 (x : SLens) : PCall Try.prog 60 [encLens x] (.p (encRefs (comes2 x))) [] := by
  refine gcode hT hM Try.func60 rfl rfl (rv := [(2, none)]) rfl rfl rfl fun G hG => ?_
  conv => whnf
  refine ⟨fun k2 => ?_, fun k2 => ?_⟩
  · conv => whnf
    exact ⟨[], _, _, _, rfl, rfl, rfl, PLe.rep (refs1 (r := x.field.place) (by unfold comes2; rw [k2]; rfl) (three rfl rfl rfl)), trivial⟩
  conv => whnf
  refine ⟨fun k3 => ?_, fun k3 => ?_⟩
  · conv => whnf
    exact ⟨[], _, _, _, rfl, rfl, rfl, nil_refs (by unfold comes2; rw [k2, k3]; rfl), trivial⟩
  conv => whnf
  refine ⟨fun k6 => ?_, fun k6 => ?_⟩
  · conv => whnf
    refine CallK.go [] (f111 x.place x.name) rfl rfl rfl rfl rfl ?_
    conv => whnf
    refine CallK.go [] (f111 x.place x.other) rfl rfl rfl rfl rfl ?_
    conv => whnf
    refine ⟨rfl, ?_⟩
    conv => whnf
    exact ⟨[], _, _, _, rfl, rfl, rfl, PLe.rep (refs2 (r := { x.place with name := x.name }) (s := { x.place with name := x.other }) (by unfold comes2; rw [k2, k3, k6]; rfl) (three rfl rfl rfl) (three rfl rfl rfl)), trivial⟩
  conv => whnf
  refine ⟨fun k1 => ?_, fun k1 => ?_⟩
  · conv => whnf
    refine CallK.go [] (f111 x.place x.name) rfl rfl rfl rfl rfl ?_
    conv => whnf
    exact ⟨[], _, _, _, rfl, rfl, rfl, PLe.rep (refs1 (r := { x.place with name := x.name }) (by unfold comes2; rw [k2, k3, k6, k1]; rfl) (three rfl rfl rfl)), trivial⟩
  conv => whnf
  refine ⟨fun k4 => ?_, fun k4 => ?_⟩
  · have k5 : iEq x.kind 5 = false := by rw [iEq_t] at k4; rw [iEq_f]; omega
    conv => whnf
    refine ⟨fun h => Bool.noConfusion (k5.symm.trans h), fun _ => ?_⟩
    conv => whnf
    exact ⟨[], _, _, _, rfl, rfl, rfl, PLe.rep (refs1 (r := { x.place with group := noS }) (by unfold comes2; rw [k2, k3, k6, k1, k4]; rfl) (three rfl rfl rfl)), trivial⟩
  conv => whnf
  refine ⟨fun k5 => ?_, fun k5 => ?_⟩
  · conv => whnf
    exact ⟨[], _, _, _, rfl, rfl, rfl, PLe.rep (refs1 (r := { x.place with group := x.name }) (by unfold comes2; rw [k2, k3, k6, k1, k4, k5]; rfl) (three rfl rfl rfl)), trivial⟩
  conv => whnf
  exact ⟨[], _, _, _, rfl, rfl, rfl, PLe.rep (refs1 (r := x.place) (by unfold comes2; rw [k2, k3, k6, k1, k4, k5]; rfl) (three rfl rfl rfl)), trivial⟩

theorem f100 (l : List SField) (f : SField) (b : Bool) (hl : fitFields l) (hf : fitField f) : PCall Try.prog 100 [encFields l, encField f, .val (.bool b)] (encTurn ((withF l f).1, b && iEq (withF l f).2 0)) [] := by
  refine gcode hT hM Try.func100 rfl rfl (rv := [(6, none), (7, none)]) rfl rfl rfl fun G hG => ?_
  conv => whnf
  refine CallK.go [] (f46 l f hl hf) rfl rfl rfl rfl rfl ?_
  conv => whnf
  refine ⟨fun h => ?_, fun h => ?_⟩
  · conv => whnf
    exact ⟨[], _, _, _, rfl, rfl, rfl, turn_ret (by rw [h]; rfl) (PLe.refl _), trivial⟩
  conv => whnf
  exact ⟨[], _, _, _, rfl, rfl, rfl, turn_bl (by rw [h]; rfl) (PLe.refl _), trivial⟩

def hasRef (l : List SRef) (r : SRef) : Bool := !allUpto (fun i => !sameRef (l.getD i noRef) r) l.length 0
theorem f53 (l : List SRef) (r : SRef) (hl : l.length ≤ maxLen) : PCall Try.prog 53 [encRefs l, encRef r] (.p (.val (.bool (hasRef l r)))) [] := by
  have hl : l.length ≤ 9223372036854775807 := hl
  refine gcode hT hM Try.func53 rfl rfl (rv := [(4, none)]) rfl rfl rfl fun G hG => ?_
  conv => whnf
  refine AW.loop (X := Nat) (fun i => told 18 [(0, .p (encRefs l)), (3, .pt 0 0), (5, vI .i64 (i : Int))] [(0, some (.box 27 ((refCells r).map .p)))] [0]) (fun i => i ≤ l.length ∧ hasRef l r = !allUpto (fun i => !sameRef (l.getD i noRef) r) (l.length - i) i) (fun i => l.length - i) (used0 hG _) 0 ⟨by omega, by simp [hasRef]⟩ (stle ⟨RepLe.refl _, RepLe.refl _, RepLe.refl _, trivial⟩ ⟨⟨_, rfl, BlkLe.refl _⟩, trivial⟩ rfl) ?_
  rintro i ⟨hi, hr⟩
  refine codeK_aw hT hM _ _ _ ?_
  conv => whnf
  refine ⟨fun h4 => ?_, fun h4 => ?_⟩
  · have hlt : i < l.length := by rw [iLt_t] at h4; omega
    rw [allUpto_step _ hlt] at hr
    conv => whnf
    refine ⟨by omega, ?_⟩
    conv => whnf
    refine ⟨rfl, ?_⟩
    conv => whnf
    refine ⟨fun h5 => ?_, fun h5 => ?_⟩
    · have h5 : sameRef (l.getD i noRef) r = true := by simpa [sameRef] using h5
      conv => whnf
      exact ⟨[], _, _, _, rfl, rfl, rfl, RepLe.bl (by rw [hr, h5]; rfl), trivial⟩
    have h5 : sameRef (l.getD i noRef) r = false := by simpa [sameRef] using h5
    conv => whnf
    intro z hz
    have hy := wrap64_eq hz (by omega) (by omega)
    clear hz
    subst hy
    conv => whnf
    exact ⟨i + 1, ⟨by omega, by rw [hr, h5]; rfl⟩, by omega, stle ⟨RepLe.refl _, RepLe.refl _, RepLe.of rfl, trivial⟩ ⟨⟨_, rfl, BlkLe.refl _⟩, trivial⟩ rfl⟩
  · have hge : i = l.length := by rw [iLt_f] at h4; omega
    subst hge
    conv => whnf
    exact ⟨[], _, _, _, rfl, rfl, rfl, RepLe.bl (by rw [hr, allUpto_end]; rfl), trivial⟩
end Go.Proofs.Ytoophkcicdbnfaa

/- LensCases: the awakening, and the law itself. -/
set_option linter.unusedVariables false
set_option linter.unusedSimpArgs false
namespace Go.Proofs.Ytoophkcicdbnfaa
open Go Go.Av
set_option maxRecDepth 100000
set_option maxHeartbeats 2000000

def splitLens : SLens := { noLens with kind := 6, place := ⟨1, noS, word [113, 116, 121]⟩, name := word [117, 110, 105, 116], other := word [98, 111, 120], factor := 12 }
def boxRef : SRef := ⟨1, noS, word [98, 111, 120]⟩
theorem split_fit : fitLens splitLens := ⟨Nat.zero_le _, Nat.zero_le _, Nat.zero_le _⟩
theorem split_code : (applyF rootFields splitLens).2 = 0 := by decide +kernel
theorem split_len : (applyF rootFields splitLens).1.length = 6 := by decide +kernel
theorem split_cases : ∀ y ∈ (applyF rootFields splitLens).1, y.cases.length ≤ 8796093022208 := by decide +kernel
theorem split_all : fitFields (applyF rootFields splitLens).1 := ⟨by rw [split_len]; decide, split_cases⟩
theorem split_box : (fieldAt (applyF rootFields splitLens).1 (placeIn (applyF rootFields splitLens).1 boxRef)).2 = 0 := by decide +kernel
theorem split_worth : (fieldAt (applyF rootFields splitLens).1 (placeIn (applyF rootFields splitLens).1 boxRef)).1.worth = 12 := by decide +kernel

theorem f48 : PCall Try.prog 48 [] (.p (.val (.bool true))) [] := by
  refine gcode hT hM Try.func48 rfl rfl (rv := [(0, none)]) rfl rfl rfl fun G hG => ?_
  conv => whnf
  refine CallK.go [] (f19) rfl rfl rfl rfl rfl ?_
  conv => whnf
  refine CallK.go [] (GCall.args (f49 rootFields splitLens root_fit split_fit) ?hh) rfl rfl rfl rfl rfl ?_
  case hh => exact allLe2 (RepLe.refl _) (PLe.rep (PLe.agg (by repeat' (first | refine PLes.cons ?_ ?_ | exact PLe.refl _ | exact PLe.nil | exact PLes.end))))
  conv => whnf
  refine CallK.go [] (f30 (applyF rootFields splitLens).1 boxRef split_all) rfl rfl rfl rfl rfl ?_
  conv => whnf
  refine ⟨fun a1 => ?_, fun a1 => ?_⟩
  · conv => whnf
    refine ⟨fun a2 => ?_, fun a2 => ?_⟩
    · conv => whnf
      refine ⟨fun a3 => ?_, fun a3 => ?_⟩
      · conv => whnf
        exact ⟨[], _, _, _, rfl, rfl, rfl, RepLe.vb (by rw [iEq_t]; exact split_worth), trivial⟩
      · rw [iEq_f] at a3
        exact absurd (by rw [split_len]; rfl) a3
    · rw [iEq_f] at a2
      exact absurd split_box a2
  · rw [iEq_f] at a1
    exact absurd split_code a1

theorem f11 (t : List SPair) (s : ByteArray) (ht : t.length ≤ maxLen) : PCall Try.prog 11 [encPairs t, .val (.string s)] (.p (.val (.bool true))) [] := by
  refine gcode hT hM Try.func11 rfl rfl (rv := [(4, none)]) rfl rfl rfl fun G hG => ?_
  conv => whnf
  refine CallK.lent (f48) rfl ?_
  conv => whnf
  refine ⟨fun h => ?_, fun h => ?_⟩
  · cases h
  conv => whnf
  refine ⟨fun h1 => ?_, fun h1 => ?_⟩
  · conv => whnf
    exact ⟨[], _, _, _, rfl, rfl, rfl, RepLe.bl rfl, trivial⟩
  conv => whnf
  refine CallK.go [] (f54 t s ht) rfl rfl rfl rfl rfl ?_
  conv => whnf
  refine CallK.go [] (f55 t s ht) rfl rfl rfl rfl rfl ?_
  conv => whnf
  refine ⟨fun a1 => ?_, fun a1 => ?_⟩
  · conv => whnf
    exact ⟨[], _, _, _, rfl, rfl, rfl, RepLe.vb (bEq_self _), trivial⟩
  · rw [sEq_f] at a1
    exact absurd rfl a1
end Go.Proofs.Ytoophkcicdbnfaa

/- LensRight: lists of places; a lens in new memory, its first table the caller's own. -/
set_option linter.unusedVariables false
set_option linter.unusedSimpArgs false
namespace Go.Proofs.Ytoophkcicdbnfaa
open Go Go.Av
set_option maxRecDepth 100000
set_option maxHeartbeats 4000000

def sameRefs (l m : List SRef) : Bool := decide (l.length = m.length) && allUpto (fun i => sameRef (l.getD i noRef) (m.getD i noRef)) l.length 0
theorem f58 (l m : List SRef) (hl : l.length ≤ maxLen) : PCall Try.prog 58 [encRefs l, encRefs m] (.p (.val (.bool (sameRefs l m)))) [] := by
  have hlen : l.length ≤ 9223372036854775807 := hl
  refine gcode hT hM Try.func58 rfl rfl (rv := [(4, none)]) rfl rfl rfl fun G hG => ?_
  conv => whnf
  refine ⟨fun h => ?_, fun h => ?_⟩
  · conv => whnf
    exact ⟨[], _, _, _, rfl, rfl, rfl, RepLe.bl (by simp [iEq_f] at h; simp [sameRefs]; omega), trivial⟩
  conv => whnf
  have heq : l.length = m.length := by simp [iEq_t] at h; omega
  refine AW.loop (X := Nat) (fun i => told 26 [(0, .p (encRefs l)), (1, .p (encRefs m)), (5, vI .i64 (i : Int))] [] []) (fun i => i ≤ l.length ∧ sameRefs l m = allUpto (fun i => sameRef (l.getD i noRef) (m.getD i noRef)) (l.length - i) i) (fun i => l.length - i) (used0 hG _) 0 ⟨by omega, by simp [sameRefs, heq]⟩ (stle ⟨RepLe.refl _, RepLe.refl _, RepLe.refl _, trivial⟩ trivial rfl) ?_
  rintro i ⟨hi, hr⟩
  refine codeK_aw hT hM _ _ _ ?_
  conv => whnf
  refine ⟨fun h4 => ?_, fun h4 => ?_⟩
  · have hlt : i < l.length := by rw [iLt_t] at h4; omega
    rw [allUpto_step _ hlt] at hr
    conv => whnf
    refine ⟨by omega, ?_⟩
    conv => whnf
    refine ⟨by omega, ?_⟩
    conv => whnf
    refine ⟨rfl, ?_⟩
    conv => whnf
    refine ⟨fun h5 => ?_, fun h5 => ?_⟩
    · have h5 : sameRef (l.getD i noRef) (m.getD i noRef) = false := by unfold sameRef; cases q : (iEq (l.getD i noRef).scope (m.getD i noRef).scope && (sEq (l.getD i noRef).group (m.getD i noRef).group && sEq (l.getD i noRef).name (m.getD i noRef).name)) <;> simp_all
      conv => whnf
      exact ⟨[], _, _, _, rfl, rfl, rfl, RepLe.bl (by rw [hr, h5]; simp), trivial⟩
    have h5 : sameRef (l.getD i noRef) (m.getD i noRef) = true := by simpa [sameRef] using h5
    conv => whnf
    intro z hz
    have hy := wrap64_eq hz (by omega) (by omega)
    clear hz
    subst hy
    conv => whnf
    exact ⟨i + 1, ⟨by omega, by rw [hr, h5]; simp⟩, by omega, stle ⟨RepLe.refl _, RepLe.refl _, RepLe.of rfl, trivial⟩ trivial rfl⟩
  · have hge : i = l.length := by rw [iLt_f] at h4; omega
    subst hge
    conv => whnf
    exact ⟨[], _, _, _, rfl, rfl, rfl, RepLe.bl (by rw [hr, allUpto_end]), trivial⟩

def rowPairs (l : List SPair) : Option Blk := some (.row 77 2 l.length fun i => at_ .any (pairCells (l.getD i noPair)))
theorem f112o (l : List SPair) (hl : l.length ≤ 4398046511104) (h0 : 0 < l.length) : PCall Try.prog 112 [encPairs l] (.sl 0) [rowPairs l] := by
  refine GCall.slice (fun h => absurd h (by omega)) ?_
  refine gcode hT hM Try.func112 rfl rfl (rv := [(2, none)]) rfl rfl rfl fun G hG => ?_
  conv => whnf
  refine ⟨⟨show 0 + l.length ≤ 9223372036854775807 by omega, show (0 + l.length) * 32 ≤ 140737488355328 by omega⟩, ?_⟩
  conv => whnf
  exact ⟨[12304], _, _, _, rfl, rfl, rfl, RepLe.of rfl, BlkLe.row (Nat.zero_add _) fun a b _ _ => catF_ge (Nat.zero_le _), trivial⟩
/-- A lens' cells, its first table a row of the frame's own. -/
def ownCells (b : Nat) (x : SLens) : List AV := [.p (.val (.int .i64 x.kind)), .p (.val (.int .i64 x.place.scope)), .p (.val (.string x.place.group)), .p (.val (.string x.place.name)), .p (.val (.string x.name)), .p (.val (.string x.other)), .p (.val (.int .i64 x.factor)),
  .p (.val (.int .i64 x.field.place.scope)), .p (.val (.string x.field.place.group)), .p (.val (.string x.field.place.name)), .p (.val (.int .i64 x.field.kind)), .p (.val (.string x.field.dflt)), .p (encStrs x.field.cases), .p (.val (.int .i64 x.field.worth)),
  .sl b, .p (encPairs x.back)]
theorem f61o (x : SLens) (hx : fitLens x) (h0 : 0 < x.forth.length) : PCall Try.prog 61 [encLens x] (.ag 16 (at_ (.p .any) (ownCells 0 x))) [rowPairs x.forth] := by
  refine gcode hT hM Try.func61 rfl rfl (rv := [(2, some 33)]) rfl rfl rfl fun G hG => ?_
  conv => whnf
  refine CallK.go [] (f78 x.field hx.1) rfl rfl rfl rfl rfl ?_
  conv => whnf
  refine CallK.go [] (f112o x.forth hx.2.1 h0) rfl rfl rfl rfl rfl ?_
  conv => whnf
  refine CallK.go [] (f112 x.back hx.2.2) rfl rfl rfl rfl rfl ?_
  conv => whnf
  refine .inr ?_
  conv => whnf
  refine .inr ?_
  conv => whnf
  exact ⟨[8208], _, _, _, rfl, rfl, rfl, RepLe.refl _, BlkLe.refl _, trivial⟩
end Go.Proofs.Ytoophkcicdbnfaa
