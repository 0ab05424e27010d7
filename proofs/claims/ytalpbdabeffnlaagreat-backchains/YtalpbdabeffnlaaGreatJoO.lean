import Derived.Test.YtalpbdabeffnlaaGreatJoL
/- The reference's lens, right and turned round. -/
set_option linter.unusedVariables false
set_option linter.unusedSimpArgs false
namespace Go.Proofs.YtalpbdabeffnlaaGreat
open Go Go.Av
set_option maxRecDepth 100000

theorem f56 (x : SLens) (hx : fitLens x) : PCall Tryz.prog 44 [encLens x] (.p (.val (.bool (lensOk x)))) [] := by
  rw [← right_ref]
  refine gcode hT hM Tryz.func44 rfl rfl (rv := [(2, none)]) rfl rfl rfl fun G hG => ?_
  conv => whnf
  refine ⟨fun a2 => ?_, fun a2 => ?_⟩
  · conv => whnf
    repeat' (first
      | (refine ⟨fun _ => ?_, fun _ => ?_⟩ <;> (conv => whnf))
      | (refine CallK.lent (f105 x) rfl ?_; conv => whnf)
      | (refine CallK.lent (f85 x.field hx.1.ok) rfl ?_; conv => whnf)
      | (refine And.intro rfl ?_; conv => whnf)
      | (exact ⟨[], _, _, _, rfl, rfl, rfl, RepLe.bl (by first | (simp_all [right2, bare2, noS]; done) | grind [right2, bare2, noS]), trivial⟩)
      | (exact ⟨[], _, _, _, rfl, rfl, rfl, RepLe.vb (by first | (simp_all [right2, bare2, noS]; done) | grind [right2, bare2, noS]), trivial⟩))
  conv => whnf
  refine ⟨fun a3 => ?_, fun a3 => ?_⟩
  · conv => whnf
    repeat' (first
      | (refine ⟨fun _ => ?_, fun _ => ?_⟩ <;> (conv => whnf))
      | (refine CallK.lent (f105 x) rfl ?_; conv => whnf)
      | (refine CallK.lent (f85 x.field hx.1.ok) rfl ?_; conv => whnf)
      | (refine And.intro rfl ?_; conv => whnf)
      | (exact ⟨[], _, _, _, rfl, rfl, rfl, RepLe.bl (by first | (simp_all [right2, bare2, noS]; done) | grind [right2, bare2, noS]), trivial⟩)
      | (exact ⟨[], _, _, _, rfl, rfl, rfl, RepLe.vb (by first | (simp_all [right2, bare2, noS]; done) | grind [right2, bare2, noS]), trivial⟩))
  conv => whnf
  refine CallK.lent (f106 x.place) rfl ?_
  conv => whnf
  refine ⟨fun b1 => ?_, fun b1 => ?_⟩
  · conv => whnf
    exact ⟨[], _, _, _, rfl, rfl, rfl, RepLe.bl (by simp_all [right2]), trivial⟩
  conv => whnf
  refine CallK.lent (f107 x hx.ok) rfl ?_
  conv => whnf
  refine ⟨fun b2 => ?_, fun b2 => ?_⟩
  · conv => whnf
    exact ⟨[], _, _, _, rfl, rfl, rfl, RepLe.bl (by simp_all [right2]), trivial⟩
  conv => whnf
  have b1 : placeOk x.place = true := by simpa using b1
  have b2 : sameField x.field noField = true := by simpa using b2
  refine ⟨fun a8 => ?_, fun a8 => ?_⟩
  · have hk : right2 x = conv2 x := by simp_all [right2]
    clear a2 a3 b1 b2 a8
    conv => whnf
    refine CallK.go [] (f55 x.forth x.name hx.ok.2.1) rfl rfl rfl rfl rfl ?_
    conv => whnf
    refine CallK.go [] (f55 x.back x.other hx.ok.2.2) rfl rfl rfl rfl rfl ?_
    conv => whnf
    conv => whnf
    repeat' (first
      | (refine ⟨fun _ => ?_, fun _ => ?_⟩ <;> (conv => whnf))
      | (refine CallK.lent (f108 _ _ hx.2.1 hx.2.2) rfl ?_; conv => whnf)
      | (refine CallK.lent (f108 _ _ hx.2.2 hx.2.1) rfl ?_; conv => whnf)
      | (refine And.intro rfl ?_; conv => whnf)
      | (exact ⟨[], _, _, _, rfl, rfl, rfl, RepLe.bl (by first | (simp_all [conv2]; done) | grind [conv2]), trivial⟩)
      | (exact ⟨[], _, _, _, rfl, rfl, rfl, RepLe.vb (by first | (simp_all [conv2]; done) | grind [conv2]), trivial⟩))
  have hk : right2 x = kind2 x := by simp_all [right2]
  clear a2 a3 b1 b2 a8
  conv => whnf
  refine CallK.lent (f105 x) rfl ?_
  conv => whnf
  refine ⟨fun t0 => ?_, fun t0 => ?_⟩
  · conv => whnf
    exact ⟨[], _, _, _, rfl, rfl, rfl, RepLe.bl (by simp_all [kind2]), trivial⟩
  have t0 : tablesB x = false := t0
  conv => whnf
  refine ⟨fun a6 => ?_, fun a6 => ?_⟩
  · conv => whnf
    repeat' (first
      | (refine ⟨fun _ => ?_, fun _ => ?_⟩ <;> (conv => whnf))
      | (refine CallK.lent (f109 _) rfl ?_; conv => whnf)
      | (refine And.intro rfl ?_; conv => whnf)
      | (exact ⟨[], _, _, _, rfl, rfl, rfl, RepLe.bl (by first | (simp_all [kind2]; done) | grind [kind2]), trivial⟩)
      | (exact ⟨[], _, _, _, rfl, rfl, rfl, RepLe.vb (by first | (simp_all [kind2]; done) | grind [kind2]), trivial⟩))
  conv => whnf
  refine ⟨fun a9 => ?_, fun a9 => ?_⟩
  · conv => whnf
    repeat' (first
      | (refine ⟨fun _ => ?_, fun _ => ?_⟩ <;> (conv => whnf))
      | (refine CallK.lent (f109 _) rfl ?_; conv => whnf)
      | (refine And.intro rfl ?_; conv => whnf)
      | (exact ⟨[], _, _, _, rfl, rfl, rfl, RepLe.bl (by first | (simp_all [kind2]; done) | grind [kind2]), trivial⟩)
      | (exact ⟨[], _, _, _, rfl, rfl, rfl, RepLe.vb (by first | (simp_all [kind2]; done) | grind [kind2]), trivial⟩))
  conv => whnf
  refine ⟨fun c0 => ?_, fun c0 => ?_⟩
  · conv => whnf
    exact ⟨[], _, _, _, rfl, rfl, rfl, RepLe.bl (by simp_all [kind2]), trivial⟩
  have c0 : iEq x.factor 0 = true := by simpa using c0
  conv => whnf
  refine ⟨fun a7 => ?_, fun a7 => ?_⟩
  · conv => whnf
    repeat' (first
      | (refine ⟨fun _ => ?_, fun _ => ?_⟩ <;> (conv => whnf))
      | (refine And.intro rfl ?_; conv => whnf)
      | (exact ⟨[], _, _, _, rfl, rfl, rfl, RepLe.bl (by first | (simp_all [kind2, noS]; done) | grind [kind2, noS]), trivial⟩)
      | (exact ⟨[], _, _, _, rfl, rfl, rfl, RepLe.vb (by first | (simp_all [kind2, noS]; done) | grind [kind2, noS]), trivial⟩))
  conv => whnf
  refine ⟨fun a10 => ?_, fun a10 => ?_⟩
  · conv => whnf
    repeat' (first
      | (refine ⟨fun _ => ?_, fun _ => ?_⟩ <;> (conv => whnf))
      | (refine And.intro rfl ?_; conv => whnf)
      | (exact ⟨[], _, _, _, rfl, rfl, rfl, RepLe.bl (by first | (simp_all [kind2, noS]; done) | grind [kind2, noS]), trivial⟩)
      | (exact ⟨[], _, _, _, rfl, rfl, rfl, RepLe.vb (by first | (simp_all [kind2, noS]; done) | grind [kind2, noS]), trivial⟩))
  conv => whnf
  refine ⟨fun o0 => ?_, fun o0 => ?_⟩
  · have o0 : sEq x.other noS = false := by simpa [noS] using o0
    conv => whnf
    exact ⟨[], _, _, _, rfl, rfl, rfl, RepLe.bl (by simp_all [kind2]), trivial⟩
  have o0 : sEq x.other noS = true := by simpa [noS] using o0
  conv => whnf
  refine ⟨fun a1 => ?_, fun a1 => ?_⟩
  · conv => whnf
    refine CallK.lent (f109 _) rfl ?_
    conv => whnf
    exact ⟨[], _, _, _, rfl, rfl, rfl, RepLe.vb (by simp_all [kind2]), trivial⟩
  conv => whnf
  refine ⟨fun a4 => ?_, fun a4 => ?_⟩
  · conv => whnf
    repeat' (first
      | (refine ⟨fun _ => ?_, fun _ => ?_⟩ <;> (conv => whnf))
      | (refine And.intro rfl ?_; conv => whnf)
      | (exact ⟨[], _, _, _, rfl, rfl, rfl, RepLe.bl (by first | (simp_all [kind2, noS]; done) | grind [kind2, noS]), trivial⟩)
      | (exact ⟨[], _, _, _, rfl, rfl, rfl, RepLe.vb (by first | (simp_all [kind2, noS]; done) | grind [kind2, noS]), trivial⟩))
  conv => whnf
  repeat' (first
    | (refine ⟨fun _ => ?_, fun _ => ?_⟩ <;> (conv => whnf))
    | (refine CallK.lent (f109 _) rfl ?_; conv => whnf)
    | (refine And.intro rfl ?_; conv => whnf)
    | (exact ⟨[], _, _, _, rfl, rfl, rfl, RepLe.bl (by first | (simp_all [kind2, noS]; done) | grind [kind2, noS]), trivial⟩)
    | (exact ⟨[], _, _, _, rfl, rfl, rfl, RepLe.vb (by first | (simp_all [kind2, noS]; done) | grind [kind2, noS]), trivial⟩))
end Go.Proofs.YtalpbdabeffnlaaGreat

/- The reference's turn; what is heavy. -/
set_option linter.unusedVariables false
set_option linter.unusedSimpArgs false
namespace Go.Proofs.YtalpbdabeffnlaaGreat
open Go Go.Av
set_option maxRecDepth 100000
set_option maxHeartbeats 2000000

def otherOf (k : Int) : Int :=
  if iEq k 2 || iEq k 3 then 5 - k else if iEq k 4 || iEq k 5 then 9 - k else if iEq k 6 || iEq k 9 then 15 - k else if iEq k 7 || iEq k 10 then 17 - k else k
theorem f68 (k : Int) : PCall Tryz.prog 97 [.val (.int .i64 k)] (.p (.val (.int .i64 (otherOf k)))) [] := by
  have hb : ∀ a, iEq k a = true → k = a := fun a h => iEq_t.1 h
  refine gcode hT hM Tryz.func97 rfl rfl (rv := [(2, none)]) rfl rfl rfl fun G hG => ?_
  conv => whnf
  repeat' (first
    | (refine ⟨fun _ => ?_, fun _ => ?_⟩ <;> (conv => whnf))
    | (intro z hz; have hz' := wrap64_eq hz (by have := hb _ ‹_›; omega) (by have := hb _ ‹_›; omega); clear hz; subst hz'; conv => whnf)
    | (exact ⟨[], _, _, _, rfl, rfl, rfl, RepLe.vi (by clear hb; simp_all [otherOf]), trivial⟩))

/-- The reference's turned lens, as it builds it. -/
def turn2 (x : SLens) : SLens :=
  let y : SLens := { x with kind := otherOf x.kind, forth := x.back, back := x.forth }
  let y := if iEq x.kind 1 then { y with place := { y.place with name := x.name }, name := x.place.name } else y
  let y := if iEq x.kind 4 then { y with place := { y.place with group := noS }, name := x.place.group } else y
  let y := if iEq x.kind 5 then { y with place := { y.place with group := x.name }, name := noS } else y
  if iEq x.kind 8 then { y with name := x.other, other := x.name } else y
def inverse2 (x : SLens) : SLens × Int := if lensOk x then (turn2 x, 0) else (noLens, 5)

theorem f23 (x : SLens) (hx : fitLens x) : PCall Tryz.prog 45 [encLens x] (encInv (inverse2 x)) [] := by
  refine gcode hT hM Tryz.func45 rfl rfl (rv := [(2, some 42), (3, none)]) rfl rfl rfl fun G hG => ?_
  conv => whnf
  refine CallK.lent (f56 x hx) rfl ?_
  conv => whnf
  refine ⟨fun h => ?_, fun h => ?_⟩
  · conv => whnf
    exact ⟨[], _, _, _, rfl, rfl, rfl, RepLe.as encInv (a := (noLens, 5)) (by simp_all [inverse2]) (RepLe.tup2 (PLe.rep (PLe.agg (by repeat' (first | refine PLes.cons ?_ ?_ | exact PLe.refl _ | exact PLe.nil | exact PLes.end)))) (RepLe.refl _)), trivial⟩
  conv => whnf
  have h : lensOk x = true := by simpa using h
  have hi : inverse2 x = (turn2 x, 0) := by simp [inverse2, h]
  clear h
  refine CallK.lent (f68 _) rfl ?_
  conv => whnf
  refine ⟨rfl, ?_⟩
  conv => whnf
  refine ⟨fun a1 => ?_, fun a1 => ?_⟩
  · have a4 := iEq_ne 4 a1 (by decide)
    have a5 := iEq_ne 5 a1 (by decide)
    have a8 := iEq_ne 8 a1 (by decide)
    conv => whnf
    refine ⟨fun h => Bool.noConfusion (a4.symm.trans h), fun _ => ?_⟩
    conv => whnf
    refine ⟨fun h => Bool.noConfusion (a5.symm.trans h), fun _ => ?_⟩
    conv => whnf
    refine ⟨fun h => Bool.noConfusion (a8.symm.trans h), fun _ => ?_⟩
    conv => whnf
    exact ⟨[], _, _, _, rfl, rfl, rfl, RepLe.as encInv (a := ({ x with kind := otherOf x.kind, forth := x.back, back := x.forth, place := { x.place with name := x.name }, name := x.place.name }, 0)) (by simp_all [turn2]) (RepLe.tup2 (PLe.rep (PLe.agg (by repeat' (first | refine PLes.cons ?_ ?_ | exact PLe.refl _ | exact PLe.nil | exact PLes.end)))) (RepLe.refl _)), trivial⟩
  conv => whnf
  refine ⟨fun a4 => ?_, fun a4 => ?_⟩
  · have a5 := iEq_ne 5 a4 (by decide)
    have a8 := iEq_ne 8 a4 (by decide)
    conv => whnf
    refine ⟨fun h => Bool.noConfusion (a5.symm.trans h), fun _ => ?_⟩
    conv => whnf
    refine ⟨fun h => Bool.noConfusion (a8.symm.trans h), fun _ => ?_⟩
    conv => whnf
    exact ⟨[], _, _, _, rfl, rfl, rfl, RepLe.as encInv (a := ({ x with kind := otherOf x.kind, forth := x.back, back := x.forth, place := { x.place with group := noS }, name := x.place.group }, 0)) (by simp_all [turn2]) (RepLe.tup2 (PLe.rep (PLe.agg (by repeat' (first | refine PLes.cons ?_ ?_ | exact PLe.refl _ | exact PLe.nil | exact PLes.end)))) (RepLe.refl _)), trivial⟩
  conv => whnf
  refine ⟨fun a5 => ?_, fun a5 => ?_⟩
  · have a8 := iEq_ne 8 a5 (by decide)
    conv => whnf
    refine ⟨fun h => Bool.noConfusion (a8.symm.trans h), fun _ => ?_⟩
    conv => whnf
    exact ⟨[], _, _, _, rfl, rfl, rfl, RepLe.as encInv (a := ({ x with kind := otherOf x.kind, forth := x.back, back := x.forth, place := { x.place with group := x.name }, name := noS }, 0)) (by simp_all [turn2]) (RepLe.tup2 (PLe.rep (PLe.agg (by repeat' (first | refine PLes.cons ?_ ?_ | exact PLe.refl _ | exact PLe.nil | exact PLes.end)))) (RepLe.refl _)), trivial⟩
  conv => whnf
  refine ⟨fun a8 => ?_, fun a8 => ?_⟩
  · conv => whnf
    exact ⟨[], _, _, _, rfl, rfl, rfl, RepLe.as encInv (a := ({ x with kind := otherOf x.kind, forth := x.back, back := x.forth, name := x.other, other := x.name }, 0)) (by simp_all [turn2]) (RepLe.tup2 (PLe.rep (PLe.agg (by repeat' (first | refine PLes.cons ?_ ?_ | exact PLe.refl _ | exact PLe.nil | exact PLes.end)))) (RepLe.refl _)), trivial⟩
  conv => whnf
  exact ⟨[], _, _, _, rfl, rfl, rfl, RepLe.as encInv (a := ({ x with kind := otherOf x.kind, forth := x.back, back := x.forth }, 0)) (by simp_all [turn2]) (RepLe.tup2 (PLe.rep (PLe.agg (by repeat' (first | refine PLes.cons ?_ ?_ | exact PLe.refl _ | exact PLe.nil | exact PLes.end)))) (RepLe.refl _)), trivial⟩

theorem samePairs_empty {l : List SPair} (h : samePairs l [] = true) : l = [] := by
  rw [samePairs_nil] at h
  cases l with
  | nil => rfl
  | cons a l => simp [iLt_d] at h
theorem no_tables {x : SLens} (h : lensOk x = true) (h8 : iEq x.kind 8 = false) : x.forth = [] ∧ x.back = [] := by
  simp only [lensOk, sameLens, Bool.and_eq_true] at h
  obtain ⟨_, _, ⟨_, _, _, _, _, _, hf, hb⟩, _⟩ := h
  have p : (partsOf x).forth = [] ∧ (partsOf x).back = [] := by
    unfold partsOf
    split
    · exact ⟨rfl, rfl⟩
    split
    · exact ⟨rfl, rfl⟩
    split
    · exact ⟨rfl, rfl⟩
    split
    · exact ⟨rfl, rfl⟩
    rw [if_neg (by rw [h8]; simp)]
    exact ⟨rfl, rfl⟩
  rw [p.1] at hf
  rw [p.2] at hb
  exact ⟨samePairs_empty hf, samePairs_empty hb⟩
theorem kind_range {x : SLens} (h : lensOk x = true) : x.kind = 1 ∨ x.kind = 2 ∨ x.kind = 3 ∨ x.kind = 4 ∨ x.kind = 5 ∨ x.kind = 6 ∨ x.kind = 7 ∨ x.kind = 8 ∨ x.kind = 9 ∨ x.kind = 10 := by
  simp only [lensOk, Bool.and_eq_true, iLe_t] at h
  omega
theorem turn_ref (x : SLens) (h : lensOk x = true) : turn2 x = turnOf x := by
  have hk := kind_range h
  have hn := fun h8 => no_tables h h8
  clear h
  rcases hk with hk | hk | hk | hk | hk | hk | hk | hk | hk | hk
  all_goals
    first | (have e1 : iEq x.kind 1 = true := by rw [iEq_t]; omega) | (have e1 : iEq x.kind 1 = false := by rw [iEq_f]; omega)
    first | (have e2 : iEq x.kind 2 = true := by rw [iEq_t]; omega) | (have e2 : iEq x.kind 2 = false := by rw [iEq_f]; omega)
    first | (have e3 : iEq x.kind 3 = true := by rw [iEq_t]; omega) | (have e3 : iEq x.kind 3 = false := by rw [iEq_f]; omega)
    first | (have e4 : iEq x.kind 4 = true := by rw [iEq_t]; omega) | (have e4 : iEq x.kind 4 = false := by rw [iEq_f]; omega)
    first | (have e5 : iEq x.kind 5 = true := by rw [iEq_t]; omega) | (have e5 : iEq x.kind 5 = false := by rw [iEq_f]; omega)
    first | (have e6 : iEq x.kind 6 = true := by rw [iEq_t]; omega) | (have e6 : iEq x.kind 6 = false := by rw [iEq_f]; omega)
    first | (have e7 : iEq x.kind 7 = true := by rw [iEq_t]; omega) | (have e7 : iEq x.kind 7 = false := by rw [iEq_f]; omega)
    first | (have e8 : iEq x.kind 8 = true := by rw [iEq_t]; omega) | (have e8 : iEq x.kind 8 = false := by rw [iEq_f]; omega)
    first | (have e9 : iEq x.kind 9 = true := by rw [iEq_t]; omega) | (have e9 : iEq x.kind 9 = false := by rw [iEq_f]; omega)
    first | (have e10 : iEq x.kind 10 = true := by rw [iEq_t]; omega) | (have e10 : iEq x.kind 10 = false := by rw [iEq_f]; omega)
    simp only [turn2, turnOf, otherOf, e1, e2, e3, e4, e5, e6, e7, e8, e9, e10, Bool.or_true, Bool.or_false, Bool.true_or, Bool.false_or, if_true, if_false, Bool.false_eq_true, ↓reduceIte]
    first
      | done
      | (rw [(hn e8).1, (hn e8).2, hk]; done)
      | (rw [(hn e8).1, (hn e8).2, hk]; rfl)
      | (rw [(hn e8).1, (hn e8).2]; done)
      | (rw [(hn e8).1, (hn e8).2]; rfl)
      | (rw [hk]; done)
      | rfl
theorem inverse_ref (x : SLens) : inverse2 x = inverse x := by
  unfold inverse2 inverse
  split
  · rename_i h; rw [turn_ref x h]
  · rfl
end Go.Proofs.YtalpbdabeffnlaaGreat

/- What is heavy; the root. -/
set_option linter.unusedVariables false
set_option linter.unusedSimpArgs false
namespace Go.Proofs.YtalpbdabeffnlaaGreat
open Go Go.Av
set_option maxRecDepth 100000

def bigS (s : ByteArray) : Bool := iLt 200 s.size
def bigPair (p : SPair) : Bool := bigS p.frm || bigS p.tto
def heavyPairs (l : List SPair) : Bool := iLt 20 l.length || !allUpto (fun i => !bigPair (l.getD i noPair)) l.length 0
def heavyField (f : SField) : Bool := (bigS f.place.group || (bigS f.place.name || (bigS f.dflt || iLt 20 f.cases.length))) || !allUpto (fun i => !bigS (f.cases.getD i noS)) f.cases.length 0
def heavyLens (x : SLens) : Bool := bigS x.place.group || (bigS x.place.name || (bigS x.name || (bigS x.other || (heavyField x.field || (heavyPairs x.forth || heavyPairs x.back)))))

theorem f67 (l : List SPair) (hl : l.length ≤ maxLen) : PCall Tryz.prog 47 [encPairs l] (.p (.val (.bool (heavyPairs l)))) [] := by
  have hl : l.length ≤ 9223372036854775807 := hl
  refine gcode hT hM Tryz.func47 rfl rfl (rv := [(2, none)]) rfl rfl rfl fun G hG => ?_
  conv => whnf
  refine ⟨fun h => ?_, fun h => ?_⟩
  · conv => whnf
    exact ⟨[], _, _, _, rfl, rfl, rfl, RepLe.bl (by simp_all [heavyPairs]), trivial⟩
  conv => whnf
  refine AW.loop (X := Nat) (fun i => told 29 [(0, .p (encPairs l)), (3, vI .i64 (i : Int))] [] []) (fun i => i ≤ l.length ∧ heavyPairs l = !allUpto (fun i => !bigPair (l.getD i noPair)) (l.length - i) i) (fun i => l.length - i) (used0 hG _) 0 ⟨by omega, by simp_all [heavyPairs]⟩ (stle ⟨RepLe.refl _, RepLe.refl _, trivial⟩ trivial rfl) ?_
  rintro i ⟨hi, hr⟩
  refine codeK_aw hT hM _ _ _ ?_
  conv => whnf
  refine ⟨fun h4 => ?_, fun h4 => ?_⟩
  · have hlt : i < l.length := by rw [iLt_t] at h4; omega
    rw [allUpto_step _ hlt] at hr
    conv => whnf
    refine ⟨by omega, ?_⟩
    conv => whnf
    refine ⟨fun h5 => ?_, fun h5 => ?_⟩
    · have h5 : bigS (l.getD i noPair).frm = true := h5
      conv => whnf
      exact ⟨[], _, _, _, rfl, rfl, rfl, RepLe.bl (by rw [hr, bigPair, h5]; simp), trivial⟩
    have h5 : bigS (l.getD i noPair).frm = false := h5
    conv => whnf
    refine ⟨by omega, ?_⟩
    conv => whnf
    refine ⟨fun h6 => ?_, fun h6 => ?_⟩
    · have h6 : bigS (l.getD i noPair).tto = true := h6
      conv => whnf
      exact ⟨[], _, _, _, rfl, rfl, rfl, RepLe.bl (by rw [hr, bigPair, h5, h6]; simp), trivial⟩
    have h6 : bigS (l.getD i noPair).tto = false := h6
    conv => whnf
    intro z hz
    have hy := wrap64_eq hz (by omega) (by omega)
    clear hz
    subst hy
    conv => whnf
    exact ⟨i + 1, ⟨by omega, by rw [hr, bigPair, h5, h6]; simp⟩, by omega, stle ⟨RepLe.refl _, RepLe.of rfl, trivial⟩ trivial rfl⟩
  · have hge : i = l.length := by rw [iLt_f] at h4; omega
    subst hge
    conv => whnf
    exact ⟨[], _, _, _, rfl, rfl, rfl, RepLe.bl (by rw [hr, allUpto_end]; rfl), trivial⟩

theorem f44 (f : SField) (hf : okField f) : PCall Tryz.prog 38 [encField f] (.p (.val (.bool (heavyField f)))) [] := by
  have hl : f.cases.length ≤ 9223372036854775807 := hf
  refine gcode hT hM Tryz.func38 rfl rfl (rv := [(2, none)]) rfl rfl rfl fun G hG => ?_
  conv => whnf
  refine ⟨fun a1 => ?_, fun a1 => ?_⟩
  · conv => whnf
    exact ⟨[], _, _, _, rfl, rfl, rfl, RepLe.bl (by simp_all [heavyField, bigS]), trivial⟩
  conv => whnf
  refine ⟨fun a2 => ?_, fun a2 => ?_⟩
  · conv => whnf
    exact ⟨[], _, _, _, rfl, rfl, rfl, RepLe.bl (by simp_all [heavyField, bigS]), trivial⟩
  conv => whnf
  refine ⟨fun a3 => ?_, fun a3 => ?_⟩
  · conv => whnf
    exact ⟨[], _, _, _, rfl, rfl, rfl, RepLe.bl (by simp_all [heavyField, bigS]), trivial⟩
  conv => whnf
  refine ⟨fun a4 => ?_, fun a4 => ?_⟩
  · conv => whnf
    exact ⟨[], _, _, _, rfl, rfl, rfl, RepLe.bl (by simp_all [heavyField, bigS]), trivial⟩
  conv => whnf
  refine AW.loop (X := Nat) (fun i => told 42 [(1, .pt 0 0), (3, vI .i64 (i : Int))] [(0, some (.box 39 ((fieldCells f).map .p)))] [0]) (fun i => i ≤ f.cases.length ∧ heavyField f = !allUpto (fun i => !bigS (f.cases.getD i noS)) (f.cases.length - i) i) (fun i => f.cases.length - i) (used0 hG _) 0 ⟨by omega, by simp_all [heavyField, bigS]⟩ (stle ⟨RepLe.refl _, RepLe.refl _, trivial⟩ ⟨⟨_, rfl, BlkLe.refl _⟩, trivial⟩ rfl) ?_
  rintro i ⟨hi, hr⟩
  refine codeK_aw hT hM _ _ _ ?_
  conv => whnf
  refine ⟨fun h4 => ?_, fun h4 => ?_⟩
  · have hlt : i < f.cases.length := by rw [iLt_t] at h4; omega
    rw [allUpto_step _ hlt] at hr
    conv => whnf
    refine ⟨by omega, ?_⟩
    conv => whnf
    refine ⟨fun h5 => ?_, fun h5 => ?_⟩
    · have h5 : bigS (f.cases.getD i noS) = true := h5
      conv => whnf
      exact ⟨[], _, _, _, rfl, rfl, rfl, RepLe.bl (by rw [hr, h5]; simp), trivial⟩
    have h5 : bigS (f.cases.getD i noS) = false := h5
    conv => whnf
    intro z hz
    have hy := wrap64_eq hz (by omega) (by omega)
    clear hz
    subst hy
    conv => whnf
    exact ⟨i + 1, ⟨by omega, by rw [hr, h5]; simp⟩, by omega, stle ⟨RepLe.refl _, RepLe.of rfl, trivial⟩ ⟨⟨_, rfl, BlkLe.refl _⟩, trivial⟩ rfl⟩
  · have hge : i = f.cases.length := by rw [iLt_f] at h4; omega
    subst hge
    conv => whnf
    exact ⟨[], _, _, _, rfl, rfl, rfl, RepLe.bl (by rw [hr, allUpto_end]; rfl), trivial⟩

theorem f21 (x : SLens) (hx : okLens x) : PCall Tryz.prog 18 [encLens x] (.p (.val (.bool (heavyLens x)))) [] := by
  refine gcode hT hM Tryz.func18 rfl rfl (rv := [(2, none)]) rfl rfl rfl fun G hG => ?_
  conv => whnf
  conv => whnf
  repeat' (first
    | (refine ⟨fun _ => ?_, fun _ => ?_⟩ <;> (conv => whnf))
    | (refine CallK.lent (f44 x.field hx.1) rfl ?_; conv => whnf)
    | (refine CallK.lent (f67 x.forth hx.2.1) rfl ?_; conv => whnf)
    | (refine CallK.lent (f67 x.back hx.2.2) rfl ?_; conv => whnf)
    | (refine And.intro rfl ?_; conv => whnf)
    | (exact ⟨[], _, _, _, rfl, rfl, rfl, RepLe.bl (by first | (simp_all [heavyLens, bigS]; done) | grind [heavyLens, bigS]), trivial⟩)
    | (exact ⟨[], _, _, _, rfl, rfl, rfl, RepLe.vb (by first | (simp_all [heavyLens, bigS]; done) | grind [heavyLens, bigS]), trivial⟩))
end Go.Proofs.YtalpbdabeffnlaaGreat
