import Derived.Test.YtalpbdabeffnlaaGreatJoF
/- Copies; a lens turned round: what the program answers. -/
set_option linter.unusedVariables false
set_option linter.unusedSimpArgs false
namespace Go.Proofs.YtalpbdabeffnlaaGreat
open Go Go.Av
set_option maxRecDepth 100000

/-- Every list in it is one that memory held. -/
def fitField (f : SField) : Prop := f.cases.length ≤ 8796093022208
def fitLens (x : SLens) : Prop := fitField x.field ∧ x.forth.length ≤ 4398046511104 ∧ x.back.length ≤ 4398046511104
theorem fitField.ok {f : SField} (h : fitField f) : okField f := Nat.le_trans h (by decide)
theorem fitLens.ok {x : SLens} (h : fitLens x) : okLens x := ⟨h.1.ok, Nat.le_trans h.2.1 (by decide), Nat.le_trans h.2.2 (by decide)⟩

theorem f118 (l : List ByteArray) (hl : l.length ≤ 8796093022208) : PCall Tryz.prog 125 [encStrs l] (.p (encStrs l)) [] := by
  refine GCall.slice (fun h0 => ?_) ?_
  · refine gcode hT hM Tryz.func125 rfl rfl (rv := [(2, none)]) rfl rfl rfl fun G hG => ?_
    conv => whnf
    have : l = [] := List.length_eq_zero_iff.1 h0
    subst this
    exact ⟨[], _, _, _, rfl, rfl, rfl, PLe.rep PLe.nil, trivial⟩
  · refine gcode hT hM Tryz.func125 rfl rfl (rv := [(2, none)]) rfl rfl rfl fun G hG => ?_
    conv => whnf
    refine ⟨⟨show 0 + l.length ≤ 9223372036854775807 by omega, show (0 + l.length) * 16 ≤ 140737488355328 by omega⟩, ?_⟩
    conv => whnf
    exact ⟨[], _, _, _, rfl, rfl, rfl, PLe.rep (PLe.rows (Nat.zero_add _) fun i j hi hj => catF_ge (Nat.zero_le _)), trivial⟩

theorem f112 (l : List SPair) (hl : l.length ≤ 4398046511104) : PCall Tryz.prog 137 [encPairs l] (.p (encPairs l)) [] := by
  refine GCall.slice (fun h0 => ?_) ?_
  · refine gcode hT hM Tryz.func137 rfl rfl (rv := [(2, none)]) rfl rfl rfl fun G hG => ?_
    conv => whnf
    have : l = [] := List.length_eq_zero_iff.1 h0
    subst this
    exact ⟨[], _, _, _, rfl, rfl, rfl, PLe.rep PLe.nil, trivial⟩
  · refine gcode hT hM Tryz.func137 rfl rfl (rv := [(2, none)]) rfl rfl rfl fun G hG => ?_
    conv => whnf
    refine ⟨⟨show 0 + l.length ≤ 9223372036854775807 by omega, show (0 + l.length) * 32 ≤ 140737488355328 by omega⟩, ?_⟩
    conv => whnf
    exact ⟨[], _, _, _, rfl, rfl, rfl, PLe.rep (PLe.rows (Nat.zero_add _) fun i j hi hj => catF_ge (Nat.zero_le _)), trivial⟩

theorem f78 (f : SField) (hf : fitField f) : PCall Tryz.prog 81 [encField f] (.p (encField f)) [] := by
  refine gcode hT hM Tryz.func81 rfl rfl (rv := [(2, some 39)]) rfl rfl rfl fun G hG => ?_
  conv => whnf
  refine CallK.go [] (f118 f.cases hf) rfl rfl rfl rfl rfl ?_
  conv => whnf
  exact ⟨[], _, _, _, rfl, rfl, rfl, RepLe.refl _, trivial⟩

theorem f61 (x : SLens) (hx : fitLens x) : PCall Tryz.prog 75 [encLens x] (.p (encLens x)) [] := by
  refine gcode hT hM Tryz.func75 rfl rfl (rv := [(2, some 42)]) rfl rfl rfl fun G hG => ?_
  conv => whnf
  refine CallK.go [] (f78 x.field hx.1) rfl rfl rfl rfl rfl ?_
  conv => whnf
  refine CallK.go [] (f112 x.forth hx.2.1) rfl rfl rfl rfl rfl ?_
  conv => whnf
  refine CallK.go [] (f112 x.back hx.2.2) rfl rfl rfl rfl rfl ?_
  conv => whnf
  exact ⟨[], _, _, _, rfl, rfl, rfl, RepLe.refl _, trivial⟩
end Go.Proofs.YtalpbdabeffnlaaGreat

/- A lens turned round: what the program answers. -/
set_option linter.unusedVariables false
set_option linter.unusedSimpArgs false
namespace Go.Proofs.YtalpbdabeffnlaaGreat
open Go Go.Av
set_option maxRecDepth 100000

def noLens : SLens := { kind := 0, place := noRef, name := noS, other := noS, factor := 0, field := noField, forth := [], back := [] }
def turnOf (x : SLens) : SLens :=
  if iEq x.kind 1 then { x with place := { x.place with name := x.name }, name := x.place.name }
  else if iEq x.kind 2 then { x with kind := 3 }
  else if iEq x.kind 3 then { x with kind := 2 }
  else if iEq x.kind 4 then { x with kind := 5, name := x.place.group, place := { x.place with group := noS } }
  else if iEq x.kind 5 then { x with kind := 4, name := noS, place := { x.place with group := x.name } }
  else if iEq x.kind 6 then { x with kind := 9 }
  else if iEq x.kind 9 then { x with kind := 6 }
  else if iEq x.kind 7 then { x with kind := 10 }
  else if iEq x.kind 10 then { x with kind := 7 }
  else if iEq x.kind 8 then { x with name := x.other, other := x.name, forth := x.back, back := x.forth }
  else x
def inverse (x : SLens) : SLens × Int := if lensOk x then (turnOf x, 0) else (noLens, 5)
def encInv (y : SLens × Int) : AV := .tup 2 (at_ (.p .any) [.p (encLens y.1), .p (.val (.int .i64 y.2))])

theorem f22 (x : SLens) (hx : fitLens x) : PCall Tryz.prog 32 [encLens x] (encInv (inverse x)) [] := by
  refine gcode hT hM Tryz.func32 rfl rfl (rv := [(2, some 42), (3, none)]) rfl rfl rfl fun G hG => ?_
  conv => whnf
  refine CallK.lent (f25 x hx.ok) rfl ?_
  conv => whnf
  refine ⟨fun h => ?_, fun h => ?_⟩
  · conv => whnf
    exact ⟨[], _, _, _, rfl, rfl, rfl, RepLe.as encInv (a := (noLens, 5)) (by simp_all [inverse]) (RepLe.tup2 (PLe.rep (PLe.agg (by repeat' (first | refine PLes.cons ?_ ?_ | exact PLe.refl _ | exact PLe.nil | exact PLes.end)))) (RepLe.refl _)), trivial⟩
  conv => whnf
  have h : lensOk x = true := by simpa using h
  have hi : inverse x = (turnOf x, 0) := by simp [inverse, h]
  clear h
  refine CallK.go [] (f61 x hx) rfl rfl rfl rfl rfl ?_
  conv => whnf
  refine ⟨fun a1 => ?_, fun a1 => ?_⟩
  · conv => whnf
    exact ⟨[], _, _, _, rfl, rfl, rfl, RepLe.as encInv (a := ({ x with place := { x.place with name := x.name }, name := x.place.name }, 0)) (by simp_all [turnOf]) (RepLe.tup2 (PLe.rep (PLe.agg (by repeat' (first | refine PLes.cons ?_ ?_ | exact PLe.refl _ | exact PLe.nil | exact PLes.end)))) (RepLe.refl _)), trivial⟩
  conv => whnf
  refine ⟨fun a2 => ?_, fun a2 => ?_⟩
  · conv => whnf
    exact ⟨[], _, _, _, rfl, rfl, rfl, RepLe.as encInv (a := ({ x with kind := 3 }, 0)) (by simp_all [turnOf]) (RepLe.tup2 (PLe.rep (PLe.agg (by repeat' (first | refine PLes.cons ?_ ?_ | exact PLe.refl _ | exact PLe.nil | exact PLes.end)))) (RepLe.refl _)), trivial⟩
  conv => whnf
  refine ⟨fun a3 => ?_, fun a3 => ?_⟩
  · conv => whnf
    exact ⟨[], _, _, _, rfl, rfl, rfl, RepLe.as encInv (a := ({ x with kind := 2 }, 0)) (by simp_all [turnOf]) (RepLe.tup2 (PLe.rep (PLe.agg (by repeat' (first | refine PLes.cons ?_ ?_ | exact PLe.refl _ | exact PLe.nil | exact PLes.end)))) (RepLe.refl _)), trivial⟩
  conv => whnf
  refine ⟨fun a4 => ?_, fun a4 => ?_⟩
  · conv => whnf
    exact ⟨[], _, _, _, rfl, rfl, rfl, RepLe.as encInv (a := ({ x with kind := 5, name := x.place.group, place := { x.place with group := noS } }, 0)) (by simp_all [turnOf]) (RepLe.tup2 (PLe.rep (PLe.agg (by repeat' (first | refine PLes.cons ?_ ?_ | exact PLe.refl _ | exact PLe.nil | exact PLes.end)))) (RepLe.refl _)), trivial⟩
  conv => whnf
  refine ⟨fun a5 => ?_, fun a5 => ?_⟩
  · conv => whnf
    exact ⟨[], _, _, _, rfl, rfl, rfl, RepLe.as encInv (a := ({ x with kind := 4, name := noS, place := { x.place with group := x.name } }, 0)) (by simp_all [turnOf]) (RepLe.tup2 (PLe.rep (PLe.agg (by repeat' (first | refine PLes.cons ?_ ?_ | exact PLe.refl _ | exact PLe.nil | exact PLes.end)))) (RepLe.refl _)), trivial⟩
  conv => whnf
  refine ⟨fun a6 => ?_, fun a6 => ?_⟩
  · conv => whnf
    exact ⟨[], _, _, _, rfl, rfl, rfl, RepLe.as encInv (a := ({ x with kind := 9 }, 0)) (by simp_all [turnOf]) (RepLe.tup2 (PLe.rep (PLe.agg (by repeat' (first | refine PLes.cons ?_ ?_ | exact PLe.refl _ | exact PLe.nil | exact PLes.end)))) (RepLe.refl _)), trivial⟩
  conv => whnf
  refine ⟨fun a9 => ?_, fun a9 => ?_⟩
  · conv => whnf
    exact ⟨[], _, _, _, rfl, rfl, rfl, RepLe.as encInv (a := ({ x with kind := 6 }, 0)) (by simp_all [turnOf]) (RepLe.tup2 (PLe.rep (PLe.agg (by repeat' (first | refine PLes.cons ?_ ?_ | exact PLe.refl _ | exact PLe.nil | exact PLes.end)))) (RepLe.refl _)), trivial⟩
  conv => whnf
  refine ⟨fun a7 => ?_, fun a7 => ?_⟩
  · conv => whnf
    exact ⟨[], _, _, _, rfl, rfl, rfl, RepLe.as encInv (a := ({ x with kind := 10 }, 0)) (by simp_all [turnOf]) (RepLe.tup2 (PLe.rep (PLe.agg (by repeat' (first | refine PLes.cons ?_ ?_ | exact PLe.refl _ | exact PLe.nil | exact PLes.end)))) (RepLe.refl _)), trivial⟩
  conv => whnf
  refine ⟨fun a10 => ?_, fun a10 => ?_⟩
  · conv => whnf
    exact ⟨[], _, _, _, rfl, rfl, rfl, RepLe.as encInv (a := ({ x with kind := 7 }, 0)) (by simp_all [turnOf]) (RepLe.tup2 (PLe.rep (PLe.agg (by repeat' (first | refine PLes.cons ?_ ?_ | exact PLe.refl _ | exact PLe.nil | exact PLes.end)))) (RepLe.refl _)), trivial⟩
  conv => whnf
  refine ⟨fun a8 => ?_, fun a8 => ?_⟩
  · conv => whnf
    exact ⟨[], _, _, _, rfl, rfl, rfl, RepLe.as encInv (a := ({ x with name := x.other, other := x.name, forth := x.back, back := x.forth }, 0)) (by simp_all [turnOf]) (RepLe.tup2 (PLe.rep (PLe.agg (by repeat' (first | refine PLes.cons ?_ ?_ | exact PLe.refl _ | exact PLe.nil | exact PLes.end)))) (RepLe.refl _)), trivial⟩
  conv => whnf
  exact ⟨[], _, _, _, rfl, rfl, rfl, RepLe.as encInv (a := (x, 0)) (by simp_all [turnOf]) (RepLe.tup2 (PLe.rep (PLe.agg (by repeat' (first | refine PLes.cons ?_ ?_ | exact PLe.refl _ | exact PLe.nil | exact PLes.end)))) (RepLe.refl _)), trivial⟩
end Go.Proofs.YtalpbdabeffnlaaGreat

/- The reference's fields and tables: what they answer. -/
set_option linter.unusedVariables false
set_option linter.unusedSimpArgs false
namespace Go.Proofs.YtalpbdabeffnlaaGreat
open Go Go.Av
set_option maxRecDepth 100000

theorem allLe2 {a b c d : AV} (h1 : RepLe a c) (h2 : RepLe b d) : allLe [a, b] [c, d] := ⟨h1, h2, trivial⟩
def hasB (l : List ByteArray) (v : ByteArray) : Bool := iLe 0 (idxOf l v)
theorem sEq_comm (a b : ByteArray) : sEq a b = sEq b a := by
  rw [Bool.eq_iff_iff, sEq_t, sEq_t]; exact eq_comm
theorem sEq_self (a : ByteArray) : sEq a a = true := sEq_t.2 rfl
theorem posOf_has (j : Nat) : iLe 0 (posOf (some j)) = true := by rw [iLe_t]; exact Int.natCast_nonneg j
theorem posOf_none : iLe 0 (posOf none) = false := by rw [iLe_f]; exact (by decide : (-1 : Int) < 0)
theorem take_getD (l : List ByteArray) {i m : Nat} (h : m < i) : (l.take i).getD m noS = l.getD m noS := by
  simp [List.getD_eq_getElem?_getD, List.getElem?_take, h]
theorem idx_first (l : List ByteArray) {i : Nat} (h : i < l.length) : iEq (idxOf l (l.getD i noS)) (i : Nat) = !hasB (l.take i) (l.getD i noS) := by
  unfold hasB idxOf
  generalize hv : l.getD i noS = v
  have hlen : (l.take i).length = i := by simp; omega
  rw [hlen]
  cases h1 : findUpto (fun k => sEq v (l.getD k noS)) l.length 0 with
  | none =>
    have := findUpto_none _ _ _ h1 i (by omega) (by omega)
    simp only [hv, sEq_self] at this
    cases this
  | some j =>
    obtain ⟨_, hj, hp, hmin⟩ := findUpto_some _ _ _ _ h1
    have hji : j ≤ i := by
      rcases Nat.lt_or_ge i j with hlt | hge
      · have := hmin i (by omega) hlt
        simp only [hv, sEq_self] at this
        cases this
      · exact hge
    cases h2 : findUpto (fun k => sEq v ((l.take i).getD k noS)) i 0 with
    | none =>
      have hno := findUpto_none _ _ _ h2
      have : j = i := by
        rcases Nat.lt_or_ge j i with hlt | hge
        · have := hno j (by omega) (by omega)
          simp only [take_getD l hlt] at this
          rw [hp] at this; cases this
        · omega
      subst this
      rw [posOf_none, show posOf (some j) = (j : Int) from rfl, iEq_t.2 rfl]; rfl
    | some m =>
      obtain ⟨_, hm, hpm, _⟩ := findUpto_some _ _ _ _ h2
      simp only [take_getD l (by omega : m < i)] at hpm
      have hjm : j ≤ m := by
        rcases Nat.lt_or_ge m j with hlt | hge
        · have := hmin m (by omega) hlt
          rw [hpm] at this; cases this
        · exact hge
      rw [posOf_has, show posOf (some j) = (j : Int) from rfl, iEq_f.2 (show (j : Int) ≠ (i : Int) by omega)]; rfl

theorem f124 (l : List ByteArray) (v : ByteArray) (hl : l.length ≤ maxLen) : PCall Tryz.prog 144 [encStrs l, .val (.string v)] (.p (.val (.bool (hasB l v)))) [] := by
  have hl : l.length ≤ 9223372036854775807 := hl
  refine gcode hT hM Tryz.func144 rfl rfl (rv := [(4, none)]) rfl rfl rfl fun G hG => ?_
  conv => whnf
  refine AW.loop (X := Nat) (fun i => told 18 [(0, .p (encStrs l)), (1, .p (.val (.string v))), (5, vI .i64 (i : Int))] [] []) (fun i => i ≤ l.length ∧ hasB l v = iLe 0 (posOf (findUpto (fun i => sEq v (l.getD i noS)) (l.length - i) i))) (fun i => l.length - i) (used0 hG _) 0 ⟨by omega, by simp [hasB, idxOf]⟩ (stle ⟨RepLe.refl _, RepLe.refl _, RepLe.refl _, trivial⟩ trivial rfl) ?_
  rintro i ⟨hi, hr⟩
  refine codeK_aw hT hM _ _ _ ?_
  conv => whnf
  refine ⟨fun h4 => ?_, fun h4 => ?_⟩
  · have hlt : i < l.length := by rw [iLt_t] at h4; omega
    rw [findUpto_step _ hlt] at hr
    conv => whnf
    refine ⟨by omega, ?_⟩
    conv => whnf
    refine ⟨fun h5 => ?_, fun h5 => ?_⟩
    · have h5 : sEq v (l.getD i noS) = true := by rw [sEq_comm]; exact h5
      conv => whnf
      exact ⟨[], _, _, _, rfl, rfl, rfl, RepLe.bl (by rw [hr, h5]; exact (posOf_has i).symm), trivial⟩
    · have h5 : sEq v (l.getD i noS) = false := by rw [sEq_comm]; exact h5
      conv => whnf
      intro z hz
      have hy := wrap64_eq hz (by omega) (by omega)
      clear hz
      subst hy
      conv => whnf
      exact ⟨i + 1, ⟨by omega, by rw [hr, h5]⟩, by omega, stle ⟨RepLe.refl _, RepLe.refl _, RepLe.of rfl, trivial⟩ trivial rfl⟩
  · have hge : i = l.length := by rw [iLt_f] at h4; omega
    subst hge
    conv => whnf
    exact ⟨[], _, _, _, rfl, rfl, rfl, RepLe.bl (by rw [hr, findUpto_end]; exact posOf_none.symm), trivial⟩

theorem scope_eq (s : Int) : (iLe 0 s && iLe s 1) = (iEq s 0 || iEq s 1) := by
  rw [Bool.eq_iff_iff, Bool.and_eq_true, Bool.or_eq_true, iLe_t, iLe_t, iEq_t, iEq_t]; omega
theorem len0 (s : ByteArray) : iEq s.size 0 = sEq s noS := by
  rw [size_empty, Bool.eq_iff_iff, iEq_t, iLe_t]; omega

theorem f106 (r : SRef) : PCall Tryz.prog 92 [encRef r] (.p (.val (.bool (placeOk r)))) [] := by
  have e : placeOk r = (iLe 0 r.scope && iLe r.scope 1 && (nameOk r.name && (iEq r.group.size 0 || nameOk r.group))) := by rw [scope_eq, len0]; rfl
  refine gcode hT hM Tryz.func92 rfl rfl (rv := [(2, none)]) rfl rfl rfl fun G hG => ?_
  conv => whnf
  repeat' (first
    | (refine ⟨fun _ => ?_, fun _ => ?_⟩ <;> (conv => whnf))
    | (refine And.intro (by omega) ?_; conv => whnf)
    | (refine CallK.lent (f109 _) rfl ?_; conv => whnf)
    | (refine And.intro rfl ?_; conv => whnf)
    | (exact ⟨[], _, _, _, rfl, rfl, rfl, RepLe.bl (by first | (simp_all []; done) | grind []), trivial⟩)
    | (exact ⟨[], _, _, _, rfl, rfl, rfl, RepLe.vb (by first | (simp_all []; done) | grind []), trivial⟩)
    | (intro z hz; have hy := wrap64_eq hz (by omega) (by omega); clear hz; subst hy; conv => whnf)
    | (exact ⟨i + 1, ⟨by omega, by first | (simp_all []; done) | grind []⟩, by omega, stle ⟨trivial, trivial⟩ trivial rfl⟩))

theorem f107 (x : SLens) (hx : okLens x) : PCall Tryz.prog 93 [encLens x] (.p (.val (.bool (sameField x.field noField)))) [] := by
  refine gcode hT hM Tryz.func93 rfl rfl (rv := [(2, none)]) rfl rfl rfl fun G hG => ?_
  conv => whnf
  refine CallK.lent (GCall.args (f32 x.field noField hx.1) ?hh) rfl ?_
  case hh => exact allLe2 (RepLe.refl _) (PLe.rep (PLe.agg (by repeat' (first | refine PLes.cons ?_ ?_ | exact PLe.refl _ | exact PLe.nil | exact PLes.end))))
  conv => whnf
  exact ⟨[], _, _, _, rfl, rfl, rfl, RepLe.refl _, trivial⟩

def tablesB (x : SLens) : Bool := iLt 0 x.forth.length || iLt 0 x.back.length
theorem f105 (x : SLens) : PCall Tryz.prog 91 [encLens x] (.p (.val (.bool (tablesB x)))) [] := by
  refine gcode hT hM Tryz.func91 rfl rfl (rv := [(2, none)]) rfl rfl rfl fun G hG => ?_
  conv => whnf
  repeat' (first
    | (refine ⟨fun _ => ?_, fun _ => ?_⟩ <;> (conv => whnf))
    | (refine And.intro (by omega) ?_; conv => whnf)
    | (refine And.intro rfl ?_; conv => whnf)
    | (exact ⟨[], _, _, _, rfl, rfl, rfl, RepLe.bl (by first | (simp_all [tablesB]; done) | grind [tablesB]), trivial⟩)
    | (exact ⟨[], _, _, _, rfl, rfl, rfl, RepLe.vb (by first | (simp_all [tablesB]; done) | grind [tablesB]), trivial⟩)
    | (intro z hz; have hy := wrap64_eq hz (by omega) (by omega); clear hz; subst hy; conv => whnf)
    | (exact ⟨i + 1, ⟨by omega, by first | (simp_all [tablesB]; done) | grind [tablesB]⟩, by omega, stle ⟨trivial, trivial⟩ trivial rfl⟩))

theorem f103 (l : List SPair) (hl : l.length ≤ 4398046511104) : PCall Tryz.prog 90 [encPairs l] (.sl 0) [rowStrs (fromsOf l)] := by
  refine gcode hT hM Tryz.func90 rfl rfl (rv := [(2, none)]) rfl rfl rfl fun G hG => ?_
  conv => whnf
  refine AW.loop (X := Nat) (fun i => told 21 [(0, .p (encPairs l)), (3, .sl 4096), (4, vI .i64 (i : Int))] [(4096, some (.row 9 1 i fun j _ => .val (.string (l.getD j noPair).frm)))] [4096]) (fun i => i ≤ l.length ∧ True) (fun i => l.length - i) (used0 hG _) 0 ⟨by omega, trivial⟩ (stle ⟨RepLe.refl _, RepLe.refl _, RepLe.refl _, trivial⟩ ⟨⟨_, rfl, BlkLe.row rfl (fun i j hi => absurd hi (Nat.not_lt_zero _))⟩, trivial⟩ rfl) ?_
  rintro i ⟨hi, hr⟩
  refine codeK_aw hT hM _ _ _ ?_
  conv => whnf
  refine ⟨fun h4 => ?_, fun h4 => ?_⟩
  · have hlt : i < l.length := by rw [iLt_t] at h4; omega
    conv => whnf
    refine ⟨by omega, ?_⟩
    conv => whnf
    refine ⟨⟨show i + 1 ≤ 9223372036854775807 by omega, show (i + 1) * 16 ≤ 140737488355328 by omega⟩, ?_⟩
    conv => whnf
    intro z hz
    have hy := wrap64_eq hz (by omega) (by omega)
    clear hz
    subst hy
    conv => whnf
    refine ⟨i + 1, ⟨by omega, trivial⟩, by omega, stleR [(4096, 20536)] ⟨RepLe.refl _, RepLe.refl _, RepLe.of rfl, trivial⟩ ⟨⟨_, rfl, BlkLe.row rfl fun a b ha hb => ?_⟩, trivial⟩ rfl⟩
    by_cases hai : a < i
    · rw [catF_lt hai]
    · have : a = i := by omega
      subst this
      rw [catF_ge (Nat.le_refl _), Nat.sub_self]
      have hb : b < 1 := hb
      have : b = 0 := by omega
      subst this
      rfl
  · have hge : i = l.length := by rw [iLt_f] at h4; omega
    subst hge
    conv => whnf
    exact ⟨[4096], _, _, _, rfl, rfl, rfl, RepLe.of rfl, BlkLe.row (froms_len l).symm fun a b ha hb => by rw [froms_get l a ha], trivial⟩

theorem f55 (l : List SPair) (s : ByteArray) (hl : l.length ≤ maxLen) : PCall Tryz.prog 94 [encPairs l, .val (.string s)] (encTwo (caseOf l s)) [] := by
  have hl : l.length ≤ 9223372036854775807 := hl
  refine gcode hT hM Tryz.func94 rfl rfl (rv := [(4, none), (5, none)]) rfl rfl rfl fun G hG => ?_
  conv => whnf
  refine AW.loop (X := Nat) (fun i => told 25 [(0, .p (encPairs l)), (1, .p (.val (.string s))), (6, vI .i64 (i : Int))] [] []) (fun i => i ≤ l.length ∧ caseOf l s = pairAt l (findUpto (fun i => sEq (l.getD i noPair).frm s) (l.length - i) i)) (fun i => l.length - i) (used0 hG _) 0 ⟨by omega, by simp [caseOf]⟩ (stle ⟨RepLe.refl _, RepLe.refl _, RepLe.refl _, trivial⟩ trivial rfl) ?_
  rintro i ⟨hi, hr⟩
  refine codeK_aw hT hM _ _ _ ?_
  conv => whnf
  refine ⟨fun h4 => ?_, fun h4 => ?_⟩
  · have hlt : i < l.length := by rw [iLt_t] at h4; omega
    rw [findUpto_step _ hlt] at hr
    conv => whnf
    refine ⟨by omega, ?_⟩
    conv => whnf
    refine ⟨fun h5 => ?_, fun h5 => ?_⟩
    · have h5 : sEq (l.getD i noPair).frm s = true := h5
      conv => whnf
      refine ⟨by omega, ?_⟩
      conv => whnf
      rw [h5] at hr
      have hr : caseOf l s = ((l.getD i noPair).tto, true) := hr
      exact ⟨[], _, _, _, rfl, rfl, rfl, RepLe.as encTwo hr (RepLe.tup2 (RepLe.refl _) (RepLe.bl rfl)), trivial⟩
    · have h5 : sEq (l.getD i noPair).frm s = false := h5
      rw [h5] at hr
      conv => whnf
      intro z hz
      have hy := wrap64_eq hz (by omega) (by omega)
      clear hz
      subst hy
      conv => whnf
      exact ⟨i + 1, ⟨by omega, hr⟩, by omega, stle ⟨RepLe.refl _, RepLe.refl _, RepLe.of rfl, trivial⟩ trivial rfl⟩
  · have hge : i = l.length := by rw [iLt_f] at h4; omega
    subst hge
    conv => whnf
    rw [findUpto_end] at hr
    have hr : caseOf l s = (noS, false) := hr
    exact ⟨[], _, _, _, rfl, rfl, rfl, RepLe.as encTwo hr (RepLe.tup2 (RepLe.refl _) (RepLe.bl rfl)), trivial⟩
end Go.Proofs.YtalpbdabeffnlaaGreat
