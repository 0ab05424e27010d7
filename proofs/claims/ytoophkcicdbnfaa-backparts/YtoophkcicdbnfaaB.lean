/- Lists of texts, fields, pairs, lenses: sameness. -/
import Derived.Test.YtoophkcicdbnfaaA
set_option linter.unusedVariables false
set_option linter.unusedSimpArgs false
namespace Go.Proofs.Ytoophkcicdbnfaa
open Go Go.Av
set_option maxRecDepth 100000

structure SRef where
  scope : Int
  group : ByteArray
  name : ByteArray
structure SField where
  place : SRef
  kind : Int
  dflt : ByteArray
  cases : List ByteArray
  worth : Int
structure SPair where
  frm : ByteArray
  tto : ByteArray
structure SLens where
  kind : Int
  place : SRef
  name : ByteArray
  other : ByteArray
  factor : Int
  field : SField
  forth : List SPair
  back : List SPair
def noRef : SRef := ⟨0, noS, noS⟩
def noField : SField := ⟨noRef, 0, noS, [], 0⟩
def noPair : SPair := ⟨noS, noS⟩
def refCells (r : SRef) : List PV := [.val (.int .i64 r.scope), .val (.string r.group), .val (.string r.name)]
def fieldCells (f : SField) : List PV := [.val (.int .i64 f.place.scope), .val (.string f.place.group), .val (.string f.place.name), .val (.int .i64 f.kind), .val (.string f.dflt), encStrs f.cases, .val (.int .i64 f.worth)]
def pairCells (p : SPair) : List PV := [.val (.string p.frm), .val (.string p.tto)]
def encPairs (l : List SPair) : PV := .rs 2 l.length fun i => at_ .any (pairCells (l.getD i noPair))
def lensCells (x : SLens) : List PV := [.val (.int .i64 x.kind), .val (.int .i64 x.place.scope), .val (.string x.place.group), .val (.string x.place.name), .val (.string x.name), .val (.string x.other), .val (.int .i64 x.factor),
  .val (.int .i64 x.field.place.scope), .val (.string x.field.place.group), .val (.string x.field.place.name), .val (.int .i64 x.field.kind), .val (.string x.field.dflt), encStrs x.field.cases, .val (.int .i64 x.field.worth),
  encPairs x.forth, encPairs x.back]
def encRef (r : SRef) : PV := aggL (refCells r)
def encField (f : SField) : PV := aggL (fieldCells f)
def encPair (p : SPair) : PV := aggL (pairCells p)
def encLens (x : SLens) : PV := aggL (lensCells x)

/-- Every list in it is one that memory can hold. -/
def okField (f : SField) : Prop := f.cases.length ≤ maxLen
def okLens (x : SLens) : Prop := okField x.field ∧ x.forth.length ≤ maxLen ∧ x.back.length ≤ maxLen

def sameRef (a b : SRef) : Bool := iEq a.scope b.scope && (sEq a.group b.group && sEq a.name b.name)
def sameField (a b : SField) : Bool := sameRef a.place b.place && (iEq a.kind b.kind && (sEq a.dflt b.dflt && (iEq a.worth b.worth && sameStrs a.cases b.cases)))
def samePair (a b : SPair) : Bool := sEq a.frm b.frm && sEq a.tto b.tto
def samePairs (l m : List SPair) : Bool := decide (l.length = m.length) && allUpto (fun i => samePair (l.getD i noPair) (m.getD i noPair)) l.length 0
def sameLens (a b : SLens) : Bool := iEq a.kind b.kind && (sameRef a.place b.place && (sEq a.name b.name && (sEq a.other b.other && (iEq a.factor b.factor && (sameField a.field b.field && (samePairs a.forth b.forth && samePairs a.back b.back))))))

theorem f113 (l m : List ByteArray) (hl : l.length ≤ maxLen) : PCall Try.prog 113 [encStrs l, encStrs m] (.p (.val (.bool (sameStrs l m)))) [] := by
  have hl : l.length ≤ 9223372036854775807 := hl
  refine gcode hT hM Try.func113 rfl rfl (rv := [(4, none)]) rfl rfl rfl fun G hG => ?_
  conv => whnf
  refine ⟨fun h => ?_, fun h => ?_⟩
  · conv => whnf
    exact ⟨[], _, _, _, rfl, rfl, rfl, RepLe.bl (by simp [iEq_f] at h; simp [sameStrs]; omega), trivial⟩
  conv => whnf
  have hlen : l.length = m.length := by simp [iEq_t] at h; omega
  refine AW.loop (X := Nat) (fun i => told 26 [(0, .p (encStrs l)), (1, .p (encStrs m)), (12, vI .i64 (l.length : Int)), (13, vI .i64 (i : Int))] [] []) (fun i => i ≤ l.length ∧ sameStrs l m = allUpto (fun i => sEq (l.getD i noS) (m.getD i noS)) (l.length - i) i) (fun i => l.length - i) (used0 hG _) 0 ⟨by omega, by simp [sameStrs, hlen]⟩ (stle ⟨RepLe.refl _, RepLe.refl _, RepLe.refl _, RepLe.refl _, trivial⟩ trivial rfl) ?_
  rintro i ⟨hi, hr⟩
  refine codeK_aw hT hM _ _ _ ?_
  conv => whnf
  refine ⟨fun h4 => ?_, fun h4 => ?_⟩
  · have hlt : i < l.length := by rw [iLt_t] at h4; omega
    rw [allUpto_step _ hlt] at hr
    conv => whnf
    repeat' (first
      | (refine ⟨fun _ => ?_, fun _ => ?_⟩ <;> (conv => whnf))
      | (refine And.intro (by omega) ?_; conv => whnf)
      | (refine And.intro rfl ?_; conv => whnf)
      | (exact ⟨[], _, _, _, rfl, rfl, rfl, RepLe.bl (by first | (simp_all [noS]; done) | grind [noS]), trivial⟩)
      | (exact ⟨[], _, _, _, rfl, rfl, rfl, RepLe.vb (by first | (simp_all [noS]; done) | grind [noS]), trivial⟩)
      | (intro z hz; have hy := wrap64_eq hz (by omega) (by omega); clear hz; subst hy; conv => whnf)
      | (exact ⟨i + 1, ⟨by omega, by first | (simp_all [noS]; done) | grind [noS]⟩, by omega, stle ⟨RepLe.refl _, RepLe.refl _, RepLe.refl _, RepLe.of rfl, trivial⟩ trivial rfl⟩))
  · have hge : i = l.length := by rw [iLt_f] at h4; omega
    subst hge
    conv => whnf
    exact ⟨[], _, _, _, rfl, rfl, rfl, RepLe.bl (by rw [hr, allUpto_end]), trivial⟩

theorem f102 (l m : List ByteArray) (hl : l.length ≤ maxLen) : PCall Try.prog 102 [encStrs l, encStrs m] (.p (.val (.bool (sameStrs l m)))) [] := by
  have hl : l.length ≤ 9223372036854775807 := hl
  refine gcode hT hM Try.func102 rfl rfl (rv := [(4, none)]) rfl rfl rfl fun G hG => ?_
  conv => whnf
  refine ⟨fun h => ?_, fun h => ?_⟩
  · conv => whnf
    exact ⟨[], _, _, _, rfl, rfl, rfl, RepLe.bl (by simp [iEq_f] at h; simp [sameStrs]; omega), trivial⟩
  conv => whnf
  have hlen : l.length = m.length := by simp [iEq_t] at h; omega
  refine AW.loop (X := Nat) (fun i => told 26 [(0, .p (encStrs l)), (1, .p (encStrs m)), (5, vI .i64 (i : Int))] [] []) (fun i => i ≤ l.length ∧ sameStrs l m = allUpto (fun i => sEq (l.getD i noS) (m.getD i noS)) (l.length - i) i) (fun i => l.length - i) (used0 hG _) 0 ⟨by omega, by simp [sameStrs, hlen]⟩ (stle ⟨RepLe.refl _, RepLe.refl _, RepLe.refl _, trivial⟩ trivial rfl) ?_
  rintro i ⟨hi, hr⟩
  refine codeK_aw hT hM _ _ _ ?_
  conv => whnf
  refine ⟨fun h4 => ?_, fun h4 => ?_⟩
  · have hlt : i < l.length := by rw [iLt_t] at h4; omega
    rw [allUpto_step _ hlt] at hr
    conv => whnf
    repeat' (first
      | (refine ⟨fun _ => ?_, fun _ => ?_⟩ <;> (conv => whnf))
      | (refine And.intro (by omega) ?_; conv => whnf)
      | (refine And.intro rfl ?_; conv => whnf)
      | (exact ⟨[], _, _, _, rfl, rfl, rfl, RepLe.bl (by first | (simp_all [noS]; done) | grind [noS]), trivial⟩)
      | (exact ⟨[], _, _, _, rfl, rfl, rfl, RepLe.vb (by first | (simp_all [noS]; done) | grind [noS]), trivial⟩)
      | (intro z hz; have hy := wrap64_eq hz (by omega) (by omega); clear hz; subst hy; conv => whnf)
      | (exact ⟨i + 1, ⟨by omega, by first | (simp_all [noS]; done) | grind [noS]⟩, by omega, stle ⟨RepLe.refl _, RepLe.refl _, RepLe.of rfl, trivial⟩ trivial rfl⟩))
  · have hge : i = l.length := by rw [iLt_f] at h4; omega
    subst hge
    conv => whnf
    exact ⟨[], _, _, _, rfl, rfl, rfl, RepLe.bl (by rw [hr, allUpto_end]), trivial⟩

theorem f83 (l m : List ByteArray) (hl : l.length ≤ maxLen) : PCall Try.prog 83 [encStrs l, encStrs m] (.p (.val (.bool (sameStrs l m)))) [] := by
  refine gcode hT hM Try.func83 rfl rfl (rv := [(4, none)]) rfl rfl rfl fun G hG => ?_
  conv => whnf
  refine CallK.lent (f102 _ _ hl) rfl ?_
  conv => whnf
  exact ⟨[], _, _, _, rfl, rfl, rfl, RepLe.refl _, trivial⟩

theorem f110 (l m : List SPair) (hl : l.length ≤ maxLen) : PCall Try.prog 110 [encPairs l, encPairs m] (.p (.val (.bool (samePairs l m)))) [] := by
  have hl : l.length ≤ 9223372036854775807 := hl
  refine gcode hT hM Try.func110 rfl rfl (rv := [(4, none)]) rfl rfl rfl fun G hG => ?_
  conv => whnf
  refine ⟨fun h => ?_, fun h => ?_⟩
  · conv => whnf
    exact ⟨[], _, _, _, rfl, rfl, rfl, RepLe.bl (by simp [iEq_f] at h; simp [samePairs]; omega), trivial⟩
  conv => whnf
  have hlen : l.length = m.length := by simp [iEq_t] at h; omega
  refine AW.loop (X := Nat) (fun i => told 26 [(0, .p (encPairs l)), (1, .p (encPairs m)), (12, vI .i64 (l.length : Int)), (13, vI .i64 (i : Int))] [] []) (fun i => i ≤ l.length ∧ samePairs l m = allUpto (fun i => samePair (l.getD i noPair) (m.getD i noPair)) (l.length - i) i) (fun i => l.length - i) (used0 hG _) 0 ⟨by omega, by simp [samePairs, hlen]⟩ (stle ⟨RepLe.refl _, RepLe.refl _, RepLe.refl _, RepLe.refl _, trivial⟩ trivial rfl) ?_
  rintro i ⟨hi, hr⟩
  refine codeK_aw hT hM _ _ _ ?_
  conv => whnf
  refine ⟨fun h4 => ?_, fun h4 => ?_⟩
  · have hlt : i < l.length := by rw [iLt_t] at h4; omega
    rw [allUpto_step _ hlt] at hr
    conv => whnf
    repeat' (first
      | (refine ⟨fun _ => ?_, fun _ => ?_⟩ <;> (conv => whnf))
      | (refine And.intro (by omega) ?_; conv => whnf)
      | (refine And.intro rfl ?_; conv => whnf)
      | (exact ⟨[], _, _, _, rfl, rfl, rfl, RepLe.bl (by first | (simp_all [samePair]; done) | grind [samePair]), trivial⟩)
      | (exact ⟨[], _, _, _, rfl, rfl, rfl, RepLe.vb (by first | (simp_all [samePair]; done) | grind [samePair]), trivial⟩)
      | (intro z hz; have hy := wrap64_eq hz (by omega) (by omega); clear hz; subst hy; conv => whnf)
      | (exact ⟨i + 1, ⟨by omega, by first | (simp_all [samePair]; done) | grind [samePair]⟩, by omega, stle ⟨RepLe.refl _, RepLe.refl _, RepLe.refl _, RepLe.of rfl, trivial⟩ trivial rfl⟩))
  · have hge : i = l.length := by rw [iLt_f] at h4; omega
    subst hge
    conv => whnf
    exact ⟨[], _, _, _, rfl, rfl, rfl, RepLe.bl (by rw [hr, allUpto_end]), trivial⟩

theorem f69 (l m : List SPair) (hl : l.length ≤ maxLen) : PCall Try.prog 69 [encPairs l, encPairs m] (.p (.val (.bool (samePairs l m)))) [] := by
  have hl : l.length ≤ 9223372036854775807 := hl
  refine gcode hT hM Try.func69 rfl rfl (rv := [(4, none)]) rfl rfl rfl fun G hG => ?_
  conv => whnf
  refine ⟨fun h => ?_, fun h => ?_⟩
  · conv => whnf
    exact ⟨[], _, _, _, rfl, rfl, rfl, RepLe.bl (by simp [iEq_f] at h; simp [samePairs]; omega), trivial⟩
  conv => whnf
  have hlen : l.length = m.length := by simp [iEq_t] at h; omega
  refine AW.loop (X := Nat) (fun i => told 26 [(0, .p (encPairs l)), (1, .p (encPairs m)), (5, vI .i64 (i : Int))] [] []) (fun i => i ≤ l.length ∧ samePairs l m = allUpto (fun i => samePair (l.getD i noPair) (m.getD i noPair)) (l.length - i) i) (fun i => l.length - i) (used0 hG _) 0 ⟨by omega, by simp [samePairs, hlen]⟩ (stle ⟨RepLe.refl _, RepLe.refl _, RepLe.refl _, trivial⟩ trivial rfl) ?_
  rintro i ⟨hi, hr⟩
  refine codeK_aw hT hM _ _ _ ?_
  conv => whnf
  refine ⟨fun h4 => ?_, fun h4 => ?_⟩
  · have hlt : i < l.length := by rw [iLt_t] at h4; omega
    rw [allUpto_step _ hlt] at hr
    conv => whnf
    repeat' (first
      | (refine ⟨fun _ => ?_, fun _ => ?_⟩ <;> (conv => whnf))
      | (refine And.intro (by omega) ?_; conv => whnf)
      | (refine And.intro rfl ?_; conv => whnf)
      | (exact ⟨[], _, _, _, rfl, rfl, rfl, RepLe.bl (by first | (simp_all [samePair]; done) | grind [samePair]), trivial⟩)
      | (exact ⟨[], _, _, _, rfl, rfl, rfl, RepLe.vb (by first | (simp_all [samePair]; done) | grind [samePair]), trivial⟩)
      | (intro z hz; have hy := wrap64_eq hz (by omega) (by omega); clear hz; subst hy; conv => whnf)
      | (exact ⟨i + 1, ⟨by omega, by first | (simp_all [samePair]; done) | grind [samePair]⟩, by omega, stle ⟨RepLe.refl _, RepLe.refl _, RepLe.of rfl, trivial⟩ trivial rfl⟩))
  · have hge : i = l.length := by rw [iLt_f] at h4; omega
    subst hge
    conv => whnf
    exact ⟨[], _, _, _, rfl, rfl, rfl, RepLe.bl (by rw [hr, allUpto_end]), trivial⟩

theorem f66 (a b : SField) (ha : okField a) : PCall Try.prog 66 [encField a, encField b] (.p (.val (.bool (sameField a b)))) [] := by
  refine gcode hT hM Try.func66 rfl rfl (rv := [(4, none)]) rfl rfl rfl fun G hG => ?_
  conv => whnf
  repeat' (first
    | (refine ⟨fun _ => ?_, fun _ => ?_⟩ <;> (conv => whnf))
    | (refine And.intro (by omega) ?_; conv => whnf)
    | (refine CallK.lent (f113 _ _ ha) rfl ?_; conv => whnf)
    | (refine And.intro rfl ?_; conv => whnf)
    | (exact ⟨[], _, _, _, rfl, rfl, rfl, RepLe.bl (by first | (simp_all [sameField, sameRef]; done) | grind [sameField, sameRef]), trivial⟩)
    | (exact ⟨[], _, _, _, rfl, rfl, rfl, RepLe.vb (by first | (simp_all [sameField, sameRef]; done) | grind [sameField, sameRef]), trivial⟩)
    | (intro z hz; have hy := wrap64_eq hz (by omega) (by omega); clear hz; subst hy; conv => whnf)
    | (exact ⟨i + 1, ⟨by omega, by first | (simp_all [sameField, sameRef]; done) | grind [sameField, sameRef]⟩, by omega, stle ⟨trivial, trivial⟩ trivial rfl⟩))
theorem f32 (a b : SField) (ha : okField a) : PCall Try.prog 32 [encField a, encField b] (.p (.val (.bool (sameField a b)))) [] := by
  refine gcode hT hM Try.func32 rfl rfl (rv := [(4, none)]) rfl rfl rfl fun G hG => ?_
  conv => whnf
  repeat' (first
    | (refine ⟨fun _ => ?_, fun _ => ?_⟩ <;> (conv => whnf))
    | (refine And.intro (by omega) ?_; conv => whnf)
    | (refine CallK.lent (f83 _ _ ha) rfl ?_; conv => whnf)
    | (refine And.intro rfl ?_; conv => whnf)
    | (exact ⟨[], _, _, _, rfl, rfl, rfl, RepLe.bl (by first | (simp_all [sameField, sameRef]; done) | grind [sameField, sameRef]), trivial⟩)
    | (exact ⟨[], _, _, _, rfl, rfl, rfl, RepLe.vb (by first | (simp_all [sameField, sameRef]; done) | grind [sameField, sameRef]), trivial⟩)
    | (intro z hz; have hy := wrap64_eq hz (by omega) (by omega); clear hz; subst hy; conv => whnf)
    | (exact ⟨i + 1, ⟨by omega, by first | (simp_all [sameField, sameRef]; done) | grind [sameField, sameRef]⟩, by omega, stle ⟨trivial, trivial⟩ trivial rfl⟩))
theorem f24 (a b : SLens) (ha : okLens a) : PCall Try.prog 24 [encLens a, encLens b] (.p (.val (.bool (sameLens a b)))) [] := by
  refine gcode hT hM Try.func24 rfl rfl (rv := [(4, none)]) rfl rfl rfl fun G hG => ?_
  conv => whnf
  repeat' (first
    | (refine ⟨fun _ => ?_, fun _ => ?_⟩ <;> (conv => whnf))
    | (refine And.intro (by omega) ?_; conv => whnf)
    | (refine CallK.lent (f32 a.field b.field ha.1) rfl ?_; conv => whnf)
    | (refine CallK.lent (f69 _ _ ha.2.1) rfl ?_; conv => whnf)
    | (refine CallK.lent (f69 _ _ ha.2.2) rfl ?_; conv => whnf)
    | (refine And.intro rfl ?_; conv => whnf)
    | (exact ⟨[], _, _, _, rfl, rfl, rfl, RepLe.bl (by first | (simp_all [sameLens, sameRef]; done) | grind [sameLens, sameRef]), trivial⟩)
    | (exact ⟨[], _, _, _, rfl, rfl, rfl, RepLe.vb (by first | (simp_all [sameLens, sameRef]; done) | grind [sameLens, sameRef]), trivial⟩)
    | (intro z hz; have hy := wrap64_eq hz (by omega) (by omega); clear hz; subst hy; conv => whnf)
    | (exact ⟨i + 1, ⟨by omega, by first | (simp_all [sameLens, sameRef]; done) | grind [sameLens, sameRef]⟩, by omega, stle ⟨trivial, trivial⟩ trivial rfl⟩))
theorem f57 (a b : SLens) (ha : okLens a) : PCall Try.prog 57 [encLens a, encLens b] (.p (.val (.bool (sameLens a b)))) [] := by
  refine gcode hT hM Try.func57 rfl rfl (rv := [(4, none)]) rfl rfl rfl fun G hG => ?_
  conv => whnf
  repeat' (first
    | (refine ⟨fun _ => ?_, fun _ => ?_⟩ <;> (conv => whnf))
    | (refine And.intro (by omega) ?_; conv => whnf)
    | (refine CallK.lent (f66 a.field b.field ha.1) rfl ?_; conv => whnf)
    | (refine CallK.lent (f110 _ _ ha.2.1) rfl ?_; conv => whnf)
    | (refine CallK.lent (f110 _ _ ha.2.2) rfl ?_; conv => whnf)
    | (refine And.intro rfl ?_; conv => whnf)
    | (exact ⟨[], _, _, _, rfl, rfl, rfl, RepLe.bl (by first | (simp_all [sameLens, sameRef]; done) | grind [sameLens, sameRef]), trivial⟩)
    | (exact ⟨[], _, _, _, rfl, rfl, rfl, RepLe.vb (by first | (simp_all [sameLens, sameRef]; done) | grind [sameLens, sameRef]), trivial⟩)
    | (intro z hz; have hy := wrap64_eq hz (by omega) (by omega); clear hz; subst hy; conv => whnf)
    | (exact ⟨i + 1, ⟨by omega, by first | (simp_all [sameLens, sameRef]; done) | grind [sameLens, sameRef]⟩, by omega, stle ⟨trivial, trivial⟩ trivial rfl⟩))
end Go.Proofs.Ytoophkcicdbnfaa
