import Derived.Test.YtalpbdabeffnlaaGreatT
import Derived.Test.YtalpbdabeffnlaaGreatAvAid
/- Texts and lists of texts: what the program's and the reference's functions answer. -/
set_option linter.unusedVariables false
set_option linter.unusedSimpArgs false
namespace Go.Proofs.YtalpbdabeffnlaaGreat
open Go Go.Av
set_option maxRecDepth 100000

def noS : ByteArray := ⟨#[]⟩
def encStrs (l : List ByteArray) : PV := .rs 1 l.length fun i _ => .val (.string (l.getD i noS))
def sameStrs (l m : List ByteArray) : Bool := decide (l.length = m.length) && allUpto (fun i => sEq (l.getD i noS) (m.getD i noS)) l.length 0
def letterB (c : Int) : Bool := iLe 97 c && iLe c 122
def digitB (c : Int) : Bool := iLe 48 c && iLe c 57
def nameB (c : Int) : Bool := letterB c || digitB c
def nameOk (s : ByteArray) : Bool := iLt 0 s.size && iLe s.size 12 && letterB (bt s 0) && allUpto (fun i => nameB (bt s i)) s.size 0
theorem iLt_not (a b : Int) : iLt a b = !iLe b a := by
  cases h : iLe b a
  · simp [iLt_t, iLe_f] at *; exact h
  · simp [iLt_f, iLe_t] at *; exact h
theorem size_empty (s : ByteArray) : sEq s noS = iLe s.size 0 := by
  cases h : iLe (s.size : Int) 0
  · rw [sEq_f]; rw [iLe_f] at h; rintro rfl; exact absurd h (by decide)
  · rw [sEq_t]; rw [iLe_t] at h
    have h0 : s.size = 0 := by omega
    cases s with | mk a => exact congrArg ByteArray.mk (Array.eq_empty_of_size_eq_zero h0)
theorem name_all (s : ByteArray) (h : 0 < s.size) : allUpto (fun i => letterB (bt s i) || (digitB (bt s i) && !iEq (i : Nat) 0)) s.size 0 = (letterB (bt s 0) && allUpto (fun i => nameB (bt s i)) s.size 0) := by
  rw [Bool.eq_iff_iff, Bool.and_eq_true, allUpto_iff, allUpto_iff]
  constructor
  · intro hh
    have h0 := hh 0 (Nat.le_refl _) (by omega)
    have e0 : iEq 0 0 = true := by simp [iEq_t]
    refine ⟨by simpa [e0] using h0, fun j hj hk => ?_⟩
    have := hh j hj hk
    unfold nameB
    revert this
    cases letterB (bt s j) <;> cases digitB (bt s j) <;> simp
  · rintro ⟨h1, h2⟩ j hj hk
    have := h2 j hj hk
    unfold nameB at this
    by_cases h0 : j = 0
    · subst h0; simp [h1]
    · have : iEq (j : Nat) 0 = false := by rw [iEq_f]; omega
      simp_all

theorem f115 (c : Int) : PCall Tryz.prog 136 [.val (.int .u8 c)] (.p (.val (.bool (letterB c)))) [] := by
  refine gcode hT hM Tryz.func136 rfl rfl (rv := [(2, none)]) rfl rfl rfl fun G hG => ?_
  conv => whnf
  repeat' (first
    | (refine ⟨fun _ => ?_, fun _ => ?_⟩ <;> (conv => whnf))
    | (refine And.intro (by omega) ?_; conv => whnf)
    | (refine And.intro rfl ?_; conv => whnf)
    | (exact ⟨[], _, _, _, rfl, rfl, rfl, RepLe.bl (by first | (simp_all [letterB]; done) | grind [letterB]), trivial⟩)
    | (exact ⟨[], _, _, _, rfl, rfl, rfl, RepLe.vb (by first | (simp_all [letterB]; done) | grind [letterB]), trivial⟩)
    | (intro z hz; have hy := wrap64_eq hz (by omega) (by omega); clear hz; subst hy; conv => whnf)
    | (exact ⟨i + 1, ⟨by omega, by first | (simp_all [letterB]; done) | grind [letterB]⟩, by omega, stle ⟨trivial, trivial⟩ trivial rfl⟩))

theorem f73 (s : ByteArray) : PCall Tryz.prog 74 [.val (.string s)] (.p (.val (.bool (nameOk s)))) [] := by
  refine gcode hT hM Tryz.func74 rfl rfl (rv := [(2, none)]) rfl rfl rfl fun G hG => ?_
  conv => whnf
  refine ⟨fun h => ?_, fun h => ?_⟩
  · conv => whnf
    have h : sEq s noS = true := h
    rw [size_empty] at h
    exact ⟨[], _, _, _, rfl, rfl, rfl, RepLe.bl (by simp [nameOk, iLt_not, h]), trivial⟩
  conv => whnf
  have h : sEq s noS = false := h
  rw [size_empty, iLe_f] at h
  have hl : iLt 0 (s.size : Int) = true := by rw [iLt_t]; omega
  refine ⟨fun h2 => ?_, fun h2 => ?_⟩
  · conv => whnf
    rw [iLt_not] at h2
    exact ⟨[], _, _, _, rfl, rfl, rfl, RepLe.bl (by simp at h2; simp [nameOk, h2]), trivial⟩
  conv => whnf
  rw [iLt_not] at h2
  have h2' : iLe (s.size : Int) 12 = true := by simpa using h2
  have h12 := iLe_t.1 h2'
  refine ⟨by omega, ?_⟩
  conv => whnf
  refine CallK.lent (f115 _) rfl ?_
  conv => whnf
  refine ⟨fun h3 => ?_, fun h3 => ?_⟩
  · conv => whnf
    exact ⟨[], _, _, _, rfl, rfl, rfl, RepLe.bl (by simp at h3; simp [nameOk, h3]), trivial⟩
  conv => whnf
  have h3' : letterB (bt s 0) = true := by simpa using h3
  refine AW.loop (X := Nat) (fun i => told 40 [(0, .p (.val (.string s))), (18, vI .i64 (s.size : Int)), (19, vI .i64 (i : Int))] [] []) (fun i => i ≤ s.size ∧ nameOk s = allUpto (fun i => nameB (bt s i)) (s.size - i) i) (fun i => s.size - i) (used0 hG _) 0 ⟨by omega, by simp [nameOk, hl, h2', h3']⟩ (stle ⟨RepLe.refl _, RepLe.refl _, RepLe.refl _, trivial⟩ trivial rfl) ?_
  rintro i ⟨hi, hr⟩
  refine codeK_aw hT hM _ _ _ ?_
  conv => whnf
  refine ⟨fun h4 => ?_, fun h4 => ?_⟩
  · have hlt : i < s.size := by rw [iLt_t] at h4; omega
    rw [allUpto_step _ hlt] at hr
    conv => whnf
    repeat' (first
      | (refine ⟨fun _ => ?_, fun _ => ?_⟩ <;> (conv => whnf))
      | (refine And.intro (by omega) ?_; conv => whnf)
      | (refine CallK.lent (f115 _) rfl ?_; conv => whnf)
      | (refine And.intro rfl ?_; conv => whnf)
      | (exact ⟨[], _, _, _, rfl, rfl, rfl, RepLe.bl (by first | (simp_all [nameB, digitB, iLt_not]; done) | grind [nameB, digitB, iLt_not]), trivial⟩)
      | (exact ⟨[], _, _, _, rfl, rfl, rfl, RepLe.vb (by first | (simp_all [nameB, digitB, iLt_not]; done) | grind [nameB, digitB, iLt_not]), trivial⟩)
      | (intro z hz; have hy := wrap64_eq hz (by omega) (by omega); clear hz; subst hy; conv => whnf)
      | (exact ⟨i + 1, ⟨by omega, by first | (simp_all [nameB, digitB, iLt_not]; done) | grind [nameB, digitB, iLt_not]⟩, by omega, stle ⟨RepLe.refl _, RepLe.refl _, RepLe.of rfl, trivial⟩ trivial rfl⟩))
  · have hge : i = s.size := by rw [iLt_f] at h4; omega
    subst hge
    conv => whnf
    exact ⟨[], _, _, _, rfl, rfl, rfl, RepLe.bl (by rw [hr, allUpto_end]), trivial⟩

theorem f109 (s : ByteArray) : PCall Tryz.prog 96 [.val (.string s)] (.p (.val (.bool (nameOk s)))) [] := by
  refine gcode hT hM Tryz.func96 rfl rfl (rv := [(2, none)]) rfl rfl rfl fun G hG => ?_
  conv => whnf
  refine ⟨fun h => ?_, fun h => ?_⟩
  · conv => whnf
    rw [iLt_not] at h
    have h : iLe 1 (s.size : Int) = false := by simpa using h
    have h : iLt 0 (s.size : Int) = false := by rw [iLe_f] at h; rw [iLt_f]; omega
    exact ⟨[], _, _, _, rfl, rfl, rfl, RepLe.bl (by simp [nameOk, h]), trivial⟩
  conv => whnf
  have hl : iLt 0 (s.size : Int) = true := by rw [iLt_f] at h; rw [iLt_t]; omega
  refine ⟨fun h2 => ?_, fun h2 => ?_⟩
  · conv => whnf
    rw [iLt_not] at h2
    exact ⟨[], _, _, _, rfl, rfl, rfl, RepLe.bl (by simp at h2; simp [nameOk, h2]), trivial⟩
  conv => whnf
  rw [iLt_not] at h2
  have h2' : iLe (s.size : Int) 12 = true := by simpa using h2
  have h12 := iLe_t.1 h2'
  have h0 := iLt_t.1 hl
  refine AW.loop (X := Nat) (fun i => told 50 [(0, .p (.val (.string s))), (3, vI .i64 (i : Int))] [] []) (fun i => i ≤ s.size ∧ nameOk s = allUpto (fun i => letterB (bt s i) || (digitB (bt s i) && !iEq (i : Nat) 0)) (s.size - i) i) (fun i => s.size - i) (used0 hG _) 0 ⟨by omega, by rw [Nat.sub_zero, name_all s (by omega)]; simp [nameOk, hl, h2']⟩ (stle ⟨RepLe.refl _, RepLe.refl _, trivial⟩ trivial rfl) ?_
  rintro i ⟨hi, hr⟩
  refine codeK_aw hT hM _ _ _ ?_
  conv => whnf
  refine ⟨fun h4 => ?_, fun h4 => ?_⟩
  · have hlt : i < s.size := by rw [iLt_t] at h4; omega
    rw [allUpto_step _ hlt] at hr
    conv => whnf
    repeat' (first
      | (refine ⟨fun _ => ?_, fun _ => ?_⟩ <;> (conv => whnf))
      | (refine And.intro (by omega) ?_; conv => whnf)
      | (refine And.intro rfl ?_; conv => whnf)
      | (exact ⟨[], _, _, _, rfl, rfl, rfl, RepLe.bl (by first | (simp_all [nameB, letterB, digitB]; done) | grind [nameB, letterB, digitB]), trivial⟩)
      | (exact ⟨[], _, _, _, rfl, rfl, rfl, RepLe.vb (by first | (simp_all [nameB, letterB, digitB]; done) | grind [nameB, letterB, digitB]), trivial⟩)
      | (intro z hz; have hy := wrap64_eq hz (by omega) (by omega); clear hz; subst hy; conv => whnf)
      | (exact ⟨i + 1, ⟨by omega, by first | (simp_all [nameB, letterB, digitB]; done) | grind [nameB, letterB, digitB]⟩, by omega, stle ⟨RepLe.refl _, RepLe.of rfl, trivial⟩ trivial rfl⟩))
  · have hge : i = s.size := by rw [iLt_f] at h4; omega
    subst hge
    conv => whnf
    exact ⟨[], _, _, _, rfl, rfl, rfl, RepLe.bl (by rw [hr, allUpto_end]), trivial⟩
end Go.Proofs.YtalpbdabeffnlaaGreat

/- Lists of texts, fields, pairs, lenses: sameness. -/
set_option linter.unusedVariables false
set_option linter.unusedSimpArgs false
namespace Go.Proofs.YtalpbdabeffnlaaGreat
open Go Go.Av
set_option maxRecDepth 100000

structure SRef where
  scope : Int
  group : ByteArray
  name : ByteArray
structure SField where
  place : SRef
  kind : Int
  dflt : ByteArray
  cases : List ByteArray
  worth : Int
structure SPair where
  frm : ByteArray
  tto : ByteArray
structure SLens where
  kind : Int
  place : SRef
  name : ByteArray
  other : ByteArray
  factor : Int
  field : SField
  forth : List SPair
  back : List SPair
def noRef : SRef := ⟨0, noS, noS⟩
def noField : SField := ⟨noRef, 0, noS, [], 0⟩
def noPair : SPair := ⟨noS, noS⟩
def refCells (r : SRef) : List PV := [.val (.int .i64 r.scope), .val (.string r.group), .val (.string r.name)]
def fieldCells (f : SField) : List PV := [.val (.int .i64 f.place.scope), .val (.string f.place.group), .val (.string f.place.name), .val (.int .i64 f.kind), .val (.string f.dflt), encStrs f.cases, .val (.int .i64 f.worth)]
def pairCells (p : SPair) : List PV := [.val (.string p.frm), .val (.string p.tto)]
def encPairs (l : List SPair) : PV := .rs 2 l.length fun i => at_ .any (pairCells (l.getD i noPair))
def lensCells (x : SLens) : List PV := [.val (.int .i64 x.kind), .val (.int .i64 x.place.scope), .val (.string x.place.group), .val (.string x.place.name), .val (.string x.name), .val (.string x.other), .val (.int .i64 x.factor),
  .val (.int .i64 x.field.place.scope), .val (.string x.field.place.group), .val (.string x.field.place.name), .val (.int .i64 x.field.kind), .val (.string x.field.dflt), encStrs x.field.cases, .val (.int .i64 x.field.worth),
  encPairs x.forth, encPairs x.back]
def encRef (r : SRef) : PV := aggL (refCells r)
def encField (f : SField) : PV := aggL (fieldCells f)
def encPair (p : SPair) : PV := aggL (pairCells p)
def encLens (x : SLens) : PV := aggL (lensCells x)

/-- Every list in it is one that memory can hold. -/
def okField (f : SField) : Prop := f.cases.length ≤ maxLen
def okLens (x : SLens) : Prop := okField x.field ∧ x.forth.length ≤ maxLen ∧ x.back.length ≤ maxLen

def sameRef (a b : SRef) : Bool := iEq a.scope b.scope && (sEq a.group b.group && sEq a.name b.name)
def sameField (a b : SField) : Bool := sameRef a.place b.place && (iEq a.kind b.kind && (sEq a.dflt b.dflt && (iEq a.worth b.worth && sameStrs a.cases b.cases)))
def samePair (a b : SPair) : Bool := sEq a.frm b.frm && sEq a.tto b.tto
def samePairs (l m : List SPair) : Bool := decide (l.length = m.length) && allUpto (fun i => samePair (l.getD i noPair) (m.getD i noPair)) l.length 0
def sameLens (a b : SLens) : Bool := iEq a.kind b.kind && (sameRef a.place b.place && (sEq a.name b.name && (sEq a.other b.other && (iEq a.factor b.factor && (sameField a.field b.field && (samePairs a.forth b.forth && samePairs a.back b.back))))))

theorem f113 (l m : List ByteArray) (hl : l.length ≤ maxLen) : PCall Tryz.prog 111 [encStrs l, encStrs m] (.p (.val (.bool (sameStrs l m)))) [] := by
  have hl : l.length ≤ 9223372036854775807 := hl
  refine gcode hT hM Tryz.func111 rfl rfl (rv := [(4, none)]) rfl rfl rfl fun G hG => ?_
  conv => whnf
  refine ⟨fun h => ?_, fun h => ?_⟩
  · conv => whnf
    exact ⟨[], _, _, _, rfl, rfl, rfl, RepLe.bl (by simp [iEq_f] at h; simp [sameStrs]; omega), trivial⟩
  conv => whnf
  have hlen : l.length = m.length := by simp [iEq_t] at h; omega
  refine AW.loop (X := Nat) (fun i => told 26 [(0, .p (encStrs l)), (1, .p (encStrs m)), (12, vI .i64 (l.length : Int)), (13, vI .i64 (i : Int))] [] []) (fun i => i ≤ l.length ∧ sameStrs l m = allUpto (fun i => sEq (l.getD i noS) (m.getD i noS)) (l.length - i) i) (fun i => l.length - i) (used0 hG _) 0 ⟨by omega, by simp [sameStrs, hlen]⟩ (stle ⟨RepLe.refl _, RepLe.refl _, RepLe.refl _, RepLe.refl _, trivial⟩ trivial rfl) ?_
  rintro i ⟨hi, hr⟩
  refine codeK_aw hT hM _ _ _ ?_
  conv => whnf
  refine ⟨fun h4 => ?_, fun h4 => ?_⟩
  · have hlt : i < l.length := by rw [iLt_t] at h4; omega
    rw [allUpto_step _ hlt] at hr
    conv => whnf
    repeat' (first
      | (refine ⟨fun _ => ?_, fun _ => ?_⟩ <;> (conv => whnf))
      | (refine And.intro (by omega) ?_; conv => whnf)
      | (refine And.intro rfl ?_; conv => whnf)
      | (exact ⟨[], _, _, _, rfl, rfl, rfl, RepLe.bl (by first | (simp_all [noS]; done) | grind [noS]), trivial⟩)
      | (exact ⟨[], _, _, _, rfl, rfl, rfl, RepLe.vb (by first | (simp_all [noS]; done) | grind [noS]), trivial⟩)
      | (intro z hz; have hy := wrap64_eq hz (by omega) (by omega); clear hz; subst hy; conv => whnf)
      | (exact ⟨i + 1, ⟨by omega, by first | (simp_all [noS]; done) | grind [noS]⟩, by omega, stle ⟨RepLe.refl _, RepLe.refl _, RepLe.refl _, RepLe.of rfl, trivial⟩ trivial rfl⟩))
  · have hge : i = l.length := by rw [iLt_f] at h4; omega
    subst hge
    conv => whnf
    exact ⟨[], _, _, _, rfl, rfl, rfl, RepLe.bl (by rw [hr, allUpto_end]), trivial⟩

theorem f102 (l m : List ByteArray) (hl : l.length ≤ maxLen) : PCall Tryz.prog 89 [encStrs l, encStrs m] (.p (.val (.bool (sameStrs l m)))) [] := by
  have hl : l.length ≤ 9223372036854775807 := hl
  refine gcode hT hM Tryz.func89 rfl rfl (rv := [(4, none)]) rfl rfl rfl fun G hG => ?_
  conv => whnf
  refine ⟨fun h => ?_, fun h => ?_⟩
  · conv => whnf
    exact ⟨[], _, _, _, rfl, rfl, rfl, RepLe.bl (by simp [iEq_f] at h; simp [sameStrs]; omega), trivial⟩
  conv => whnf
  have hlen : l.length = m.length := by simp [iEq_t] at h; omega
  refine AW.loop (X := Nat) (fun i => told 26 [(0, .p (encStrs l)), (1, .p (encStrs m)), (5, vI .i64 (i : Int))] [] []) (fun i => i ≤ l.length ∧ sameStrs l m = allUpto (fun i => sEq (l.getD i noS) (m.getD i noS)) (l.length - i) i) (fun i => l.length - i) (used0 hG _) 0 ⟨by omega, by simp [sameStrs, hlen]⟩ (stle ⟨RepLe.refl _, RepLe.refl _, RepLe.refl _, trivial⟩ trivial rfl) ?_
  rintro i ⟨hi, hr⟩
  refine codeK_aw hT hM _ _ _ ?_
  conv => whnf
  refine ⟨fun h4 => ?_, fun h4 => ?_⟩
  · have hlt : i < l.length := by rw [iLt_t] at h4; omega
    rw [allUpto_step _ hlt] at hr
    conv => whnf
    repeat' (first
      | (refine ⟨fun _ => ?_, fun _ => ?_⟩ <;> (conv => whnf))
      | (refine And.intro (by omega) ?_; conv => whnf)
      | (refine And.intro rfl ?_; conv => whnf)
      | (exact ⟨[], _, _, _, rfl, rfl, rfl, RepLe.bl (by first | (simp_all [noS]; done) | grind [noS]), trivial⟩)
      | (exact ⟨[], _, _, _, rfl, rfl, rfl, RepLe.vb (by first | (simp_all [noS]; done) | grind [noS]), trivial⟩)
      | (intro z hz; have hy := wrap64_eq hz (by omega) (by omega); clear hz; subst hy; conv => whnf)
      | (exact ⟨i + 1, ⟨by omega, by first | (simp_all [noS]; done) | grind [noS]⟩, by omega, stle ⟨RepLe.refl _, RepLe.refl _, RepLe.of rfl, trivial⟩ trivial rfl⟩))
  · have hge : i = l.length := by rw [iLt_f] at h4; omega
    subst hge
    conv => whnf
    exact ⟨[], _, _, _, rfl, rfl, rfl, RepLe.bl (by rw [hr, allUpto_end]), trivial⟩

theorem f83 (l m : List ByteArray) (hl : l.length ≤ maxLen) : PCall Tryz.prog 98 [encStrs l, encStrs m] (.p (.val (.bool (sameStrs l m)))) [] := by
  refine gcode hT hM Tryz.func98 rfl rfl (rv := [(4, none)]) rfl rfl rfl fun G hG => ?_
  conv => whnf
  refine CallK.lent (f102 _ _ hl) rfl ?_
  conv => whnf
  exact ⟨[], _, _, _, rfl, rfl, rfl, RepLe.refl _, trivial⟩

theorem f110 (l m : List SPair) (hl : l.length ≤ maxLen) : PCall Tryz.prog 149 [encPairs l, encPairs m] (.p (.val (.bool (samePairs l m)))) [] := by
  have hl : l.length ≤ 9223372036854775807 := hl
  refine gcode hT hM Tryz.func149 rfl rfl (rv := [(4, none)]) rfl rfl rfl fun G hG => ?_
  conv => whnf
  refine ⟨fun h => ?_, fun h => ?_⟩
  · conv => whnf
    exact ⟨[], _, _, _, rfl, rfl, rfl, RepLe.bl (by simp [iEq_f] at h; simp [samePairs]; omega), trivial⟩
  conv => whnf
  have hlen : l.length = m.length := by simp [iEq_t] at h; omega
  refine AW.loop (X := Nat) (fun i => told 26 [(0, .p (encPairs l)), (1, .p (encPairs m)), (12, vI .i64 (l.length : Int)), (13, vI .i64 (i : Int))] [] []) (fun i => i ≤ l.length ∧ samePairs l m = allUpto (fun i => samePair (l.getD i noPair) (m.getD i noPair)) (l.length - i) i) (fun i => l.length - i) (used0 hG _) 0 ⟨by omega, by simp [samePairs, hlen]⟩ (stle ⟨RepLe.refl _, RepLe.refl _, RepLe.refl _, RepLe.refl _, trivial⟩ trivial rfl) ?_
  rintro i ⟨hi, hr⟩
  refine codeK_aw hT hM _ _ _ ?_
  conv => whnf
  refine ⟨fun h4 => ?_, fun h4 => ?_⟩
  · have hlt : i < l.length := by rw [iLt_t] at h4; omega
    rw [allUpto_step _ hlt] at hr
    conv => whnf
    repeat' (first
      | (refine ⟨fun _ => ?_, fun _ => ?_⟩ <;> (conv => whnf))
      | (refine And.intro (by omega) ?_; conv => whnf)
      | (refine And.intro rfl ?_; conv => whnf)
      | (exact ⟨[], _, _, _, rfl, rfl, rfl, RepLe.bl (by first | (simp_all [samePair]; done) | grind [samePair]), trivial⟩)
      | (exact ⟨[], _, _, _, rfl, rfl, rfl, RepLe.vb (by first | (simp_all [samePair]; done) | grind [samePair]), trivial⟩)
      | (intro z hz; have hy := wrap64_eq hz (by omega) (by omega); clear hz; subst hy; conv => whnf)
      | (exact ⟨i + 1, ⟨by omega, by first | (simp_all [samePair]; done) | grind [samePair]⟩, by omega, stle ⟨RepLe.refl _, RepLe.refl _, RepLe.refl _, RepLe.of rfl, trivial⟩ trivial rfl⟩))
  · have hge : i = l.length := by rw [iLt_f] at h4; omega
    subst hge
    conv => whnf
    exact ⟨[], _, _, _, rfl, rfl, rfl, RepLe.bl (by rw [hr, allUpto_end]), trivial⟩

theorem f69 (l m : List SPair) (hl : l.length ≤ maxLen) : PCall Tryz.prog 78 [encPairs l, encPairs m] (.p (.val (.bool (samePairs l m)))) [] := by
  have hl : l.length ≤ 9223372036854775807 := hl
  refine gcode hT hM Tryz.func78 rfl rfl (rv := [(4, none)]) rfl rfl rfl fun G hG => ?_
  conv => whnf
  refine ⟨fun h => ?_, fun h => ?_⟩
  · conv => whnf
    exact ⟨[], _, _, _, rfl, rfl, rfl, RepLe.bl (by simp [iEq_f] at h; simp [samePairs]; omega), trivial⟩
  conv => whnf
  have hlen : l.length = m.length := by simp [iEq_t] at h; omega
  refine AW.loop (X := Nat) (fun i => told 26 [(0, .p (encPairs l)), (1, .p (encPairs m)), (5, vI .i64 (i : Int))] [] []) (fun i => i ≤ l.length ∧ samePairs l m = allUpto (fun i => samePair (l.getD i noPair) (m.getD i noPair)) (l.length - i) i) (fun i => l.length - i) (used0 hG _) 0 ⟨by omega, by simp [samePairs, hlen]⟩ (stle ⟨RepLe.refl _, RepLe.refl _, RepLe.refl _, trivial⟩ trivial rfl) ?_
  rintro i ⟨hi, hr⟩
  refine codeK_aw hT hM _ _ _ ?_
  conv => whnf
  refine ⟨fun h4 => ?_, fun h4 => ?_⟩
  · have hlt : i < l.length := by rw [iLt_t] at h4; omega
    rw [allUpto_step _ hlt] at hr
    conv => whnf
    repeat' (first
      | (refine ⟨fun _ => ?_, fun _ => ?_⟩ <;> (conv => whnf))
      | (refine And.intro (by omega) ?_; conv => whnf)
      | (refine And.intro rfl ?_; conv => whnf)
      | (exact ⟨[], _, _, _, rfl, rfl, rfl, RepLe.bl (by first | (simp_all [samePair]; done) | grind [samePair]), trivial⟩)
      | (exact ⟨[], _, _, _, rfl, rfl, rfl, RepLe.vb (by first | (simp_all [samePair]; done) | grind [samePair]), trivial⟩)
      | (intro z hz; have hy := wrap64_eq hz (by omega) (by omega); clear hz; subst hy; conv => whnf)
      | (exact ⟨i + 1, ⟨by omega, by first | (simp_all [samePair]; done) | grind [samePair]⟩, by omega, stle ⟨RepLe.refl _, RepLe.refl _, RepLe.of rfl, trivial⟩ trivial rfl⟩))
  · have hge : i = l.length := by rw [iLt_f] at h4; omega
    subst hge
    conv => whnf
    exact ⟨[], _, _, _, rfl, rfl, rfl, RepLe.bl (by rw [hr, allUpto_end]), trivial⟩

theorem f66 (a b : SField) (ha : okField a) : PCall Tryz.prog 109 [encField a, encField b] (.p (.val (.bool (sameField a b)))) [] := by
  refine gcode hT hM Tryz.func109 rfl rfl (rv := [(4, none)]) rfl rfl rfl fun G hG => ?_
  conv => whnf
  repeat' (first
    | (refine ⟨fun _ => ?_, fun _ => ?_⟩ <;> (conv => whnf))
    | (refine And.intro (by omega) ?_; conv => whnf)
    | (refine CallK.lent (f113 _ _ ha) rfl ?_; conv => whnf)
    | (refine And.intro rfl ?_; conv => whnf)
    | (exact ⟨[], _, _, _, rfl, rfl, rfl, RepLe.bl (by first | (simp_all [sameField, sameRef]; done) | grind [sameField, sameRef]), trivial⟩)
    | (exact ⟨[], _, _, _, rfl, rfl, rfl, RepLe.vb (by first | (simp_all [sameField, sameRef]; done) | grind [sameField, sameRef]), trivial⟩)
    | (intro z hz; have hy := wrap64_eq hz (by omega) (by omega); clear hz; subst hy; conv => whnf)
    | (exact ⟨i + 1, ⟨by omega, by first | (simp_all [sameField, sameRef]; done) | grind [sameField, sameRef]⟩, by omega, stle ⟨trivial, trivial⟩ trivial rfl⟩))
theorem f32 (a b : SField) (ha : okField a) : PCall Tryz.prog 46 [encField a, encField b] (.p (.val (.bool (sameField a b)))) [] := by
  refine gcode hT hM Tryz.func46 rfl rfl (rv := [(4, none)]) rfl rfl rfl fun G hG => ?_
  conv => whnf
  repeat' (first
    | (refine ⟨fun _ => ?_, fun _ => ?_⟩ <;> (conv => whnf))
    | (refine And.intro (by omega) ?_; conv => whnf)
    | (refine CallK.lent (f83 _ _ ha) rfl ?_; conv => whnf)
    | (refine And.intro rfl ?_; conv => whnf)
    | (exact ⟨[], _, _, _, rfl, rfl, rfl, RepLe.bl (by first | (simp_all [sameField, sameRef]; done) | grind [sameField, sameRef]), trivial⟩)
    | (exact ⟨[], _, _, _, rfl, rfl, rfl, RepLe.vb (by first | (simp_all [sameField, sameRef]; done) | grind [sameField, sameRef]), trivial⟩)
    | (intro z hz; have hy := wrap64_eq hz (by omega) (by omega); clear hz; subst hy; conv => whnf)
    | (exact ⟨i + 1, ⟨by omega, by first | (simp_all [sameField, sameRef]; done) | grind [sameField, sameRef]⟩, by omega, stle ⟨trivial, trivial⟩ trivial rfl⟩))
theorem f24 (a b : SLens) (ha : okLens a) : PCall Tryz.prog 37 [encLens a, encLens b] (.p (.val (.bool (sameLens a b)))) [] := by
  refine gcode hT hM Tryz.func37 rfl rfl (rv := [(4, none)]) rfl rfl rfl fun G hG => ?_
  conv => whnf
  repeat' (first
    | (refine ⟨fun _ => ?_, fun _ => ?_⟩ <;> (conv => whnf))
    | (refine And.intro (by omega) ?_; conv => whnf)
    | (refine CallK.lent (f32 a.field b.field ha.1) rfl ?_; conv => whnf)
    | (refine CallK.lent (f69 _ _ ha.2.1) rfl ?_; conv => whnf)
    | (refine CallK.lent (f69 _ _ ha.2.2) rfl ?_; conv => whnf)
    | (refine And.intro rfl ?_; conv => whnf)
    | (exact ⟨[], _, _, _, rfl, rfl, rfl, RepLe.bl (by first | (simp_all [sameLens, sameRef]; done) | grind [sameLens, sameRef]), trivial⟩)
    | (exact ⟨[], _, _, _, rfl, rfl, rfl, RepLe.vb (by first | (simp_all [sameLens, sameRef]; done) | grind [sameLens, sameRef]), trivial⟩)
    | (intro z hz; have hy := wrap64_eq hz (by omega) (by omega); clear hz; subst hy; conv => whnf)
    | (exact ⟨i + 1, ⟨by omega, by first | (simp_all [sameLens, sameRef]; done) | grind [sameLens, sameRef]⟩, by omega, stle ⟨trivial, trivial⟩ trivial rfl⟩))
theorem f57 (a b : SLens) (ha : okLens a) : PCall Tryz.prog 100 [encLens a, encLens b] (.p (.val (.bool (sameLens a b)))) [] := by
  refine gcode hT hM Tryz.func100 rfl rfl (rv := [(4, none)]) rfl rfl rfl fun G hG => ?_
  conv => whnf
  repeat' (first
    | (refine ⟨fun _ => ?_, fun _ => ?_⟩ <;> (conv => whnf))
    | (refine And.intro (by omega) ?_; conv => whnf)
    | (refine CallK.lent (f66 a.field b.field ha.1) rfl ?_; conv => whnf)
    | (refine CallK.lent (f110 _ _ ha.2.1) rfl ?_; conv => whnf)
    | (refine CallK.lent (f110 _ _ ha.2.2) rfl ?_; conv => whnf)
    | (refine And.intro rfl ?_; conv => whnf)
    | (exact ⟨[], _, _, _, rfl, rfl, rfl, RepLe.bl (by first | (simp_all [sameLens, sameRef]; done) | grind [sameLens, sameRef]), trivial⟩)
    | (exact ⟨[], _, _, _, rfl, rfl, rfl, RepLe.vb (by first | (simp_all [sameLens, sameRef]; done) | grind [sameLens, sameRef]), trivial⟩)
    | (intro z hz; have hy := wrap64_eq hz (by omega) (by omega); clear hz; subst hy; conv => whnf)
    | (exact ⟨i + 1, ⟨by omega, by first | (simp_all [sameLens, sameRef]; done) | grind [sameLens, sameRef]⟩, by omega, stle ⟨trivial, trivial⟩ trivial rfl⟩))
end Go.Proofs.YtalpbdabeffnlaaGreat

/- Places, cases, tables: what the program's functions answer. -/
set_option linter.unusedVariables false
set_option linter.unusedSimpArgs false
namespace Go.Proofs.YtalpbdabeffnlaaGreat
open Go Go.Av
set_option maxRecDepth 100000

def placeOk (r : SRef) : Bool := (iEq r.scope 0 || iEq r.scope 1) && (nameOk r.name && (sEq r.group noS || nameOk r.group))
def textOk (s : ByteArray) : Bool := iLe s.size 40
def posOf : Option Nat → Int
  | some i => i
  | none => -1
def idxOf (l : List ByteArray) (v : ByteArray) : Int := posOf (findUpto (fun i => sEq v (l.getD i noS)) l.length 0)

theorem f72 (r : SRef) : PCall Tryz.prog 102 [encRef r] (.p (.val (.bool (placeOk r)))) [] := by
  refine gcode hT hM Tryz.func102 rfl rfl (rv := [(2, none)]) rfl rfl rfl fun G hG => ?_
  conv => whnf
  repeat' (first
    | (refine ⟨fun _ => ?_, fun _ => ?_⟩ <;> (conv => whnf))
    | (refine And.intro (by omega) ?_; conv => whnf)
    | (refine CallK.lent (f73 _) rfl ?_; conv => whnf)
    | (refine And.intro rfl ?_; conv => whnf)
    | (exact ⟨[], _, _, _, rfl, rfl, rfl, RepLe.bl (by first | (simp_all [placeOk, noS]; done) | grind [placeOk, noS]), trivial⟩)
    | (exact ⟨[], _, _, _, rfl, rfl, rfl, RepLe.vb (by first | (simp_all [placeOk, noS]; done) | grind [placeOk, noS]), trivial⟩)
    | (intro z hz; have hy := wrap64_eq hz (by omega) (by omega); clear hz; subst hy; conv => whnf)
    | (exact ⟨i + 1, ⟨by omega, by first | (simp_all [placeOk, noS]; done) | grind [placeOk, noS]⟩, by omega, stle ⟨trivial, trivial⟩ trivial rfl⟩))

theorem f75 (s : ByteArray) : PCall Tryz.prog 104 [.val (.string s)] (.p (.val (.bool (textOk s)))) [] := by
  refine gcode hT hM Tryz.func104 rfl rfl (rv := [(2, none)]) rfl rfl rfl fun G hG => ?_
  conv => whnf
  repeat' (first
    | (refine ⟨fun _ => ?_, fun _ => ?_⟩ <;> (conv => whnf))
    | (refine And.intro (by omega) ?_; conv => whnf)
    | (refine And.intro rfl ?_; conv => whnf)
    | (exact ⟨[], _, _, _, rfl, rfl, rfl, RepLe.bl (by first | (simp_all [textOk]; done) | grind [textOk]), trivial⟩)
    | (exact ⟨[], _, _, _, rfl, rfl, rfl, RepLe.vb (by first | (simp_all [textOk]; done) | grind [textOk]), trivial⟩)
    | (intro z hz; have hy := wrap64_eq hz (by omega) (by omega); clear hz; subst hy; conv => whnf)
    | (exact ⟨i + 1, ⟨by omega, by first | (simp_all [textOk]; done) | grind [textOk]⟩, by omega, stle ⟨trivial, trivial⟩ trivial rfl⟩))

theorem f117 (l : List ByteArray) (v : ByteArray) (hl : l.length ≤ maxLen) : PCall Tryz.prog 150 [encStrs l, .val (.string v)] (.p (.val (.int .i64 (idxOf l v)))) [] := by
  have hl : l.length ≤ 9223372036854775807 := hl
  refine gcode hT hM Tryz.func150 rfl rfl (rv := [(4, none)]) rfl rfl rfl fun G hG => ?_
  conv => whnf
  refine AW.loop (X := Nat) (fun i => told 19 [(0, .p (encStrs l)), (1, .p (.val (.string v))), (7, vI .i64 (l.length : Int)), (8, vI .i64 (i : Int))] [] []) (fun i => i ≤ l.length ∧ idxOf l v = posOf (findUpto (fun i => sEq v (l.getD i noS)) (l.length - i) i)) (fun i => l.length - i) (used0 hG _) 0 ⟨by omega, by simp [idxOf]⟩ (stle ⟨RepLe.refl _, RepLe.refl _, RepLe.refl _, RepLe.refl _, trivial⟩ trivial rfl) ?_
  rintro i ⟨hi, hr⟩
  refine codeK_aw hT hM _ _ _ ?_
  conv => whnf
  refine ⟨fun h4 => ?_, fun h4 => ?_⟩
  · have hlt : i < l.length := by rw [iLt_t] at h4; omega
    rw [findUpto_step _ hlt] at hr
    conv => whnf
    refine ⟨by omega, ?_⟩
    conv => whnf
    refine ⟨fun h5 => ?_, fun h5 => ?_⟩
    · have h5 : sEq v (l.getD i noS) = true := h5
      conv => whnf
      exact ⟨[], _, _, _, rfl, rfl, rfl, RepLe.vi (by rw [hr, h5]; rfl), trivial⟩
    · have h5 : sEq v (l.getD i noS) = false := h5
      conv => whnf
      intro z hz
      have hy := wrap64_eq hz (by omega) (by omega)
      clear hz
      subst hy
      conv => whnf
      exact ⟨i + 1, ⟨by omega, by rw [hr, h5]⟩, by omega, stle ⟨RepLe.refl _, RepLe.refl _, RepLe.refl _, RepLe.of rfl, trivial⟩ trivial rfl⟩
  · have hge : i = l.length := by rw [iLt_f] at h4; omega
    subst hge
    conv => whnf
    exact ⟨[], _, _, _, rfl, rfl, rfl, RepLe.vi (by rw [hr, findUpto_end]; rfl), trivial⟩

theorem f138 (l : List ByteArray) (v : ByteArray) (hl : l.length ≤ maxLen) : PCall Tryz.prog 118 [encStrs l, .val (.string v)] (.p (.val (.bool (iLe 0 (idxOf l v))))) [] := by
  refine gcode hT hM Tryz.func118 rfl rfl (rv := [(4, none)]) rfl rfl rfl fun G hG => ?_
  conv => whnf
  refine CallK.lent (f117 _ _ hl) rfl ?_
  conv => whnf
  exact ⟨[], _, _, _, rfl, rfl, rfl, RepLe.refl _, trivial⟩

def casesOk (f : SField) : Bool := iLe 1 f.cases.length && (iLe f.cases.length 6 && (allUpto (fun i => nameOk (f.cases.getD i noS) && iEq (idxOf f.cases (f.cases.getD i noS)) (i : Nat)) f.cases.length 0 && iLe 0 (idxOf f.cases f.dflt)))

theorem f114 (f : SField) (hf : okField f) : PCall Tryz.prog 140 [encField f] (.p (.val (.bool (casesOk f)))) [] := by
  have hl : f.cases.length ≤ 9223372036854775807 := hf
  refine gcode hT hM Tryz.func140 rfl rfl (rv := [(2, none)]) rfl rfl rfl fun G hG => ?_
  conv => whnf
  have k1 : iLt (f.cases.length : Int) 1 = !iLe 1 (f.cases.length : Int) := iLt_not _ _
  have k2 : iLt 6 (f.cases.length : Int) = !iLe (f.cases.length : Int) 6 := iLt_not _ _
  refine ⟨fun h => ?_, fun h => ?_⟩
  · conv => whnf
    exact ⟨[], _, _, _, rfl, rfl, rfl, RepLe.bl (by simp_all [casesOk]), trivial⟩
  conv => whnf
  refine ⟨fun h2 => ?_, fun h2 => ?_⟩
  · conv => whnf
    exact ⟨[], _, _, _, rfl, rfl, rfl, RepLe.bl (by simp_all [casesOk]), trivial⟩
  conv => whnf
  refine AW.loop (X := Nat) (fun i => told 40 [(1, .pt 0 0), (16, .p (encStrs f.cases)), (17, vI .i64 (f.cases.length : Int)), (18, vI .i64 (i : Int))] [(0, some (.box 39 ((fieldCells f).map .p)))] [0]) (fun i => i ≤ f.cases.length ∧ casesOk f = (allUpto (fun i => nameOk (f.cases.getD i noS) && iEq (idxOf f.cases (f.cases.getD i noS)) (i : Nat)) (f.cases.length - i) i && iLe 0 (idxOf f.cases f.dflt))) (fun i => f.cases.length - i) (used0 hG _) 0 ⟨by omega, by simp_all [casesOk]⟩ (stle ⟨RepLe.refl _, RepLe.refl _, RepLe.refl _, RepLe.refl _, trivial⟩ ⟨⟨_, rfl, BlkLe.refl _⟩, trivial⟩ rfl) ?_
  rintro i ⟨hi, hr⟩
  refine codeK_aw hT hM _ _ _ ?_
  conv => whnf
  refine ⟨fun h4 => ?_, fun h4 => ?_⟩
  · have hlt : i < f.cases.length := by rw [iLt_t] at h4; omega
    rw [allUpto_step _ hlt] at hr
    conv => whnf
    refine ⟨by omega, ?_⟩
    conv => whnf
    refine CallK.lent (f73 _) rfl ?_
    conv => whnf
    refine ⟨fun h5 => ?_, fun h5 => ?_⟩
    · have h5 : nameOk (f.cases.getD i noS) = false := by simpa using h5
      conv => whnf
      exact ⟨[], _, _, _, rfl, rfl, rfl, RepLe.bl (by rw [hr, h5]; simp), trivial⟩
    have h5 : nameOk (f.cases.getD i noS) = true := by simpa using h5
    conv => whnf
    refine CallK.lent (f117 f.cases _ hf) rfl ?_
    conv => whnf
    refine ⟨fun h6 => ?_, fun h6 => ?_⟩
    · have h6 : iEq (idxOf f.cases (f.cases.getD i noS)) (i : Nat) = false := by simpa using h6
      conv => whnf
      exact ⟨[], _, _, _, rfl, rfl, rfl, RepLe.bl (by rw [hr, h6]; simp), trivial⟩
    have h6 : iEq (idxOf f.cases (f.cases.getD i noS)) (i : Nat) = true := by simpa using h6
    conv => whnf
    intro z hz
    have hy := wrap64_eq hz (by omega) (by omega)
    clear hz
    subst hy
    conv => whnf
    exact ⟨i + 1, ⟨by omega, by rw [hr, h5, h6]; simp⟩, by omega, stle ⟨RepLe.refl _, RepLe.refl _, RepLe.refl _, RepLe.of rfl, trivial⟩ ⟨⟨_, rfl, BlkLe.refl _⟩, trivial⟩ rfl⟩
  · have hge : i = f.cases.length := by rw [iLt_f] at h4; omega
    subst hge
    conv => whnf
    refine CallK.lent (f138 f.cases f.dflt hf) rfl ?_
    conv => whnf
    exact ⟨[], _, _, _, rfl, rfl, rfl, RepLe.vb (by rw [hr, allUpto_end]; simp), trivial⟩

def factorOk (n : Int) : Bool := iLe 2 n && iLe n 1000
theorem f74 (n : Int) : PCall Tryz.prog 103 [.val (.int .i64 n)] (.p (.val (.bool (factorOk n)))) [] := by
  refine gcode hT hM Tryz.func103 rfl rfl (rv := [(2, none)]) rfl rfl rfl fun G hG => ?_
  conv => whnf
  repeat' (first
    | (refine ⟨fun _ => ?_, fun _ => ?_⟩ <;> (conv => whnf))
    | (refine And.intro (by omega) ?_; conv => whnf)
    | (refine And.intro rfl ?_; conv => whnf)
    | (exact ⟨[], _, _, _, rfl, rfl, rfl, RepLe.bl (by first | (simp_all [factorOk]; done) | grind [factorOk]), trivial⟩)
    | (exact ⟨[], _, _, _, rfl, rfl, rfl, RepLe.vb (by first | (simp_all [factorOk]; done) | grind [factorOk]), trivial⟩)
    | (intro z hz; have hy := wrap64_eq hz (by omega) (by omega); clear hz; subst hy; conv => whnf)
    | (exact ⟨i + 1, ⟨by omega, by first | (simp_all [factorOk]; done) | grind [factorOk]⟩, by omega, stle ⟨trivial, trivial⟩ trivial rfl⟩))

def fieldOk (f : SField) : Bool :=
  placeOk f.place && ((iEq f.kind 3 || !iLt 0 f.cases.length) && ((iEq f.kind 1 || iEq f.worth 0) &&
    (if iEq f.kind 1 then sEq f.dflt noS && (iLe 1 f.worth && iLe f.worth 1048576) else if iEq f.kind 2 then textOk f.dflt else if iEq f.kind 3 then casesOk f else if iEq f.kind 4 then sEq f.dflt noS else false)))
theorem f71 (f : SField) (hf : okField f) : PCall Tryz.prog 79 [encField f] (.p (.val (.bool (fieldOk f)))) [] := by
  refine gcode hT hM Tryz.func79 rfl rfl (rv := [(2, none)]) rfl rfl rfl fun G hG => ?_
  conv => whnf
  repeat' (first
    | (refine ⟨fun _ => ?_, fun _ => ?_⟩ <;> (conv => whnf))
    | (refine And.intro (by omega) ?_; conv => whnf)
    | (refine CallK.lent (f72 f.place) rfl ?_; conv => whnf)
    | (refine CallK.lent (f75 _) rfl ?_; conv => whnf)
    | (refine CallK.lent (f114 f hf) rfl ?_; conv => whnf)
    | (refine And.intro rfl ?_; conv => whnf)
    | (exact ⟨[], _, _, _, rfl, rfl, rfl, RepLe.bl (by first | (simp_all [fieldOk, noS]; done) | grind [fieldOk, noS]), trivial⟩)
    | (exact ⟨[], _, _, _, rfl, rfl, rfl, RepLe.vb (by first | (simp_all [fieldOk, noS]; done) | grind [fieldOk, noS]), trivial⟩)
    | (intro z hz; have hy := wrap64_eq hz (by omega) (by omega); clear hz; subst hy; conv => whnf)
    | (exact ⟨i + 1, ⟨by omega, by first | (simp_all [fieldOk, noS]; done) | grind [fieldOk, noS]⟩, by omega, stle ⟨trivial, trivial⟩ trivial rfl⟩))
end Go.Proofs.YtalpbdabeffnlaaGreat
