/- Places, cases, tables: what the program's functions answer. -/
import Derived.Test.YtoophkcicdbnfaaB
set_option linter.unusedVariables false
set_option linter.unusedSimpArgs false
namespace Go.Proofs.Ytoophkcicdbnfaa
open Go Go.Av
set_option maxRecDepth 100000

def placeOk (r : SRef) : Bool := (iEq r.scope 0 || iEq r.scope 1) && (nameOk r.name && (sEq r.group noS || nameOk r.group))
def textOk (s : ByteArray) : Bool := iLe s.size 40
def posOf : Option Nat → Int
  | some i => i
  | none => -1
def idxOf (l : List ByteArray) (v : ByteArray) : Int := posOf (findUpto (fun i => sEq v (l.getD i noS)) l.length 0)

theorem f72 (r : SRef) : PCall Try.prog 72 [encRef r] (.p (.val (.bool (placeOk r)))) [] := by
  refine gcode hT hM Try.func72 rfl rfl (rv := [(2, none)]) rfl rfl rfl fun G hG => ?_
  conv => whnf
  repeat' (first
    | (refine ⟨fun _ => ?_, fun _ => ?_⟩ <;> (conv => whnf))
    | (refine And.intro (by omega) ?_; conv => whnf)
    | (refine CallK.lent (f73 _) rfl ?_; conv => whnf)
    | (refine And.intro rfl ?_; conv => whnf)
    | (exact ⟨[], _, _, _, rfl, rfl, rfl, RepLe.bl (by first | (simp_all [placeOk, noS]; done) | grind [placeOk, noS]), trivial⟩)
    | (exact ⟨[], _, _, _, rfl, rfl, rfl, RepLe.vb (by first | (simp_all [placeOk, noS]; done) | grind [placeOk, noS]), trivial⟩)
    | (intro z hz; have hy := wrap64_eq hz (by omega) (by omega); clear hz; subst hy; conv => whnf)
    | (exact ⟨i + 1, ⟨by omega, by first | (simp_all [placeOk, noS]; done) | grind [placeOk, noS]⟩, by omega, stle ⟨trivial, trivial⟩ trivial rfl⟩))

theorem f75 (s : ByteArray) : PCall Try.prog 75 [.val (.string s)] (.p (.val (.bool (textOk s)))) [] := by
  refine gcode hT hM Try.func75 rfl rfl (rv := [(2, none)]) rfl rfl rfl fun G hG => ?_
  conv => whnf
  repeat' (first
    | (refine ⟨fun _ => ?_, fun _ => ?_⟩ <;> (conv => whnf))
    | (refine And.intro (by omega) ?_; conv => whnf)
    | (refine And.intro rfl ?_; conv => whnf)
    | (exact ⟨[], _, _, _, rfl, rfl, rfl, RepLe.bl (by first | (simp_all [textOk]; done) | grind [textOk]), trivial⟩)
    | (exact ⟨[], _, _, _, rfl, rfl, rfl, RepLe.vb (by first | (simp_all [textOk]; done) | grind [textOk]), trivial⟩)
    | (intro z hz; have hy := wrap64_eq hz (by omega) (by omega); clear hz; subst hy; conv => whnf)
    | (exact ⟨i + 1, ⟨by omega, by first | (simp_all [textOk]; done) | grind [textOk]⟩, by omega, stle ⟨trivial, trivial⟩ trivial rfl⟩))

theorem f117 (l : List ByteArray) (v : ByteArray) (hl : l.length ≤ maxLen) : PCall Try.prog 117 [encStrs l, .val (.string v)] (.p (.val (.int .i64 (idxOf l v)))) [] := by
  have hl : l.length ≤ 9223372036854775807 := hl
  refine gcode hT hM Try.func117 rfl rfl (rv := [(4, none)]) rfl rfl rfl fun G hG => ?_
  conv => whnf
  refine AW.loop (X := Nat) (fun i => told 19 [(0, .p (encStrs l)), (1, .p (.val (.string v))), (7, vI .i64 (l.length : Int)), (8, vI .i64 (i : Int))] [] []) (fun i => i ≤ l.length ∧ idxOf l v = posOf (findUpto (fun i => sEq v (l.getD i noS)) (l.length - i) i)) (fun i => l.length - i) (used0 hG _) 0 ⟨by omega, by simp [idxOf]⟩ (stle ⟨RepLe.refl _, RepLe.refl _, RepLe.refl _, RepLe.refl _, trivial⟩ trivial rfl) ?_
  rintro i ⟨hi, hr⟩
  refine codeK_aw hT hM _ _ _ ?_
  conv => whnf
  refine ⟨fun h4 => ?_, fun h4 => ?_⟩
  · have hlt : i < l.length := by rw [iLt_t] at h4; omega
    rw [findUpto_step _ hlt] at hr
    conv => whnf
    refine ⟨by omega, ?_⟩
    conv => whnf
    refine ⟨fun h5 => ?_, fun h5 => ?_⟩
    · have h5 : sEq v (l.getD i noS) = true := h5
      conv => whnf
      exact ⟨[], _, _, _, rfl, rfl, rfl, RepLe.vi (by rw [hr, h5]; rfl), trivial⟩
    · have h5 : sEq v (l.getD i noS) = false := h5
      conv => whnf
      intro z hz
      have hy := wrap64_eq hz (by omega) (by omega)
      clear hz
      subst hy
      conv => whnf
      exact ⟨i + 1, ⟨by omega, by rw [hr, h5]⟩, by omega, stle ⟨RepLe.refl _, RepLe.refl _, RepLe.refl _, RepLe.of rfl, trivial⟩ trivial rfl⟩
  · have hge : i = l.length := by rw [iLt_f] at h4; omega
    subst hge
    conv => whnf
    exact ⟨[], _, _, _, rfl, rfl, rfl, RepLe.vi (by rw [hr, findUpto_end]; rfl), trivial⟩

theorem f138 (l : List ByteArray) (v : ByteArray) (hl : l.length ≤ maxLen) : PCall Try.prog 138 [encStrs l, .val (.string v)] (.p (.val (.bool (iLe 0 (idxOf l v))))) [] := by
  refine gcode hT hM Try.func138 rfl rfl (rv := [(4, none)]) rfl rfl rfl fun G hG => ?_
  conv => whnf
  refine CallK.lent (f117 _ _ hl) rfl ?_
  conv => whnf
  exact ⟨[], _, _, _, rfl, rfl, rfl, RepLe.refl _, trivial⟩

def casesOk (f : SField) : Bool := iLe 1 f.cases.length && (iLe f.cases.length 6 && (allUpto (fun i => nameOk (f.cases.getD i noS) && iEq (idxOf f.cases (f.cases.getD i noS)) (i : Nat)) f.cases.length 0 && iLe 0 (idxOf f.cases f.dflt)))

theorem f114 (f : SField) (hf : okField f) : PCall Try.prog 114 [encField f] (.p (.val (.bool (casesOk f)))) [] := by
  have hl : f.cases.length ≤ 9223372036854775807 := hf
  refine gcode hT hM Try.func114 rfl rfl (rv := [(2, none)]) rfl rfl rfl fun G hG => ?_
  conv => whnf
  have k1 : iLt (f.cases.length : Int) 1 = !iLe 1 (f.cases.length : Int) := iLt_not _ _
  have k2 : iLt 6 (f.cases.length : Int) = !iLe (f.cases.length : Int) 6 := iLt_not _ _
  refine ⟨fun h => ?_, fun h => ?_⟩
  · conv => whnf
    exact ⟨[], _, _, _, rfl, rfl, rfl, RepLe.bl (by simp_all [casesOk]), trivial⟩
  conv => whnf
  refine ⟨fun h2 => ?_, fun h2 => ?_⟩
  · conv => whnf
    exact ⟨[], _, _, _, rfl, rfl, rfl, RepLe.bl (by simp_all [casesOk]), trivial⟩
  conv => whnf
  refine AW.loop (X := Nat) (fun i => told 40 [(1, .pt 0 0), (16, .p (encStrs f.cases)), (17, vI .i64 (f.cases.length : Int)), (18, vI .i64 (i : Int))] [(0, some (.box 30 ((fieldCells f).map .p)))] [0]) (fun i => i ≤ f.cases.length ∧ casesOk f = (allUpto (fun i => nameOk (f.cases.getD i noS) && iEq (idxOf f.cases (f.cases.getD i noS)) (i : Nat)) (f.cases.length - i) i && iLe 0 (idxOf f.cases f.dflt))) (fun i => f.cases.length - i) (used0 hG _) 0 ⟨by omega, by simp_all [casesOk]⟩ (stle ⟨RepLe.refl _, RepLe.refl _, RepLe.refl _, RepLe.refl _, trivial⟩ ⟨⟨_, rfl, BlkLe.refl _⟩, trivial⟩ rfl) ?_
  rintro i ⟨hi, hr⟩
  refine codeK_aw hT hM _ _ _ ?_
  conv => whnf
  refine ⟨fun h4 => ?_, fun h4 => ?_⟩
  · have hlt : i < f.cases.length := by rw [iLt_t] at h4; omega
    rw [allUpto_step _ hlt] at hr
    conv => whnf
    refine ⟨by omega, ?_⟩
    conv => whnf
    refine CallK.lent (f73 _) rfl ?_
    conv => whnf
    refine ⟨fun h5 => ?_, fun h5 => ?_⟩
    · have h5 : nameOk (f.cases.getD i noS) = false := by simpa using h5
      conv => whnf
      exact ⟨[], _, _, _, rfl, rfl, rfl, RepLe.bl (by rw [hr, h5]; simp), trivial⟩
    have h5 : nameOk (f.cases.getD i noS) = true := by simpa using h5
    conv => whnf
    refine CallK.lent (f117 f.cases _ hf) rfl ?_
    conv => whnf
    refine ⟨fun h6 => ?_, fun h6 => ?_⟩
    · have h6 : iEq (idxOf f.cases (f.cases.getD i noS)) (i : Nat) = false := by simpa using h6
      conv => whnf
      exact ⟨[], _, _, _, rfl, rfl, rfl, RepLe.bl (by rw [hr, h6]; simp), trivial⟩
    have h6 : iEq (idxOf f.cases (f.cases.getD i noS)) (i : Nat) = true := by simpa using h6
    conv => whnf
    intro z hz
    have hy := wrap64_eq hz (by omega) (by omega)
    clear hz
    subst hy
    conv => whnf
    exact ⟨i + 1, ⟨by omega, by rw [hr, h5, h6]; simp⟩, by omega, stle ⟨RepLe.refl _, RepLe.refl _, RepLe.refl _, RepLe.of rfl, trivial⟩ ⟨⟨_, rfl, BlkLe.refl _⟩, trivial⟩ rfl⟩
  · have hge : i = f.cases.length := by rw [iLt_f] at h4; omega
    subst hge
    conv => whnf
    refine CallK.lent (f138 f.cases f.dflt hf) rfl ?_
    conv => whnf
    exact ⟨[], _, _, _, rfl, rfl, rfl, RepLe.vb (by rw [hr, allUpto_end]; simp), trivial⟩

def factorOk (n : Int) : Bool := iLe 2 n && iLe n 1000
theorem f74 (n : Int) : PCall Try.prog 74 [.val (.int .i64 n)] (.p (.val (.bool (factorOk n)))) [] := by
  refine gcode hT hM Try.func74 rfl rfl (rv := [(2, none)]) rfl rfl rfl fun G hG => ?_
  conv => whnf
  repeat' (first
    | (refine ⟨fun _ => ?_, fun _ => ?_⟩ <;> (conv => whnf))
    | (refine And.intro (by omega) ?_; conv => whnf)
    | (refine And.intro rfl ?_; conv => whnf)
    | (exact ⟨[], _, _, _, rfl, rfl, rfl, RepLe.bl (by first | (simp_all [factorOk]; done) | grind [factorOk]), trivial⟩)
    | (exact ⟨[], _, _, _, rfl, rfl, rfl, RepLe.vb (by first | (simp_all [factorOk]; done) | grind [factorOk]), trivial⟩)
    | (intro z hz; have hy := wrap64_eq hz (by omega) (by omega); clear hz; subst hy; conv => whnf)
    | (exact ⟨i + 1, ⟨by omega, by first | (simp_all [factorOk]; done) | grind [factorOk]⟩, by omega, stle ⟨trivial, trivial⟩ trivial rfl⟩))

def fieldOk (f : SField) : Bool :=
  placeOk f.place && ((iEq f.kind 3 || !iLt 0 f.cases.length) && ((iEq f.kind 1 || iEq f.worth 0) &&
    (if iEq f.kind 1 then sEq f.dflt noS && (iLe 1 f.worth && iLe f.worth 1048576) else if iEq f.kind 2 then textOk f.dflt else if iEq f.kind 3 then casesOk f else if iEq f.kind 4 then sEq f.dflt noS else false)))
theorem f71 (f : SField) (hf : okField f) : PCall Try.prog 71 [encField f] (.p (.val (.bool (fieldOk f)))) [] := by
  refine gcode hT hM Try.func71 rfl rfl (rv := [(2, none)]) rfl rfl rfl fun G hG => ?_
  conv => whnf
  repeat' (first
    | (refine ⟨fun _ => ?_, fun _ => ?_⟩ <;> (conv => whnf))
    | (refine And.intro (by omega) ?_; conv => whnf)
    | (refine CallK.lent (f72 f.place) rfl ?_; conv => whnf)
    | (refine CallK.lent (f75 _) rfl ?_; conv => whnf)
    | (refine CallK.lent (f114 f hf) rfl ?_; conv => whnf)
    | (refine And.intro rfl ?_; conv => whnf)
    | (exact ⟨[], _, _, _, rfl, rfl, rfl, RepLe.bl (by first | (simp_all [fieldOk, noS]; done) | grind [fieldOk, noS]), trivial⟩)
    | (exact ⟨[], _, _, _, rfl, rfl, rfl, RepLe.vb (by first | (simp_all [fieldOk, noS]; done) | grind [fieldOk, noS]), trivial⟩)
    | (intro z hz; have hy := wrap64_eq hz (by omega) (by omega); clear hz; subst hy; conv => whnf)
    | (exact ⟨i + 1, ⟨by omega, by first | (simp_all [fieldOk, noS]; done) | grind [fieldOk, noS]⟩, by omega, stle ⟨trivial, trivial⟩ trivial rfl⟩))
end Go.Proofs.Ytoophkcicdbnfaa
