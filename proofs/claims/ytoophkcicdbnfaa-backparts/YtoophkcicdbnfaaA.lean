/- Texts and lists of texts: what the program's and the reference's functions answer. -/
import Derived.Test.YtoophkcicdbnfaaT
import Derived.Test.YtoophkcicdbnfaaAvAid
set_option linter.unusedVariables false
set_option linter.unusedSimpArgs false
namespace Go.Proofs.Ytoophkcicdbnfaa
open Go Go.Av
set_option maxRecDepth 100000

def noS : ByteArray := ⟨#[]⟩
def encStrs (l : List ByteArray) : PV := .rs 1 l.length fun i _ => .val (.string (l.getD i noS))
def sameStrs (l m : List ByteArray) : Bool := decide (l.length = m.length) && allUpto (fun i => sEq (l.getD i noS) (m.getD i noS)) l.length 0
def letterB (c : Int) : Bool := iLe 97 c && iLe c 122
def digitB (c : Int) : Bool := iLe 48 c && iLe c 57
def nameB (c : Int) : Bool := letterB c || digitB c
def nameOk (s : ByteArray) : Bool := iLt 0 s.size && iLe s.size 12 && letterB (bt s 0) && allUpto (fun i => nameB (bt s i)) s.size 0
theorem iLt_not (a b : Int) : iLt a b = !iLe b a := by
  cases h : iLe b a
  · simp [iLt_t, iLe_f] at *; exact h
  · simp [iLt_f, iLe_t] at *; exact h
theorem size_empty (s : ByteArray) : sEq s noS = iLe s.size 0 := by
  cases h : iLe (s.size : Int) 0
  · rw [sEq_f]; rw [iLe_f] at h; rintro rfl; exact absurd h (by decide)
  · rw [sEq_t]; rw [iLe_t] at h
    have h0 : s.size = 0 := by omega
    cases s with | mk a => exact congrArg ByteArray.mk (Array.eq_empty_of_size_eq_zero h0)
theorem name_all (s : ByteArray) (h : 0 < s.size) : allUpto (fun i => letterB (bt s i) || (digitB (bt s i) && !iEq (i : Nat) 0)) s.size 0 = (letterB (bt s 0) && allUpto (fun i => nameB (bt s i)) s.size 0) := by
  rw [Bool.eq_iff_iff, Bool.and_eq_true, allUpto_iff, allUpto_iff]
  constructor
  · intro hh
    have h0 := hh 0 (Nat.le_refl _) (by omega)
    have e0 : iEq 0 0 = true := by simp [iEq_t]
    refine ⟨by simpa [e0] using h0, fun j hj hk => ?_⟩
    have := hh j hj hk
    unfold nameB
    revert this
    cases letterB (bt s j) <;> cases digitB (bt s j) <;> simp
  · rintro ⟨h1, h2⟩ j hj hk
    have := h2 j hj hk
    unfold nameB at this
    by_cases h0 : j = 0
    · subst h0; simp [h1]
    · have : iEq (j : Nat) 0 = false := by rw [iEq_f]; omega
      simp_all

theorem f115 (c : Int) : PCall Try.prog 115 [.val (.int .u8 c)] (.p (.val (.bool (letterB c)))) [] := by
  refine gcode hT hM Try.func115 rfl rfl (rv := [(2, none)]) rfl rfl rfl fun G hG => ?_
  conv => whnf
  repeat' (first
    | (refine ⟨fun _ => ?_, fun _ => ?_⟩ <;> (conv => whnf))
    | (refine And.intro (by omega) ?_; conv => whnf)
    | (refine And.intro rfl ?_; conv => whnf)
    | (exact ⟨[], _, _, _, rfl, rfl, rfl, RepLe.bl (by first | (simp_all [letterB]; done) | grind [letterB]), trivial⟩)
    | (exact ⟨[], _, _, _, rfl, rfl, rfl, RepLe.vb (by first | (simp_all [letterB]; done) | grind [letterB]), trivial⟩)
    | (intro z hz; have hy := wrap64_eq hz (by omega) (by omega); clear hz; subst hy; conv => whnf)
    | (exact ⟨i + 1, ⟨by omega, by first | (simp_all [letterB]; done) | grind [letterB]⟩, by omega, stle ⟨trivial, trivial⟩ trivial rfl⟩))

theorem f73 (s : ByteArray) : PCall Try.prog 73 [.val (.string s)] (.p (.val (.bool (nameOk s)))) [] := by
  refine gcode hT hM Try.func73 rfl rfl (rv := [(2, none)]) rfl rfl rfl fun G hG => ?_
  conv => whnf
  refine ⟨fun h => ?_, fun h => ?_⟩
  · conv => whnf
    have h : sEq s noS = true := h
    rw [size_empty] at h
    exact ⟨[], _, _, _, rfl, rfl, rfl, RepLe.bl (by simp [nameOk, iLt_not, h]), trivial⟩
  conv => whnf
  have h : sEq s noS = false := h
  rw [size_empty, iLe_f] at h
  have hl : iLt 0 (s.size : Int) = true := by rw [iLt_t]; omega
  refine ⟨fun h2 => ?_, fun h2 => ?_⟩
  · conv => whnf
    rw [iLt_not] at h2
    exact ⟨[], _, _, _, rfl, rfl, rfl, RepLe.bl (by simp at h2; simp [nameOk, h2]), trivial⟩
  conv => whnf
  rw [iLt_not] at h2
  have h2' : iLe (s.size : Int) 12 = true := by simpa using h2
  have h12 := iLe_t.1 h2'
  refine ⟨by omega, ?_⟩
  conv => whnf
  refine CallK.lent (f115 _) rfl ?_
  conv => whnf
  refine ⟨fun h3 => ?_, fun h3 => ?_⟩
  · conv => whnf
    exact ⟨[], _, _, _, rfl, rfl, rfl, RepLe.bl (by simp at h3; simp [nameOk, h3]), trivial⟩
  conv => whnf
  have h3' : letterB (bt s 0) = true := by simpa using h3
  refine AW.loop (X := Nat) (fun i => told 40 [(0, .p (.val (.string s))), (18, vI .i64 (s.size : Int)), (19, vI .i64 (i : Int))] [] []) (fun i => i ≤ s.size ∧ nameOk s = allUpto (fun i => nameB (bt s i)) (s.size - i) i) (fun i => s.size - i) (used0 hG _) 0 ⟨by omega, by simp [nameOk, hl, h2', h3']⟩ (stle ⟨RepLe.refl _, RepLe.refl _, RepLe.refl _, trivial⟩ trivial rfl) ?_
  rintro i ⟨hi, hr⟩
  refine codeK_aw hT hM _ _ _ ?_
  conv => whnf
  refine ⟨fun h4 => ?_, fun h4 => ?_⟩
  · have hlt : i < s.size := by rw [iLt_t] at h4; omega
    rw [allUpto_step _ hlt] at hr
    conv => whnf
    repeat' (first
      | (refine ⟨fun _ => ?_, fun _ => ?_⟩ <;> (conv => whnf))
      | (refine And.intro (by omega) ?_; conv => whnf)
      | (refine CallK.lent (f115 _) rfl ?_; conv => whnf)
      | (refine And.intro rfl ?_; conv => whnf)
      | (exact ⟨[], _, _, _, rfl, rfl, rfl, RepLe.bl (by first | (simp_all [nameB, digitB, iLt_not]; done) | grind [nameB, digitB, iLt_not]), trivial⟩)
      | (exact ⟨[], _, _, _, rfl, rfl, rfl, RepLe.vb (by first | (simp_all [nameB, digitB, iLt_not]; done) | grind [nameB, digitB, iLt_not]), trivial⟩)
      | (intro z hz; have hy := wrap64_eq hz (by omega) (by omega); clear hz; subst hy; conv => whnf)
      | (exact ⟨i + 1, ⟨by omega, by first | (simp_all [nameB, digitB, iLt_not]; done) | grind [nameB, digitB, iLt_not]⟩, by omega, stle ⟨RepLe.refl _, RepLe.refl _, RepLe.of rfl, trivial⟩ trivial rfl⟩))
  · have hge : i = s.size := by rw [iLt_f] at h4; omega
    subst hge
    conv => whnf
    exact ⟨[], _, _, _, rfl, rfl, rfl, RepLe.bl (by rw [hr, allUpto_end]), trivial⟩

theorem f109 (s : ByteArray) : PCall Try.prog 109 [.val (.string s)] (.p (.val (.bool (nameOk s)))) [] := by
  refine gcode hT hM Try.func109 rfl rfl (rv := [(2, none)]) rfl rfl rfl fun G hG => ?_
  conv => whnf
  refine ⟨fun h => ?_, fun h => ?_⟩
  · conv => whnf
    rw [iLt_not] at h
    have h : iLe 1 (s.size : Int) = false := by simpa using h
    have h : iLt 0 (s.size : Int) = false := by rw [iLe_f] at h; rw [iLt_f]; omega
    exact ⟨[], _, _, _, rfl, rfl, rfl, RepLe.bl (by simp [nameOk, h]), trivial⟩
  conv => whnf
  have hl : iLt 0 (s.size : Int) = true := by rw [iLt_f] at h; rw [iLt_t]; omega
  refine ⟨fun h2 => ?_, fun h2 => ?_⟩
  · conv => whnf
    rw [iLt_not] at h2
    exact ⟨[], _, _, _, rfl, rfl, rfl, RepLe.bl (by simp at h2; simp [nameOk, h2]), trivial⟩
  conv => whnf
  rw [iLt_not] at h2
  have h2' : iLe (s.size : Int) 12 = true := by simpa using h2
  have h12 := iLe_t.1 h2'
  have h0 := iLt_t.1 hl
  refine AW.loop (X := Nat) (fun i => told 50 [(0, .p (.val (.string s))), (3, vI .i64 (i : Int))] [] []) (fun i => i ≤ s.size ∧ nameOk s = allUpto (fun i => letterB (bt s i) || (digitB (bt s i) && !iEq (i : Nat) 0)) (s.size - i) i) (fun i => s.size - i) (used0 hG _) 0 ⟨by omega, by rw [Nat.sub_zero, name_all s (by omega)]; simp [nameOk, hl, h2']⟩ (stle ⟨RepLe.refl _, RepLe.refl _, trivial⟩ trivial rfl) ?_
  rintro i ⟨hi, hr⟩
  refine codeK_aw hT hM _ _ _ ?_
  conv => whnf
  refine ⟨fun h4 => ?_, fun h4 => ?_⟩
  · have hlt : i < s.size := by rw [iLt_t] at h4; omega
    rw [allUpto_step _ hlt] at hr
    conv => whnf
    repeat' (first
      | (refine ⟨fun _ => ?_, fun _ => ?_⟩ <;> (conv => whnf))
      | (refine And.intro (by omega) ?_; conv => whnf)
      | (refine And.intro rfl ?_; conv => whnf)
      | (exact ⟨[], _, _, _, rfl, rfl, rfl, RepLe.bl (by first | (simp_all [nameB, letterB, digitB]; done) | grind [nameB, letterB, digitB]), trivial⟩)
      | (exact ⟨[], _, _, _, rfl, rfl, rfl, RepLe.vb (by first | (simp_all [nameB, letterB, digitB]; done) | grind [nameB, letterB, digitB]), trivial⟩)
      | (intro z hz; have hy := wrap64_eq hz (by omega) (by omega); clear hz; subst hy; conv => whnf)
      | (exact ⟨i + 1, ⟨by omega, by first | (simp_all [nameB, letterB, digitB]; done) | grind [nameB, letterB, digitB]⟩, by omega, stle ⟨RepLe.refl _, RepLe.of rfl, trivial⟩ trivial rfl⟩))
  · have hge : i = s.size := by rw [iLt_f] at h4; omega
    subst hge
    conv => whnf
    exact ⟨[], _, _, _, rfl, rfl, rfl, RepLe.bl (by rw [hr, allUpto_end]), trivial⟩
end Go.Proofs.Ytoophkcicdbnfaa
