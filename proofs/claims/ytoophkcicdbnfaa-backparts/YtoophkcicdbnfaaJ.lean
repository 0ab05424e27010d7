/- The reference: is a field right, is a table. -/
import Derived.Test.YtoophkcicdbnfaaI
set_option linter.unusedVariables false
set_option linter.unusedSimpArgs false
namespace Go.Proofs.Ytoophkcicdbnfaa
open Go Go.Av
set_option maxRecDepth 100000

theorem iEq_ne {a b : Int} (c : Int) (h : iEq a b = true) (hne : b ≠ c) : iEq a c = false := by rw [iEq_t] at h; rw [iEq_f]; omega
theorem allUpto_congr {p q : Nat → Bool} : ∀ (k i : Nat), (∀ j, i ≤ j → j < i + k → p j = q j) → allUpto p k i = allUpto q k i
  | 0, i, _ => rfl
  | k + 1, i, h => by
    show (p i && allUpto p k (i + 1)) = (q i && allUpto q k (i + 1))
    rw [h i (Nat.le_refl _) (by omega), allUpto_congr k (i + 1) fun j h1 h2 => h j (by omega) (by omega)]
theorem has_nil (l : List ByteArray) (v : ByteArray) (h : hasB l v = true) : 1 ≤ l.length := by
  cases l with
  | nil => have h : iLe 0 (posOf none) = true := h; rw [posOf_none] at h; cases h
  | cons a l => simp
def firstIn (l : List ByteArray) (i : Nat) : Bool := nameOk (l.getD i noS) && !hasB (l.take i) (l.getD i noS)
theorem cases_ref (f : SField) : casesOk f = (allUpto (firstIn f.cases) f.cases.length 0 && (iLt f.cases.length 7 && hasB f.cases f.dflt)) := by
  unfold casesOk
  rw [show iLe 0 (idxOf f.cases f.dflt) = hasB f.cases f.dflt from rfl]
  rw [allUpto_congr (q := firstIn f.cases) f.cases.length 0 fun j h1 h2 => by rw [idx_first f.cases (by omega)]; rfl]
  have e : iLe (f.cases.length : Int) 6 = iLt (f.cases.length : Int) 7 := by rw [Bool.eq_iff_iff, iLe_t, iLt_t]; omega
  rw [e]
  cases h : hasB f.cases f.dflt with
  | false => simp
  | true =>
    have := has_nil _ _ h
    rw [show iLe 1 (f.cases.length : Int) = true by rw [iLe_t]; omega]
    simp [Bool.and_comm]

theorem takeStrs (l : List ByteArray) (i : Nat) (h : i ≤ l.length) : PLe (.rs 1 (i - 0) fun a b => .val (.string (l.getD (0 + a) noS))) (encStrs (l.take i)) := by
  refine PLe.rows (by simp; omega) fun a b ha hb => ?_
  rw [take_getD l (show a < i by omega), Nat.zero_add]
theorem take_pair (l : List SPair) {i m : Nat} (h : m < i) : (l.take i).getD m noPair = l.getD m noPair := by
  simp [List.getD_eq_getElem?_getD, List.getElem?_take, h]
theorem takePairs (l : List SPair) (i : Nat) (h : i ≤ l.length) : PLe (.rs 2 (i - 0) fun a b => at_ .any (pairCells (l.getD (0 + a) noPair)) b) (encPairs (l.take i)) := by
  refine PLe.rows (by simp; omega) fun a b ha hb => ?_
  rw [take_pair l (show a < i by omega), Nat.zero_add]

theorem f85 (f : SField) (hf : okField f) : PCall Try.prog 85 [encField f] (.p (.val (.bool (fieldOk f)))) [] := by
  have hl : f.cases.length ≤ 9223372036854775807 := hf
  refine gcode hT hM Try.func85 rfl rfl (rv := [(2, none)]) rfl rfl rfl fun G hG => ?_
  conv => whnf
  refine CallK.lent (f106 f.place) rfl ?_
  conv => whnf
  refine ⟨fun h1 => ?_, fun h1 => ?_⟩
  · conv => whnf
    exact ⟨[], _, _, _, rfl, rfl, rfl, RepLe.bl (by simp_all [fieldOk]), trivial⟩
  conv => whnf
  have h1 : placeOk f.place = true := by simpa using h1
  have e1 : iLt 0 f.worth = iLe 1 f.worth := by rw [Bool.eq_iff_iff, iLe_t, iLt_t]; omega
  have e2 : iLt f.worth 1048577 = iLe f.worth 1048576 := by rw [Bool.eq_iff_iff, iLe_t, iLt_t]; omega
  have e3 : iEq (f.cases.length : Int) 0 = !iLt 0 (f.cases.length : Int) := by rw [iLt_not, Bool.not_not, Bool.eq_iff_iff, iLe_t, iEq_t]; omega
  have e4 : iLt (f.dflt.size : Int) 41 = textOk f.dflt := by unfold textOk; rw [Bool.eq_iff_iff, iLe_t, iLt_t]; omega
  refine ⟨fun k1 => ?_, fun k1 => ?_⟩
  · have k3 : iEq f.kind 3 = false := by rw [iEq_t] at k1; rw [iEq_f]; omega
    conv => whnf
    repeat' (first
      | (refine ⟨fun _ => ?_, fun _ => ?_⟩ <;> (conv => whnf))
      | (refine And.intro rfl ?_; conv => whnf)
      | (exact ⟨[], _, _, _, rfl, rfl, rfl, RepLe.bl (by first | (simp_all [fieldOk, noS]; done) | grind [fieldOk, noS]), trivial⟩)
      | (exact ⟨[], _, _, _, rfl, rfl, rfl, RepLe.vb (by first | (simp_all [fieldOk, noS]; done) | grind [fieldOk, noS]), trivial⟩))
  conv => whnf
  refine ⟨fun w => ?_, fun w => ?_⟩
  · conv => whnf
    exact ⟨[], _, _, _, rfl, rfl, rfl, RepLe.bl (by simp_all [fieldOk]), trivial⟩
  conv => whnf
  have w : iEq f.worth 0 = true := by simpa using w
  refine ⟨fun k3 => ?_, fun k3 => ?_⟩
  · have hfc : fieldOk f = casesOk f := by have k2 := iEq_ne 2 k3 (by decide); simp_all [fieldOk]
    clear e1 e2 e3 e4 w k1 h1
    conv => whnf
    refine AW.loop (X := Nat) (fun i => told 96 [(1, .pt 0 0), (3, vI .i64 (i : Int))] [(0, some (.box 30 ((fieldCells f).map .p)))] [0]) (fun i => i ≤ f.cases.length ∧ fieldOk f = (allUpto (firstIn f.cases) (f.cases.length - i) i && (iLt f.cases.length 7 && hasB f.cases f.dflt))) (fun i => f.cases.length - i) (used0 hG _) 0 ⟨by omega, by rw [hfc, cases_ref]; rfl⟩ (stle ⟨RepLe.refl _, RepLe.refl _, trivial⟩ ⟨⟨_, rfl, BlkLe.refl _⟩, trivial⟩ rfl) ?_
    rintro i ⟨hi, hr⟩
    refine codeK_aw hT hM _ _ _ ?_
    conv => whnf
    refine ⟨fun h4 => ?_, fun h4 => ?_⟩
    · have hlt : i < f.cases.length := by rw [iLt_t] at h4; omega
      rw [allUpto_step _ hlt] at hr
      conv => whnf
      refine ⟨by omega, ?_⟩
      conv => whnf
      refine CallK.lent (f109 _) rfl ?_
      conv => whnf
      refine ⟨fun h5 => ?_, fun h5 => ?_⟩
      · have h5 : nameOk (f.cases.getD i noS) = false := by simpa using h5
        conv => whnf
        refine ⟨rfl, ?_⟩
        conv => whnf
        exact ⟨[], _, _, _, rfl, rfl, rfl, RepLe.bl (by rw [hr, firstIn, h5]; simp), trivial⟩
      have h5 : nameOk (f.cases.getD i noS) = true := by simpa using h5
      conv => whnf
      refine ⟨by omega, ?_⟩
      conv => whnf
      refine ⟨by omega, ?_⟩
      conv => whnf
      refine CallK.lent (GCall.arg1 (f124 (f.cases.take i) _ (by rw [List.length_take]; exact Nat.le_trans (Nat.min_le_right _ _) hf)) ?hh) rfl ?_
      case hh => exact PLe.rep (takeStrs f.cases i hi)
      conv => whnf
      refine ⟨rfl, ?_⟩
      conv => whnf
      refine ⟨fun h6 => ?_, fun h6 => ?_⟩
      · have h6 : hasB (f.cases.take i) (f.cases.getD i noS) = true := h6
        conv => whnf
        exact ⟨[], _, _, _, rfl, rfl, rfl, RepLe.bl (by rw [hr, firstIn, h5, h6]; simp), trivial⟩
      have h6 : hasB (f.cases.take i) (f.cases.getD i noS) = false := h6
      conv => whnf
      intro z hz
      have hy := wrap64_eq hz (by omega) (by omega)
      clear hz
      subst hy
      conv => whnf
      exact ⟨i + 1, ⟨by omega, by rw [hr, firstIn, h5, h6]; simp⟩, by omega, stle ⟨RepLe.refl _, RepLe.of rfl, trivial⟩ ⟨⟨_, rfl, BlkLe.refl _⟩, trivial⟩ rfl⟩
    · have hge : i = f.cases.length := by rw [iLt_f] at h4; omega
      subst hge
      rw [allUpto_end, Bool.true_and] at hr
      conv => whnf
      repeat' (first
        | (refine ⟨fun _ => ?_, fun _ => ?_⟩ <;> (conv => whnf))
        | (refine CallK.lent (f124 f.cases f.dflt hf) rfl ?_; conv => whnf)
        | (refine And.intro rfl ?_; conv => whnf)
        | (exact ⟨[], _, _, _, rfl, rfl, rfl, RepLe.bl (by first | (simp_all []; done) | grind []), trivial⟩)
        | (exact ⟨[], _, _, _, rfl, rfl, rfl, RepLe.vb (by first | (simp_all []; done) | grind []), trivial⟩))
  conv => whnf
  refine ⟨fun n0 => ?_, fun n0 => ?_⟩
  · have k1 : iEq f.kind 1 = false := k1
    have k3 : iEq f.kind 3 = false := k3
    conv => whnf
    exact ⟨[], _, _, _, rfl, rfl, rfl, RepLe.bl (by simp_all [fieldOk]), trivial⟩
  have x24 : iEq f.kind 2 = true → iEq f.kind 4 = false := fun h => iEq_ne 4 h (by decide)
  conv => whnf
  repeat' (first
    | (refine ⟨fun _ => ?_, fun _ => ?_⟩ <;> (conv => whnf))
    | (refine And.intro rfl ?_; conv => whnf)
    | (exact ⟨[], _, _, _, rfl, rfl, rfl, RepLe.bl (by first | (simp_all [fieldOk, noS]; done) | grind [fieldOk, noS]), trivial⟩)
    | (exact ⟨[], _, _, _, rfl, rfl, rfl, RepLe.vb (by first | (simp_all [fieldOk, noS]; done) | grind [fieldOk, noS]), trivial⟩))
end Go.Proofs.Ytoophkcicdbnfaa
