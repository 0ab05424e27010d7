/- The reference: is a table right. -/
import Derived.Test.YtoophkcicdbnfaaJ
set_option linter.unusedVariables false
set_option linter.unusedSimpArgs false
namespace Go.Proofs.Ytoophkcicdbnfaa
open Go Go.Av
set_option maxRecDepth 100000

theorem findUpto_congr {p q : Nat → Bool} : ∀ (k i : Nat), (∀ j, i ≤ j → j < i + k → p j = q j) → findUpto p k i = findUpto q k i
  | 0, i, _ => rfl
  | k + 1, i, h => by
    show (match p i with | true => some i | false => findUpto p k (i + 1)) = (match q i with | true => some i | false => findUpto q k (i + 1))
    rw [h i (Nat.le_refl _) (by omega), findUpto_congr k (i + 1) fun j h1 h2 => h j (by omega) (by omega)]
theorem case_has (m : List SPair) (s : ByteArray) : (caseOf m s).2 = hasB (fromsOf m) s := by
  unfold caseOf hasB idxOf
  rw [froms_len, findUpto_congr (q := fun i => sEq s ((fromsOf m).getD i noS)) m.length 0 fun j h1 h2 => by rw [froms_get m j (by omega), sEq_comm]]
  cases findUpto (fun i => sEq s ((fromsOf m).getD i noS)) m.length 0 with
  | none => exact posOf_none.symm
  | some j => exact (posOf_has j).symm
def pairFirst (l m : List SPair) (i : Nat) : Bool := nameOk (l.getD i noPair).frm && (!hasB (fromsOf (l.take i)) (l.getD i noPair).frm && hasB (fromsOf m) (l.getD i noPair).tto)
theorem forth_ref (l m : List SPair) : forthOk l m = (iLe 1 l.length && (iLe l.length 6 && allUpto (pairFirst l m) l.length 0)) := by
  unfold forthOk
  rw [allUpto_congr (q := pairFirst l m) l.length 0 fun j h1 h2 => by
    have e := idx_first (fromsOf l) (i := j) (by rw [froms_len]; omega)
    rw [froms_get l j (by omega)] at e
    rw [e, case_has, pairFirst, show fromsOf (l.take j) = (fromsOf l).take j from by simp [fromsOf, List.map_take]]
    cases hasB (fromsOf m) (l.getD j noPair).tto <;> cases nameOk (l.getD j noPair).frm <;> cases hasB ((fromsOf l).take j) (l.getD j noPair).frm <;> rfl]

theorem f108 (l m : List SPair) (hl : l.length ≤ 4398046511104) (hm : m.length ≤ 4398046511104) : PCall Try.prog 108 [encPairs l, encPairs m] (.p (.val (.bool (forthOk l m)))) [] := by
  have k1 : iEq (l.length : Int) 0 = !iLe 1 (l.length : Int) := by rw [Bool.eq_iff_iff, Bool.not_eq_true', iLe_f, iEq_t]; omega
  have k2 : iLt 6 (l.length : Int) = !iLe (l.length : Int) 6 := iLt_not _ _
  have hfr : ∀ (x : List SPair), x.length ≤ 4398046511104 → (fromsOf x).length ≤ maxLen := fun x hx => by rw [froms_len]; exact Nat.le_trans hx (by decide)
  refine gcode hT hM Try.func108 rfl rfl (rv := [(4, none)]) rfl rfl rfl fun G hG => ?_
  conv => whnf
  refine ⟨fun h => ?_, fun h => ?_⟩
  · conv => whnf
    exact ⟨[], _, _, _, rfl, rfl, rfl, RepLe.bl (by simp_all [forthOk]), trivial⟩
  conv => whnf
  refine ⟨fun h2 => ?_, fun h2 => ?_⟩
  · conv => whnf
    exact ⟨[], _, _, _, rfl, rfl, rfl, RepLe.bl (by simp_all [forthOk]), trivial⟩
  conv => whnf
  refine AW.loop (X := Nat) (fun i => told 50 [(0, .p (encPairs l)), (1, .p (encPairs m)), (5, vI .i64 (i : Int))] [] []) (fun i => i ≤ l.length ∧ forthOk l m = allUpto (pairFirst l m) (l.length - i) i) (fun i => l.length - i) (used0 hG _) 0 ⟨by omega, by rw [forth_ref]; simp_all⟩ (stle ⟨RepLe.refl _, RepLe.refl _, RepLe.refl _, trivial⟩ trivial rfl) ?_
  rintro i ⟨hi, hr⟩
  refine codeK_aw hT hM _ _ _ ?_
  conv => whnf
  refine ⟨fun h4 => ?_, fun h4 => ?_⟩
  · have hlt : i < l.length := by rw [iLt_t] at h4; omega
    rw [allUpto_step _ hlt] at hr
    have htk : (l.take i).length ≤ 4398046511104 := by rw [List.length_take]; exact Nat.le_trans (Nat.min_le_right _ _) hl
    conv => whnf
    refine ⟨by omega, ?_⟩
    conv => whnf
    refine CallK.lent (f109 _) rfl ?_
    conv => whnf
    refine ⟨fun h5 => ?_, fun h5 => ?_⟩
    · have h5 : nameOk (l.getD i noPair).frm = false := by simpa using h5
      conv => whnf
      refine ⟨rfl, ?_⟩
      conv => whnf
      exact ⟨[], _, _, _, rfl, rfl, rfl, RepLe.bl (by rw [hr, pairFirst, h5]; simp), trivial⟩
    have h5 : nameOk (l.getD i noPair).frm = true := by simpa using h5
    conv => whnf
    refine ⟨by omega, ?_⟩
    conv => whnf
    refine CallK.go [] (GCall.arg1 (f103 (l.take i) htk) ?hh) rfl rfl rfl rfl rfl ?_
    case hh => exact PLe.rep (takePairs l i hi)
    conv => whnf
    refine ⟨by omega, ?_⟩
    conv => whnf
    refine CallK.lent (f124 (fromsOf (l.take i)) _ (hfr _ htk)) rfl ?_
    conv => whnf
    refine ⟨fun h6 => ?_, fun h6 => ?_⟩
    · have h6 : hasB (fromsOf (l.take i)) (l.getD i noPair).frm = true := h6
      conv => whnf
      refine ⟨rfl, ?_⟩
      conv => whnf
      exact ⟨[], _, _, _, rfl, rfl, rfl, RepLe.bl (by rw [hr, pairFirst, h5, h6]; simp), trivial⟩
    have h6 : hasB (fromsOf (l.take i)) (l.getD i noPair).frm = false := h6
    conv => whnf
    refine CallK.go [] (f103 m hm) rfl rfl rfl rfl rfl ?_
    conv => whnf
    refine ⟨by omega, ?_⟩
    conv => whnf
    refine CallK.lent (f124 (fromsOf m) _ (hfr _ hm)) rfl ?_
    conv => whnf
    refine ⟨rfl, ?_⟩
    conv => whnf
    refine ⟨fun h7 => ?_, fun h7 => ?_⟩
    · have h7 : hasB (fromsOf m) (l.getD i noPair).tto = false := by simpa using h7
      conv => whnf
      exact ⟨[], _, _, _, rfl, rfl, rfl, RepLe.bl (by rw [hr, pairFirst, h5, h6, h7]; simp), trivial⟩
    have h7 : hasB (fromsOf m) (l.getD i noPair).tto = true := by simpa using h7
    conv => whnf
    intro z hz
    have hy := wrap64_eq hz (by omega) (by omega)
    clear hz
    subst hy
    conv => whnf
    exact ⟨i + 1, ⟨by omega, by rw [hr, pairFirst, h5, h6, h7]; simp⟩, by omega, stle ⟨RepLe.refl _, RepLe.refl _, RepLe.of rfl, trivial⟩ trivial rfl⟩
  · have hge : i = l.length := by rw [iLt_f] at h4; omega
    subst hge
    conv => whnf
    exact ⟨[], _, _, _, rfl, rfl, rfl, RepLe.bl (by rw [hr, allUpto_end]), trivial⟩
end Go.Proofs.Ytoophkcicdbnfaa
