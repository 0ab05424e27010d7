import Derived.Test.YtalpbdabeffnlaaGreatJoI
/- The reference: is a field right, is a table. -/
set_option linter.unusedVariables false
set_option linter.unusedSimpArgs false
namespace Go.Proofs.YtalpbdabeffnlaaGreat
open Go Go.Av
set_option maxRecDepth 100000

theorem iEq_ne {a b : Int} (c : Int) (h : iEq a b = true) (hne : b ≠ c) : iEq a c = false := by rw [iEq_t] at h; rw [iEq_f]; omega
theorem allUpto_congr {p q : Nat → Bool} : ∀ (k i : Nat), (∀ j, i ≤ j → j < i + k → p j = q j) → allUpto p k i = allUpto q k i
  | 0, i, _ => rfl
  | k + 1, i, h => by
    show (p i && allUpto p k (i + 1)) = (q i && allUpto q k (i + 1))
    rw [h i (Nat.le_refl _) (by omega), allUpto_congr k (i + 1) fun j h1 h2 => h j (by omega) (by omega)]
theorem has_nil (l : List ByteArray) (v : ByteArray) (h : hasB l v = true) : 1 ≤ l.length := by
  cases l with
  | nil => have h : iLe 0 (posOf none) = true := h; rw [posOf_none] at h; cases h
  | cons a l => simp
def firstIn (l : List ByteArray) (i : Nat) : Bool := nameOk (l.getD i noS) && !hasB (l.take i) (l.getD i noS)
theorem cases_ref (f : SField) : casesOk f = (allUpto (firstIn f.cases) f.cases.length 0 && (iLt f.cases.length 7 && hasB f.cases f.dflt)) := by
  unfold casesOk
  rw [show iLe 0 (idxOf f.cases f.dflt) = hasB f.cases f.dflt from rfl]
  rw [allUpto_congr (q := firstIn f.cases) f.cases.length 0 fun j h1 h2 => by rw [idx_first f.cases (by omega)]; rfl]
  have e : iLe (f.cases.length : Int) 6 = iLt (f.cases.length : Int) 7 := by rw [Bool.eq_iff_iff, iLe_t, iLt_t]; omega
  rw [e]
  cases h : hasB f.cases f.dflt with
  | false => simp
  | true =>
    have := has_nil _ _ h
    rw [show iLe 1 (f.cases.length : Int) = true by rw [iLe_t]; omega]
    simp [Bool.and_comm]

theorem takeStrs (l : List ByteArray) (i : Nat) (h : i ≤ l.length) : PLe (.rs 1 (i - 0) fun a b => .val (.string (l.getD (0 + a) noS))) (encStrs (l.take i)) := by
  refine PLe.rows (by simp; omega) fun a b ha hb => ?_
  rw [take_getD l (show a < i by omega), Nat.zero_add]
theorem take_pair (l : List SPair) {i m : Nat} (h : m < i) : (l.take i).getD m noPair = l.getD m noPair := by
  simp [List.getD_eq_getElem?_getD, List.getElem?_take, h]
theorem takePairs (l : List SPair) (i : Nat) (h : i ≤ l.length) : PLe (.rs 2 (i - 0) fun a b => at_ .any (pairCells (l.getD (0 + a) noPair)) b) (encPairs (l.take i)) := by
  refine PLe.rows (by simp; omega) fun a b ha hb => ?_
  rw [take_pair l (show a < i by omega), Nat.zero_add]

theorem f85 (f : SField) (hf : okField f) : PCall Tryz.prog 82 [encField f] (.p (.val (.bool (fieldOk f)))) [] := by
  have hl : f.cases.length ≤ 9223372036854775807 := hf
  refine gcode hT hM Tryz.func82 rfl rfl (rv := [(2, none)]) rfl rfl rfl fun G hG => ?_
  conv => whnf
  refine CallK.lent (f106 f.place) rfl ?_
  conv => whnf
  refine ⟨fun h1 => ?_, fun h1 => ?_⟩
  · conv => whnf
    exact ⟨[], _, _, _, rfl, rfl, rfl, RepLe.bl (by simp_all [fieldOk]), trivial⟩
  conv => whnf
  have h1 : placeOk f.place = true := by simpa using h1
  have e1 : iLt 0 f.worth = iLe 1 f.worth := by rw [Bool.eq_iff_iff, iLe_t, iLt_t]; omega
  have e2 : iLt f.worth 1048577 = iLe f.worth 1048576 := by rw [Bool.eq_iff_iff, iLe_t, iLt_t]; omega
  have e3 : iEq (f.cases.length : Int) 0 = !iLt 0 (f.cases.length : Int) := by rw [iLt_not, Bool.not_not, Bool.eq_iff_iff, iLe_t, iEq_t]; omega
  have e4 : iLt (f.dflt.size : Int) 41 = textOk f.dflt := by unfold textOk; rw [Bool.eq_iff_iff, iLe_t, iLt_t]; omega
  refine ⟨fun k1 => ?_, fun k1 => ?_⟩
  · have k3 : iEq f.kind 3 = false := by rw [iEq_t] at k1; rw [iEq_f]; omega
    conv => whnf
    repeat' (first
      | (refine ⟨fun _ => ?_, fun _ => ?_⟩ <;> (conv => whnf))
      | (refine And.intro rfl ?_; conv => whnf)
      | (exact ⟨[], _, _, _, rfl, rfl, rfl, RepLe.bl (by first | (simp_all [fieldOk, noS]; done) | grind [fieldOk, noS]), trivial⟩)
      | (exact ⟨[], _, _, _, rfl, rfl, rfl, RepLe.vb (by first | (simp_all [fieldOk, noS]; done) | grind [fieldOk, noS]), trivial⟩))
  conv => whnf
  refine ⟨fun w => ?_, fun w => ?_⟩
  · conv => whnf
    exact ⟨[], _, _, _, rfl, rfl, rfl, RepLe.bl (by simp_all [fieldOk]), trivial⟩
  conv => whnf
  have w : iEq f.worth 0 = true := by simpa using w
  refine ⟨fun k3 => ?_, fun k3 => ?_⟩
  · have hfc : fieldOk f = casesOk f := by have k2 := iEq_ne 2 k3 (by decide); simp_all [fieldOk]
    clear e1 e2 e3 e4 w k1 h1
    conv => whnf
    refine AW.loop (X := Nat) (fun i => told 96 [(1, .pt 0 0), (3, vI .i64 (i : Int))] [(0, some (.box 39 ((fieldCells f).map .p)))] [0]) (fun i => i ≤ f.cases.length ∧ fieldOk f = (allUpto (firstIn f.cases) (f.cases.length - i) i && (iLt f.cases.length 7 && hasB f.cases f.dflt))) (fun i => f.cases.length - i) (used0 hG _) 0 ⟨by omega, by rw [hfc, cases_ref]; rfl⟩ (stle ⟨RepLe.refl _, RepLe.refl _, trivial⟩ ⟨⟨_, rfl, BlkLe.refl _⟩, trivial⟩ rfl) ?_
    rintro i ⟨hi, hr⟩
    refine codeK_aw hT hM _ _ _ ?_
    conv => whnf
    refine ⟨fun h4 => ?_, fun h4 => ?_⟩
    · have hlt : i < f.cases.length := by rw [iLt_t] at h4; omega
      rw [allUpto_step _ hlt] at hr
      conv => whnf
      refine ⟨by omega, ?_⟩
      conv => whnf
      refine CallK.lent (f109 _) rfl ?_
      conv => whnf
      refine ⟨fun h5 => ?_, fun h5 => ?_⟩
      · have h5 : nameOk (f.cases.getD i noS) = false := by simpa using h5
        conv => whnf
        refine ⟨rfl, ?_⟩
        conv => whnf
        exact ⟨[], _, _, _, rfl, rfl, rfl, RepLe.bl (by rw [hr, firstIn, h5]; simp), trivial⟩
      have h5 : nameOk (f.cases.getD i noS) = true := by simpa using h5
      conv => whnf
      refine ⟨by omega, ?_⟩
      conv => whnf
      refine ⟨by omega, ?_⟩
      conv => whnf
      refine CallK.lent (GCall.arg1 (f124 (f.cases.take i) _ (by rw [List.length_take]; exact Nat.le_trans (Nat.min_le_right _ _) hf)) ?hh) rfl ?_
      case hh => exact PLe.rep (takeStrs f.cases i hi)
      conv => whnf
      refine ⟨rfl, ?_⟩
      conv => whnf
      refine ⟨fun h6 => ?_, fun h6 => ?_⟩
      · have h6 : hasB (f.cases.take i) (f.cases.getD i noS) = true := h6
        conv => whnf
        exact ⟨[], _, _, _, rfl, rfl, rfl, RepLe.bl (by rw [hr, firstIn, h5, h6]; simp), trivial⟩
      have h6 : hasB (f.cases.take i) (f.cases.getD i noS) = false := h6
      conv => whnf
      intro z hz
      have hy := wrap64_eq hz (by omega) (by omega)
      clear hz
      subst hy
      conv => whnf
      exact ⟨i + 1, ⟨by omega, by rw [hr, firstIn, h5, h6]; simp⟩, by omega, stle ⟨RepLe.refl _, RepLe.of rfl, trivial⟩ ⟨⟨_, rfl, BlkLe.refl _⟩, trivial⟩ rfl⟩
    · have hge : i = f.cases.length := by rw [iLt_f] at h4; omega
      subst hge
      rw [allUpto_end, Bool.true_and] at hr
      conv => whnf
      repeat' (first
        | (refine ⟨fun _ => ?_, fun _ => ?_⟩ <;> (conv => whnf))
        | (refine CallK.lent (f124 f.cases f.dflt hf) rfl ?_; conv => whnf)
        | (refine And.intro rfl ?_; conv => whnf)
        | (exact ⟨[], _, _, _, rfl, rfl, rfl, RepLe.bl (by first | (simp_all []; done) | grind []), trivial⟩)
        | (exact ⟨[], _, _, _, rfl, rfl, rfl, RepLe.vb (by first | (simp_all []; done) | grind []), trivial⟩))
  conv => whnf
  refine ⟨fun n0 => ?_, fun n0 => ?_⟩
  · have k1 : iEq f.kind 1 = false := k1
    have k3 : iEq f.kind 3 = false := k3
    conv => whnf
    exact ⟨[], _, _, _, rfl, rfl, rfl, RepLe.bl (by simp_all [fieldOk]), trivial⟩
  have x24 : iEq f.kind 2 = true → iEq f.kind 4 = false := fun h => iEq_ne 4 h (by decide)
  conv => whnf
  repeat' (first
    | (refine ⟨fun _ => ?_, fun _ => ?_⟩ <;> (conv => whnf))
    | (refine And.intro rfl ?_; conv => whnf)
    | (exact ⟨[], _, _, _, rfl, rfl, rfl, RepLe.bl (by first | (simp_all [fieldOk, noS]; done) | grind [fieldOk, noS]), trivial⟩)
    | (exact ⟨[], _, _, _, rfl, rfl, rfl, RepLe.vb (by first | (simp_all [fieldOk, noS]; done) | grind [fieldOk, noS]), trivial⟩))
end Go.Proofs.YtalpbdabeffnlaaGreat

/- The reference: is a table right. -/
set_option linter.unusedVariables false
set_option linter.unusedSimpArgs false
namespace Go.Proofs.YtalpbdabeffnlaaGreat
open Go Go.Av
set_option maxRecDepth 100000

theorem findUpto_congr {p q : Nat → Bool} : ∀ (k i : Nat), (∀ j, i ≤ j → j < i + k → p j = q j) → findUpto p k i = findUpto q k i
  | 0, i, _ => rfl
  | k + 1, i, h => by
    show (match p i with | true => some i | false => findUpto p k (i + 1)) = (match q i with | true => some i | false => findUpto q k (i + 1))
    rw [h i (Nat.le_refl _) (by omega), findUpto_congr k (i + 1) fun j h1 h2 => h j (by omega) (by omega)]
theorem case_has (m : List SPair) (s : ByteArray) : (caseOf m s).2 = hasB (fromsOf m) s := by
  unfold caseOf hasB idxOf
  rw [froms_len, findUpto_congr (q := fun i => sEq s ((fromsOf m).getD i noS)) m.length 0 fun j h1 h2 => by rw [froms_get m j (by omega), sEq_comm]]
  cases findUpto (fun i => sEq s ((fromsOf m).getD i noS)) m.length 0 with
  | none => exact posOf_none.symm
  | some j => exact (posOf_has j).symm
def pairFirst (l m : List SPair) (i : Nat) : Bool := nameOk (l.getD i noPair).frm && (!hasB (fromsOf (l.take i)) (l.getD i noPair).frm && hasB (fromsOf m) (l.getD i noPair).tto)
theorem forth_ref (l m : List SPair) : forthOk l m = (iLe 1 l.length && (iLe l.length 6 && allUpto (pairFirst l m) l.length 0)) := by
  unfold forthOk
  rw [allUpto_congr (q := pairFirst l m) l.length 0 fun j h1 h2 => by
    have e := idx_first (fromsOf l) (i := j) (by rw [froms_len]; omega)
    rw [froms_get l j (by omega)] at e
    rw [e, case_has, pairFirst, show fromsOf (l.take j) = (fromsOf l).take j from by simp [fromsOf, List.map_take]]
    cases hasB (fromsOf m) (l.getD j noPair).tto <;> cases nameOk (l.getD j noPair).frm <;> cases hasB ((fromsOf l).take j) (l.getD j noPair).frm <;> rfl]

theorem f108 (l m : List SPair) (hl : l.length ≤ 4398046511104) (hm : m.length ≤ 4398046511104) : PCall Tryz.prog 95 [encPairs l, encPairs m] (.p (.val (.bool (forthOk l m)))) [] := by
  have k1 : iEq (l.length : Int) 0 = !iLe 1 (l.length : Int) := by rw [Bool.eq_iff_iff, Bool.not_eq_true', iLe_f, iEq_t]; omega
  have k2 : iLt 6 (l.length : Int) = !iLe (l.length : Int) 6 := iLt_not _ _
  have hfr : ∀ (x : List SPair), x.length ≤ 4398046511104 → (fromsOf x).length ≤ maxLen := fun x hx => by rw [froms_len]; exact Nat.le_trans hx (by decide)
  refine gcode hT hM Tryz.func95 rfl rfl (rv := [(4, none)]) rfl rfl rfl fun G hG => ?_
  conv => whnf
  refine ⟨fun h => ?_, fun h => ?_⟩
  · conv => whnf
    exact ⟨[], _, _, _, rfl, rfl, rfl, RepLe.bl (by simp_all [forthOk]), trivial⟩
  conv => whnf
  refine ⟨fun h2 => ?_, fun h2 => ?_⟩
  · conv => whnf
    exact ⟨[], _, _, _, rfl, rfl, rfl, RepLe.bl (by simp_all [forthOk]), trivial⟩
  conv => whnf
  refine AW.loop (X := Nat) (fun i => told 50 [(0, .p (encPairs l)), (1, .p (encPairs m)), (5, vI .i64 (i : Int))] [] []) (fun i => i ≤ l.length ∧ forthOk l m = allUpto (pairFirst l m) (l.length - i) i) (fun i => l.length - i) (used0 hG _) 0 ⟨by omega, by rw [forth_ref]; simp_all⟩ (stle ⟨RepLe.refl _, RepLe.refl _, RepLe.refl _, trivial⟩ trivial rfl) ?_
  rintro i ⟨hi, hr⟩
  refine codeK_aw hT hM _ _ _ ?_
  conv => whnf
  refine ⟨fun h4 => ?_, fun h4 => ?_⟩
  · have hlt : i < l.length := by rw [iLt_t] at h4; omega
    rw [allUpto_step _ hlt] at hr
    have htk : (l.take i).length ≤ 4398046511104 := by rw [List.length_take]; exact Nat.le_trans (Nat.min_le_right _ _) hl
    conv => whnf
    refine ⟨by omega, ?_⟩
    conv => whnf
    refine CallK.lent (f109 _) rfl ?_
    conv => whnf
    refine ⟨fun h5 => ?_, fun h5 => ?_⟩
    · have h5 : nameOk (l.getD i noPair).frm = false := by simpa using h5
      conv => whnf
      refine ⟨rfl, ?_⟩
      conv => whnf
      exact ⟨[], _, _, _, rfl, rfl, rfl, RepLe.bl (by rw [hr, pairFirst, h5]; simp), trivial⟩
    have h5 : nameOk (l.getD i noPair).frm = true := by simpa using h5
    conv => whnf
    refine ⟨by omega, ?_⟩
    conv => whnf
    refine CallK.go [] (GCall.arg1 (f103 (l.take i) htk) ?hh) rfl rfl rfl rfl rfl ?_
    case hh => exact PLe.rep (takePairs l i hi)
    conv => whnf
    refine ⟨by omega, ?_⟩
    conv => whnf
    refine CallK.lent (f124 (fromsOf (l.take i)) _ (hfr _ htk)) rfl ?_
    conv => whnf
    refine ⟨fun h6 => ?_, fun h6 => ?_⟩
    · have h6 : hasB (fromsOf (l.take i)) (l.getD i noPair).frm = true := h6
      conv => whnf
      refine ⟨rfl, ?_⟩
      conv => whnf
      exact ⟨[], _, _, _, rfl, rfl, rfl, RepLe.bl (by rw [hr, pairFirst, h5, h6]; simp), trivial⟩
    have h6 : hasB (fromsOf (l.take i)) (l.getD i noPair).frm = false := h6
    conv => whnf
    refine CallK.go [] (f103 m hm) rfl rfl rfl rfl rfl ?_
    conv => whnf
    refine ⟨by omega, ?_⟩
    conv => whnf
    refine CallK.lent (f124 (fromsOf m) _ (hfr _ hm)) rfl ?_
    conv => whnf
    refine ⟨rfl, ?_⟩
    conv => whnf
    refine ⟨fun h7 => ?_, fun h7 => ?_⟩
    · have h7 : hasB (fromsOf m) (l.getD i noPair).tto = false := by simpa using h7
      conv => whnf
      exact ⟨[], _, _, _, rfl, rfl, rfl, RepLe.bl (by rw [hr, pairFirst, h5, h6, h7]; simp), trivial⟩
    have h7 : hasB (fromsOf m) (l.getD i noPair).tto = true := by simpa using h7
    conv => whnf
    intro z hz
    have hy := wrap64_eq hz (by omega) (by omega)
    clear hz
    subst hy
    conv => whnf
    exact ⟨i + 1, ⟨by omega, by rw [hr, pairFirst, h5, h6, h7]; simp⟩, by omega, stle ⟨RepLe.refl _, RepLe.refl _, RepLe.of rfl, trivial⟩ trivial rfl⟩
  · have hge : i = l.length := by rw [iLt_f] at h4; omega
    subst hge
    conv => whnf
    exact ⟨[], _, _, _, rfl, rfl, rfl, RepLe.bl (by rw [hr, allUpto_end]), trivial⟩
end Go.Proofs.YtalpbdabeffnlaaGreat

/- The reference: is a lens right. -/
set_option linter.unusedVariables false
set_option linter.unusedSimpArgs false
namespace Go.Proofs.YtalpbdabeffnlaaGreat
open Go Go.Av
set_option maxRecDepth 100000

def bare2 (x : SLens) : Bool := (iEq x.place.scope 0 && (sEq x.place.group noS && sEq x.place.name noS)) && (sEq x.name noS && (sEq x.other noS && (iEq x.factor 0 && (!tablesB x && fieldOk x.field))))
def conv2 (x : SLens) : Bool := iEq x.factor 0 && (forthOk x.forth x.back && (forthOk x.back x.forth && ((caseOf x.forth x.name).2 && ((caseOf x.back x.other).2 && (sEq (caseOf x.forth x.name).1 x.other && sEq (caseOf x.back x.other).1 x.name)))))
def kind2 (x : SLens) : Bool :=
  if tablesB x then false
  else if iEq x.kind 6 || iEq x.kind 9 then nameOk x.name && (nameOk x.other && (!sEq x.name x.other && (iLt 1 x.factor && iLt x.factor 1001)))
  else if !iEq x.factor 0 then false
  else if iEq x.kind 7 || iEq x.kind 10 then sEq x.name noS && iLt x.other.size 41
  else if !sEq x.other noS then false
  else if iEq x.kind 1 then nameOk x.name
  else if iEq x.kind 4 then sEq x.name noS && !sEq x.place.group noS
  else iEq x.kind 5 && (sEq x.place.group noS && nameOk x.name)
def right2 (x : SLens) : Bool :=
  if iEq x.kind 2 || iEq x.kind 3 then bare2 x
  else if !placeOk x.place || !sameField x.field noField then false
  else if iEq x.kind 8 then conv2 x
  else kind2 x

theorem iEq_d (a b : Int) : iEq a b = decide (a = b) := by unfold iEq; rfl
theorem iLe_d (a b : Int) : iLe a b = decide (a ≤ b) := by unfold iLe; rfl
theorem iLt_d (a b : Int) : iLt a b = decide (a < b) := by unfold iLt; rfl
theorem iEq_self (a : Int) : iEq a a = true := iEq_t.2 rfl
theorem allUpto_true (p : Nat → Bool) (h : ∀ i, p i = true) : ∀ (k i : Nat), allUpto p k i = true
  | 0, _ => rfl
  | k + 1, i => by show (p i && allUpto p k (i + 1)) = true; rw [h, allUpto_true p h]; rfl
theorem sameRef_self (r : SRef) : sameRef r r = true := by simp [sameRef, iEq_self, sEq_self]
theorem sameStrs_self (l : List ByteArray) : sameStrs l l = true := by simp [sameStrs, allUpto_true, sEq_self]
theorem sameField_self (f : SField) : sameField f f = true := by simp [sameField, sameRef_self, iEq_self, sEq_self, sameStrs_self]
theorem samePairs_self (l : List SPair) : samePairs l l = true := by simp [samePairs, allUpto_true, samePair, sEq_self]
theorem samePairs_nil (l : List SPair) : samePairs l [] = !iLt 0 (l.length : Int) := by
  cases l with
  | nil => simp [samePairs, allUpto, iLt_d]
  | cons a l => simp [samePairs, iLt_d]
theorem samePairs_tables (x : SLens) : (samePairs x.forth [] && samePairs x.back []) = !tablesB x := by
  rw [samePairs_nil, samePairs_nil]; unfold tablesB; cases iLt 0 (x.forth.length : Int) <;> cases iLt 0 (x.back.length : Int) <;> rfl

theorem right_ref (x : SLens) : right2 x = lensOk x := by
  have hk : x.kind = 1 ∨ x.kind = 2 ∨ x.kind = 3 ∨ x.kind = 4 ∨ x.kind = 5 ∨ x.kind = 6 ∨ x.kind = 7 ∨ x.kind = 8 ∨ x.kind = 9 ∨ x.kind = 10 ∨ x.kind < 1 ∨ 10 < x.kind := by omega
  have ht := samePairs_tables x
  have h41 : iLt (x.other.size : Int) 41 = iLe (x.other.size : Int) 40 := by rw [Bool.eq_iff_iff, iLt_t, iLe_t]; omega
  have hf1 : iLt 1 x.factor = iLe 2 x.factor := by rw [Bool.eq_iff_iff, iLt_t, iLe_t]; omega
  have hf2 : iLt x.factor 1001 = iLe x.factor 1000 := by rw [Bool.eq_iff_iff, iLt_t, iLe_t]; omega
  have hx : lensOk x = (iLe 1 x.kind && (iLe x.kind 10 && (sameLens x (partsOf x) && restOk x))) := rfl
  rw [hx, right2]
  have key : ∀ n : Int, iEq x.kind n = decide (x.kind = n) := fun n => iEq_d _ _
  rcases hk with hk | hk | hk | hk | hk | hk | hk | hk | hk | hk | hk | hk
  all_goals
    first | (have e1 : iEq x.kind 1 = true := by rw [iEq_t]; omega) | (have e1 : iEq x.kind 1 = false := by rw [iEq_f]; omega)
    first | (have e2 : iEq x.kind 2 = true := by rw [iEq_t]; omega) | (have e2 : iEq x.kind 2 = false := by rw [iEq_f]; omega)
    first | (have e3 : iEq x.kind 3 = true := by rw [iEq_t]; omega) | (have e3 : iEq x.kind 3 = false := by rw [iEq_f]; omega)
    first | (have e4 : iEq x.kind 4 = true := by rw [iEq_t]; omega) | (have e4 : iEq x.kind 4 = false := by rw [iEq_f]; omega)
    first | (have e5 : iEq x.kind 5 = true := by rw [iEq_t]; omega) | (have e5 : iEq x.kind 5 = false := by rw [iEq_f]; omega)
    first | (have e6 : iEq x.kind 6 = true := by rw [iEq_t]; omega) | (have e6 : iEq x.kind 6 = false := by rw [iEq_f]; omega)
    first | (have e7 : iEq x.kind 7 = true := by rw [iEq_t]; omega) | (have e7 : iEq x.kind 7 = false := by rw [iEq_f]; omega)
    first | (have e8 : iEq x.kind 8 = true := by rw [iEq_t]; omega) | (have e8 : iEq x.kind 8 = false := by rw [iEq_f]; omega)
    first | (have e9 : iEq x.kind 9 = true := by rw [iEq_t]; omega) | (have e9 : iEq x.kind 9 = false := by rw [iEq_f]; omega)
    first | (have e10 : iEq x.kind 10 = true := by rw [iEq_t]; omega) | (have e10 : iEq x.kind 10 = false := by rw [iEq_f]; omega)
    first | (have g1 : iLe 1 x.kind = true := by rw [iLe_t]; omega) | (have g1 : iLe 1 x.kind = false := by rw [iLe_f]; omega)
    first | (have g2 : iLe x.kind 10 = true := by rw [iLe_t]; omega) | (have g2 : iLe x.kind 10 = false := by rw [iLe_f]; omega)
    clear hk hx key
    simp only [g1, g2, e1, e2, e3, e4, e5, e6, e7, e8, e9, e10, bare2, kind2, conv2, restOk, kindOk, sameLens, partsOf, bareOf, Bool.or_true, Bool.or_false, Bool.true_or, Bool.false_or, Bool.false_and, Bool.true_and, Bool.and_false, if_true, if_false, Bool.false_eq_true, ↓reduceIte, Bool.not_true, Bool.not_false]
    simp only [g1, g2, e1, e2, e3, e4, e5, e6, e7, e8, e9, e10, sameRef_self, sameField_self, samePairs_self, sEq_self, iEq_self, h41, hf1, hf2, textOk, factorOk, convOk, takesOk, samePairs_nil, tablesB, Bool.true_and, Bool.false_and, Bool.and_true]
    clear e1 e2 e3 e4 e5 e6 e7 e8 e9 e10 g1 g2 h41 hf1 hf2 ht
  all_goals try simp only [show ∀ r, sameRef r noRef = (iEq r.scope 0 && (sEq r.group noS && sEq r.name noS)) from fun _ => rfl]
  all_goals try simp only [Bool.if_false_left, Bool.decide_eq_true]
  all_goals
    generalize placeOk x.place = b1
    generalize sameField x.field noField = b2
    generalize iLt 0 (x.forth.length : Int) = b3
    generalize iLt 0 (x.back.length : Int) = b4
    generalize iEq x.factor 0 = b5
    generalize sEq x.other noS = b6
    generalize nameOk x.name = b7
    generalize sEq x.name noS = b8
    generalize forthOk x.forth x.back = b9
    generalize forthOk x.back x.forth = b10
    generalize (caseOf x.forth x.name).2 = b11
    generalize (caseOf x.back x.other).2 = b12
    cases b1 <;> cases b2 <;> cases b3 <;> cases b4 <;> cases b5 <;> cases b6 <;> cases b7 <;> cases b8 <;> simp
  all_goals
    cases b9 <;> cases b10 <;> cases b11 <;> cases b12 <;> simp
end Go.Proofs.YtalpbdabeffnlaaGreat
