import Derived.Test.YtalpbdabeffnlaaGreatJoH
/- The reference's fields and tables: what they answer. -/
set_option linter.unusedVariables false
set_option linter.unusedSimpArgs false
namespace Go.Proofs.YtalpbdabeffnlaaGreat
open Go Go.Av
set_option maxRecDepth 100000

theorem allLe2 {a b c d : AV} (h1 : RepLe a c) (h2 : RepLe b d) : allLe [a, b] [c, d] := ⟨h1, h2, trivial⟩
def hasB (l : List ByteArray) (v : ByteArray) : Bool := iLe 0 (idxOf l v)
theorem sEq_comm (a b : ByteArray) : sEq a b = sEq b a := by
  rw [Bool.eq_iff_iff, sEq_t, sEq_t]; exact eq_comm
theorem sEq_self (a : ByteArray) : sEq a a = true := sEq_t.2 rfl
theorem posOf_has (j : Nat) : iLe 0 (posOf (some j)) = true := by rw [iLe_t]; exact Int.natCast_nonneg j
theorem posOf_none : iLe 0 (posOf none) = false := by rw [iLe_f]; exact (by decide : (-1 : Int) < 0)
theorem take_getD (l : List ByteArray) {i m : Nat} (h : m < i) : (l.take i).getD m noS = l.getD m noS := by
  simp [List.getD_eq_getElem?_getD, List.getElem?_take, h]
theorem idx_first (l : List ByteArray) {i : Nat} (h : i < l.length) : iEq (idxOf l (l.getD i noS)) (i : Nat) = !hasB (l.take i) (l.getD i noS) := by
  unfold hasB idxOf
  generalize hv : l.getD i noS = v
  have hlen : (l.take i).length = i := by simp; omega
  rw [hlen]
  cases h1 : findUpto (fun k => sEq v (l.getD k noS)) l.length 0 with
  | none =>
    have := findUpto_none _ _ _ h1 i (by omega) (by omega)
    simp only [hv, sEq_self] at this
    cases this
  | some j =>
    obtain ⟨_, hj, hp, hmin⟩ := findUpto_some _ _ _ _ h1
    have hji : j ≤ i := by
      rcases Nat.lt_or_ge i j with hlt | hge
      · have := hmin i (by omega) hlt
        simp only [hv, sEq_self] at this
        cases this
      · exact hge
    cases h2 : findUpto (fun k => sEq v ((l.take i).getD k noS)) i 0 with
    | none =>
      have hno := findUpto_none _ _ _ h2
      have : j = i := by
        rcases Nat.lt_or_ge j i with hlt | hge
        · have := hno j (by omega) (by omega)
          simp only [take_getD l hlt] at this
          rw [hp] at this; cases this
        · omega
      subst this
      rw [posOf_none, show posOf (some j) = (j : Int) from rfl, iEq_t.2 rfl]; rfl
    | some m =>
      obtain ⟨_, hm, hpm, _⟩ := findUpto_some _ _ _ _ h2
      simp only [take_getD l (by omega : m < i)] at hpm
      have hjm : j ≤ m := by
        rcases Nat.lt_or_ge m j with hlt | hge
        · have := hmin m (by omega) hlt
          rw [hpm] at this; cases this
        · exact hge
      rw [posOf_has, show posOf (some j) = (j : Int) from rfl, iEq_f.2 (show (j : Int) ≠ (i : Int) by omega)]; rfl

theorem f124 (l : List ByteArray) (v : ByteArray) (hl : l.length ≤ maxLen) : PCall Tryz.prog 144 [encStrs l, .val (.string v)] (.p (.val (.bool (hasB l v)))) [] := by
  have hl : l.length ≤ 9223372036854775807 := hl
  refine gcode hT hM Tryz.func144 rfl rfl (rv := [(4, none)]) rfl rfl rfl fun G hG => ?_
  conv => whnf
  refine AW.loop (X := Nat) (fun i => told 18 [(0, .p (encStrs l)), (1, .p (.val (.string v))), (5, vI .i64 (i : Int))] [] []) (fun i => i ≤ l.length ∧ hasB l v = iLe 0 (posOf (findUpto (fun i => sEq v (l.getD i noS)) (l.length - i) i))) (fun i => l.length - i) (used0 hG _) 0 ⟨by omega, by simp [hasB, idxOf]⟩ (stle ⟨RepLe.refl _, RepLe.refl _, RepLe.refl _, trivial⟩ trivial rfl) ?_
  rintro i ⟨hi, hr⟩
  refine codeK_aw hT hM _ _ _ ?_
  conv => whnf
  refine ⟨fun h4 => ?_, fun h4 => ?_⟩
  · have hlt : i < l.length := by rw [iLt_t] at h4; omega
    rw [findUpto_step _ hlt] at hr
    conv => whnf
    refine ⟨by omega, ?_⟩
    conv => whnf
    refine ⟨fun h5 => ?_, fun h5 => ?_⟩
    · have h5 : sEq v (l.getD i noS) = true := by rw [sEq_comm]; exact h5
      conv => whnf
      exact ⟨[], _, _, _, rfl, rfl, rfl, RepLe.bl (by rw [hr, h5]; exact (posOf_has i).symm), trivial⟩
    · have h5 : sEq v (l.getD i noS) = false := by rw [sEq_comm]; exact h5
      conv => whnf
      intro z hz
      have hy := wrap64_eq hz (by omega) (by omega)
      clear hz
      subst hy
      conv => whnf
      exact ⟨i + 1, ⟨by omega, by rw [hr, h5]⟩, by omega, stle ⟨RepLe.refl _, RepLe.refl _, RepLe.of rfl, trivial⟩ trivial rfl⟩
  · have hge : i = l.length := by rw [iLt_f] at h4; omega
    subst hge
    conv => whnf
    exact ⟨[], _, _, _, rfl, rfl, rfl, RepLe.bl (by rw [hr, findUpto_end]; exact posOf_none.symm), trivial⟩

theorem scope_eq (s : Int) : (iLe 0 s && iLe s 1) = (iEq s 0 || iEq s 1) := by
  rw [Bool.eq_iff_iff, Bool.and_eq_true, Bool.or_eq_true, iLe_t, iLe_t, iEq_t, iEq_t]; omega
theorem len0 (s : ByteArray) : iEq s.size 0 = sEq s noS := by
  rw [size_empty, Bool.eq_iff_iff, iEq_t, iLe_t]; omega

theorem f106 (r : SRef) : PCall Tryz.prog 92 [encRef r] (.p (.val (.bool (placeOk r)))) [] := by
  have e : placeOk r = (iLe 0 r.scope && iLe r.scope 1 && (nameOk r.name && (iEq r.group.size 0 || nameOk r.group))) := by rw [scope_eq, len0]; rfl
  refine gcode hT hM Tryz.func92 rfl rfl (rv := [(2, none)]) rfl rfl rfl fun G hG => ?_
  conv => whnf
  repeat' (first
    | (refine ⟨fun _ => ?_, fun _ => ?_⟩ <;> (conv => whnf))
    | (refine And.intro (by omega) ?_; conv => whnf)
    | (refine CallK.lent (f109 _) rfl ?_; conv => whnf)
    | (refine And.intro rfl ?_; conv => whnf)
    | (exact ⟨[], _, _, _, rfl, rfl, rfl, RepLe.bl (by first | (simp_all []; done) | grind []), trivial⟩)
    | (exact ⟨[], _, _, _, rfl, rfl, rfl, RepLe.vb (by first | (simp_all []; done) | grind []), trivial⟩)
    | (intro z hz; have hy := wrap64_eq hz (by omega) (by omega); clear hz; subst hy; conv => whnf)
    | (exact ⟨i + 1, ⟨by omega, by first | (simp_all []; done) | grind []⟩, by omega, stle ⟨trivial, trivial⟩ trivial rfl⟩))

theorem f107 (x : SLens) (hx : okLens x) : PCall Tryz.prog 93 [encLens x] (.p (.val (.bool (sameField x.field noField)))) [] := by
  refine gcode hT hM Tryz.func93 rfl rfl (rv := [(2, none)]) rfl rfl rfl fun G hG => ?_
  conv => whnf
  refine CallK.lent (GCall.args (f32 x.field noField hx.1) ?hh) rfl ?_
  case hh => exact allLe2 (RepLe.refl _) (PLe.rep (PLe.agg (by repeat' (first | refine PLes.cons ?_ ?_ | exact PLe.refl _ | exact PLe.nil | exact PLes.end))))
  conv => whnf
  exact ⟨[], _, _, _, rfl, rfl, rfl, RepLe.refl _, trivial⟩

def tablesB (x : SLens) : Bool := iLt 0 x.forth.length || iLt 0 x.back.length
theorem f105 (x : SLens) : PCall Tryz.prog 91 [encLens x] (.p (.val (.bool (tablesB x)))) [] := by
  refine gcode hT hM Tryz.func91 rfl rfl (rv := [(2, none)]) rfl rfl rfl fun G hG => ?_
  conv => whnf
  repeat' (first
    | (refine ⟨fun _ => ?_, fun _ => ?_⟩ <;> (conv => whnf))
    | (refine And.intro (by omega) ?_; conv => whnf)
    | (refine And.intro rfl ?_; conv => whnf)
    | (exact ⟨[], _, _, _, rfl, rfl, rfl, RepLe.bl (by first | (simp_all [tablesB]; done) | grind [tablesB]), trivial⟩)
    | (exact ⟨[], _, _, _, rfl, rfl, rfl, RepLe.vb (by first | (simp_all [tablesB]; done) | grind [tablesB]), trivial⟩)
    | (intro z hz; have hy := wrap64_eq hz (by omega) (by omega); clear hz; subst hy; conv => whnf)
    | (exact ⟨i + 1, ⟨by omega, by first | (simp_all [tablesB]; done) | grind [tablesB]⟩, by omega, stle ⟨trivial, trivial⟩ trivial rfl⟩))

theorem f103 (l : List SPair) (hl : l.length ≤ 4398046511104) : PCall Tryz.prog 90 [encPairs l] (.sl 0) [rowStrs (fromsOf l)] := by
  refine gcode hT hM Tryz.func90 rfl rfl (rv := [(2, none)]) rfl rfl rfl fun G hG => ?_
  conv => whnf
  refine AW.loop (X := Nat) (fun i => told 21 [(0, .p (encPairs l)), (3, .sl 4096), (4, vI .i64 (i : Int))] [(4096, some (.row 9 1 i fun j _ => .val (.string (l.getD j noPair).frm)))] [4096]) (fun i => i ≤ l.length ∧ True) (fun i => l.length - i) (used0 hG _) 0 ⟨by omega, trivial⟩ (stle ⟨RepLe.refl _, RepLe.refl _, RepLe.refl _, trivial⟩ ⟨⟨_, rfl, BlkLe.row rfl (fun i j hi => absurd hi (Nat.not_lt_zero _))⟩, trivial⟩ rfl) ?_
  rintro i ⟨hi, hr⟩
  refine codeK_aw hT hM _ _ _ ?_
  conv => whnf
  refine ⟨fun h4 => ?_, fun h4 => ?_⟩
  · have hlt : i < l.length := by rw [iLt_t] at h4; omega
    conv => whnf
    refine ⟨by omega, ?_⟩
    conv => whnf
    refine ⟨⟨show i + 1 ≤ 9223372036854775807 by omega, show (i + 1) * 16 ≤ 140737488355328 by omega⟩, ?_⟩
    conv => whnf
    intro z hz
    have hy := wrap64_eq hz (by omega) (by omega)
    clear hz
    subst hy
    conv => whnf
    refine ⟨i + 1, ⟨by omega, trivial⟩, by omega, stleR [(4096, 20536)] ⟨RepLe.refl _, RepLe.refl _, RepLe.of rfl, trivial⟩ ⟨⟨_, rfl, BlkLe.row rfl fun a b ha hb => ?_⟩, trivial⟩ rfl⟩
    by_cases hai : a < i
    · rw [catF_lt hai]
    · have : a = i := by omega
      subst this
      rw [catF_ge (Nat.le_refl _), Nat.sub_self]
      have hb : b < 1 := hb
      have : b = 0 := by omega
      subst this
      rfl
  · have hge : i = l.length := by rw [iLt_f] at h4; omega
    subst hge
    conv => whnf
    exact ⟨[4096], _, _, _, rfl, rfl, rfl, RepLe.of rfl, BlkLe.row (froms_len l).symm fun a b ha hb => by rw [froms_get l a ha], trivial⟩

theorem f55 (l : List SPair) (s : ByteArray) (hl : l.length ≤ maxLen) : PCall Tryz.prog 94 [encPairs l, .val (.string s)] (encTwo (caseOf l s)) [] := by
  have hl : l.length ≤ 9223372036854775807 := hl
  refine gcode hT hM Tryz.func94 rfl rfl (rv := [(4, none), (5, none)]) rfl rfl rfl fun G hG => ?_
  conv => whnf
  refine AW.loop (X := Nat) (fun i => told 25 [(0, .p (encPairs l)), (1, .p (.val (.string s))), (6, vI .i64 (i : Int))] [] []) (fun i => i ≤ l.length ∧ caseOf l s = pairAt l (findUpto (fun i => sEq (l.getD i noPair).frm s) (l.length - i) i)) (fun i => l.length - i) (used0 hG _) 0 ⟨by omega, by simp [caseOf]⟩ (stle ⟨RepLe.refl _, RepLe.refl _, RepLe.refl _, trivial⟩ trivial rfl) ?_
  rintro i ⟨hi, hr⟩
  refine codeK_aw hT hM _ _ _ ?_
  conv => whnf
  refine ⟨fun h4 => ?_, fun h4 => ?_⟩
  · have hlt : i < l.length := by rw [iLt_t] at h4; omega
    rw [findUpto_step _ hlt] at hr
    conv => whnf
    refine ⟨by omega, ?_⟩
    conv => whnf
    refine ⟨fun h5 => ?_, fun h5 => ?_⟩
    · have h5 : sEq (l.getD i noPair).frm s = true := h5
      conv => whnf
      refine ⟨by omega, ?_⟩
      conv => whnf
      rw [h5] at hr
      have hr : caseOf l s = ((l.getD i noPair).tto, true) := hr
      exact ⟨[], _, _, _, rfl, rfl, rfl, RepLe.as encTwo hr (RepLe.tup2 (RepLe.refl _) (RepLe.bl rfl)), trivial⟩
    · have h5 : sEq (l.getD i noPair).frm s = false := h5
      rw [h5] at hr
      conv => whnf
      intro z hz
      have hy := wrap64_eq hz (by omega) (by omega)
      clear hz
      subst hy
      conv => whnf
      exact ⟨i + 1, ⟨by omega, hr⟩, by omega, stle ⟨RepLe.refl _, RepLe.refl _, RepLe.of rfl, trivial⟩ trivial rfl⟩
  · have hge : i = l.length := by rw [iLt_f] at h4; omega
    subst hge
    conv => whnf
    rw [findUpto_end] at hr
    have hr : caseOf l s = (noS, false) := hr
    exact ⟨[], _, _, _, rfl, rfl, rfl, RepLe.as encTwo hr (RepLe.tup2 (RepLe.refl _) (RepLe.bl rfl)), trivial⟩
end Go.Proofs.YtalpbdabeffnlaaGreat

/- The reference: is a field right, is a table. -/
set_option linter.unusedVariables false
set_option linter.unusedSimpArgs false
namespace Go.Proofs.YtalpbdabeffnlaaGreat
open Go Go.Av
set_option maxRecDepth 100000

theorem iEq_ne {a b : Int} (c : Int) (h : iEq a b = true) (hne : b ≠ c) : iEq a c = false := by rw [iEq_t] at h; rw [iEq_f]; omega
theorem allUpto_congr {p q : Nat → Bool} : ∀ (k i : Nat), (∀ j, i ≤ j → j < i + k → p j = q j) → allUpto p k i = allUpto q k i
  | 0, i, _ => rfl
  | k + 1, i, h => by
    show (p i && allUpto p k (i + 1)) = (q i && allUpto q k (i + 1))
    rw [h i (Nat.le_refl _) (by omega), allUpto_congr k (i + 1) fun j h1 h2 => h j (by omega) (by omega)]
theorem has_nil (l : List ByteArray) (v : ByteArray) (h : hasB l v = true) : 1 ≤ l.length := by
  cases l with
  | nil => have h : iLe 0 (posOf none) = true := h; rw [posOf_none] at h; cases h
  | cons a l => simp
def firstIn (l : List ByteArray) (i : Nat) : Bool := nameOk (l.getD i noS) && !hasB (l.take i) (l.getD i noS)
theorem cases_ref (f : SField) : casesOk f = (allUpto (firstIn f.cases) f.cases.length 0 && (iLt f.cases.length 7 && hasB f.cases f.dflt)) := by
  unfold casesOk
  rw [show iLe 0 (idxOf f.cases f.dflt) = hasB f.cases f.dflt from rfl]
  rw [allUpto_congr (q := firstIn f.cases) f.cases.length 0 fun j h1 h2 => by rw [idx_first f.cases (by omega)]; rfl]
  have e : iLe (f.cases.length : Int) 6 = iLt (f.cases.length : Int) 7 := by rw [Bool.eq_iff_iff, iLe_t, iLt_t]; omega
  rw [e]
  cases h : hasB f.cases f.dflt with
  | false => simp
  | true =>
    have := has_nil _ _ h
    rw [show iLe 1 (f.cases.length : Int) = true by rw [iLe_t]; omega]
    simp [Bool.and_comm]

theorem takeStrs (l : List ByteArray) (i : Nat) (h : i ≤ l.length) : PLe (.rs 1 (i - 0) fun a b => .val (.string (l.getD (0 + a) noS))) (encStrs (l.take i)) := by
  refine PLe.rows (by simp; omega) fun a b ha hb => ?_
  rw [take_getD l (show a < i by omega), Nat.zero_add]
theorem take_pair (l : List SPair) {i m : Nat} (h : m < i) : (l.take i).getD m noPair = l.getD m noPair := by
  simp [List.getD_eq_getElem?_getD, List.getElem?_take, h]
theorem takePairs (l : List SPair) (i : Nat) (h : i ≤ l.length) : PLe (.rs 2 (i - 0) fun a b => at_ .any (pairCells (l.getD (0 + a) noPair)) b) (encPairs (l.take i)) := by
  refine PLe.rows (by simp; omega) fun a b ha hb => ?_
  rw [take_pair l (show a < i by omega), Nat.zero_add]

theorem f85 (f : SField) (hf : okField f) : PCall Tryz.prog 82 [encField f] (.p (.val (.bool (fieldOk f)))) [] := by
  have hl : f.cases.length ≤ 9223372036854775807 := hf
  refine gcode hT hM Tryz.func82 rfl rfl (rv := [(2, none)]) rfl rfl rfl fun G hG => ?_
  conv => whnf
  refine CallK.lent (f106 f.place) rfl ?_
  conv => whnf
  refine ⟨fun h1 => ?_, fun h1 => ?_⟩
  · conv => whnf
    exact ⟨[], _, _, _, rfl, rfl, rfl, RepLe.bl (by simp_all [fieldOk]), trivial⟩
  conv => whnf
  have h1 : placeOk f.place = true := by simpa using h1
  have e1 : iLt 0 f.worth = iLe 1 f.worth := by rw [Bool.eq_iff_iff, iLe_t, iLt_t]; omega
  have e2 : iLt f.worth 1048577 = iLe f.worth 1048576 := by rw [Bool.eq_iff_iff, iLe_t, iLt_t]; omega
  have e3 : iEq (f.cases.length : Int) 0 = !iLt 0 (f.cases.length : Int) := by rw [iLt_not, Bool.not_not, Bool.eq_iff_iff, iLe_t, iEq_t]; omega
  have e4 : iLt (f.dflt.size : Int) 41 = textOk f.dflt := by unfold textOk; rw [Bool.eq_iff_iff, iLe_t, iLt_t]; omega
  refine ⟨fun k1 => ?_, fun k1 => ?_⟩
  · have k3 : iEq f.kind 3 = false := by rw [iEq_t] at k1; rw [iEq_f]; omega
    conv => whnf
    repeat' (first
      | (refine ⟨fun _ => ?_, fun _ => ?_⟩ <;> (conv => whnf))
      | (refine And.intro rfl ?_; conv => whnf)
      | (exact ⟨[], _, _, _, rfl, rfl, rfl, RepLe.bl (by first | (simp_all [fieldOk, noS]; done) | grind [fieldOk, noS]), trivial⟩)
      | (exact ⟨[], _, _, _, rfl, rfl, rfl, RepLe.vb (by first | (simp_all [fieldOk, noS]; done) | grind [fieldOk, noS]), trivial⟩))
  conv => whnf
  refine ⟨fun w => ?_, fun w => ?_⟩
  · conv => whnf
    exact ⟨[], _, _, _, rfl, rfl, rfl, RepLe.bl (by simp_all [fieldOk]), trivial⟩
  conv => whnf
  have w : iEq f.worth 0 = true := by simpa using w
  refine ⟨fun k3 => ?_, fun k3 => ?_⟩
  · have hfc : fieldOk f = casesOk f := by have k2 := iEq_ne 2 k3 (by decide); simp_all [fieldOk]
    clear e1 e2 e3 e4 w k1 h1
    conv => whnf
    refine AW.loop (X := Nat) (fun i => told 96 [(1, .pt 0 0), (3, vI .i64 (i : Int))] [(0, some (.box 39 ((fieldCells f).map .p)))] [0]) (fun i => i ≤ f.cases.length ∧ fieldOk f = (allUpto (firstIn f.cases) (f.cases.length - i) i && (iLt f.cases.length 7 && hasB f.cases f.dflt))) (fun i => f.cases.length - i) (used0 hG _) 0 ⟨by omega, by rw [hfc, cases_ref]; rfl⟩ (stle ⟨RepLe.refl _, RepLe.refl _, trivial⟩ ⟨⟨_, rfl, BlkLe.refl _⟩, trivial⟩ rfl) ?_
    rintro i ⟨hi, hr⟩
    refine codeK_aw hT hM _ _ _ ?_
    conv => whnf
    refine ⟨fun h4 => ?_, fun h4 => ?_⟩
    · have hlt : i < f.cases.length := by rw [iLt_t] at h4; omega
      rw [allUpto_step _ hlt] at hr
      conv => whnf
      refine ⟨by omega, ?_⟩
      conv => whnf
      refine CallK.lent (f109 _) rfl ?_
      conv => whnf
      refine ⟨fun h5 => ?_, fun h5 => ?_⟩
      · have h5 : nameOk (f.cases.getD i noS) = false := by simpa using h5
        conv => whnf
        refine ⟨rfl, ?_⟩
        conv => whnf
        exact ⟨[], _, _, _, rfl, rfl, rfl, RepLe.bl (by rw [hr, firstIn, h5]; simp), trivial⟩
      have h5 : nameOk (f.cases.getD i noS) = true := by simpa using h5
      conv => whnf
      refine ⟨by omega, ?_⟩
      conv => whnf
      refine ⟨by omega, ?_⟩
      conv => whnf
      refine CallK.lent (GCall.arg1 (f124 (f.cases.take i) _ (by rw [List.length_take]; exact Nat.le_trans (Nat.min_le_right _ _) hf)) ?hh) rfl ?_
      case hh => exact PLe.rep (takeStrs f.cases i hi)
      conv => whnf
      refine ⟨rfl, ?_⟩
      conv => whnf
      refine ⟨fun h6 => ?_, fun h6 => ?_⟩
      · have h6 : hasB (f.cases.take i) (f.cases.getD i noS) = true := h6
        conv => whnf
        exact ⟨[], _, _, _, rfl, rfl, rfl, RepLe.bl (by rw [hr, firstIn, h5, h6]; simp), trivial⟩
      have h6 : hasB (f.cases.take i) (f.cases.getD i noS) = false := h6
      conv => whnf
      intro z hz
      have hy := wrap64_eq hz (by omega) (by omega)
      clear hz
      subst hy
      conv => whnf
      exact ⟨i + 1, ⟨by omega, by rw [hr, firstIn, h5, h6]; simp⟩, by omega, stle ⟨RepLe.refl _, RepLe.of rfl, trivial⟩ ⟨⟨_, rfl, BlkLe.refl _⟩, trivial⟩ rfl⟩
    · have hge : i = f.cases.length := by rw [iLt_f] at h4; omega
      subst hge
      rw [allUpto_end, Bool.true_and] at hr
      conv => whnf
      repeat' (first
        | (refine ⟨fun _ => ?_, fun _ => ?_⟩ <;> (conv => whnf))
        | (refine CallK.lent (f124 f.cases f.dflt hf) rfl ?_; conv => whnf)
        | (refine And.intro rfl ?_; conv => whnf)
        | (exact ⟨[], _, _, _, rfl, rfl, rfl, RepLe.bl (by first | (simp_all []; done) | grind []), trivial⟩)
        | (exact ⟨[], _, _, _, rfl, rfl, rfl, RepLe.vb (by first | (simp_all []; done) | grind []), trivial⟩))
  conv => whnf
  refine ⟨fun n0 => ?_, fun n0 => ?_⟩
  · have k1 : iEq f.kind 1 = false := k1
    have k3 : iEq f.kind 3 = false := k3
    conv => whnf
    exact ⟨[], _, _, _, rfl, rfl, rfl, RepLe.bl (by simp_all [fieldOk]), trivial⟩
  have x24 : iEq f.kind 2 = true → iEq f.kind 4 = false := fun h => iEq_ne 4 h (by decide)
  conv => whnf
  repeat' (first
    | (refine ⟨fun _ => ?_, fun _ => ?_⟩ <;> (conv => whnf))
    | (refine And.intro rfl ?_; conv => whnf)
    | (exact ⟨[], _, _, _, rfl, rfl, rfl, RepLe.bl (by first | (simp_all [fieldOk, noS]; done) | grind [fieldOk, noS]), trivial⟩)
    | (exact ⟨[], _, _, _, rfl, rfl, rfl, RepLe.vb (by first | (simp_all [fieldOk, noS]; done) | grind [fieldOk, noS]), trivial⟩))
end Go.Proofs.YtalpbdabeffnlaaGreat

/- The reference: is a table right. -/
set_option linter.unusedVariables false
set_option linter.unusedSimpArgs false
namespace Go.Proofs.YtalpbdabeffnlaaGreat
open Go Go.Av
set_option maxRecDepth 100000

theorem findUpto_congr {p q : Nat → Bool} : ∀ (k i : Nat), (∀ j, i ≤ j → j < i + k → p j = q j) → findUpto p k i = findUpto q k i
  | 0, i, _ => rfl
  | k + 1, i, h => by
    show (match p i with | true => some i | false => findUpto p k (i + 1)) = (match q i with | true => some i | false => findUpto q k (i + 1))
    rw [h i (Nat.le_refl _) (by omega), findUpto_congr k (i + 1) fun j h1 h2 => h j (by omega) (by omega)]
theorem case_has (m : List SPair) (s : ByteArray) : (caseOf m s).2 = hasB (fromsOf m) s := by
  unfold caseOf hasB idxOf
  rw [froms_len, findUpto_congr (q := fun i => sEq s ((fromsOf m).getD i noS)) m.length 0 fun j h1 h2 => by rw [froms_get m j (by omega), sEq_comm]]
  cases findUpto (fun i => sEq s ((fromsOf m).getD i noS)) m.length 0 with
  | none => exact posOf_none.symm
  | some j => exact (posOf_has j).symm
def pairFirst (l m : List SPair) (i : Nat) : Bool := nameOk (l.getD i noPair).frm && (!hasB (fromsOf (l.take i)) (l.getD i noPair).frm && hasB (fromsOf m) (l.getD i noPair).tto)
theorem forth_ref (l m : List SPair) : forthOk l m = (iLe 1 l.length && (iLe l.length 6 && allUpto (pairFirst l m) l.length 0)) := by
  unfold forthOk
  rw [allUpto_congr (q := pairFirst l m) l.length 0 fun j h1 h2 => by
    have e := idx_first (fromsOf l) (i := j) (by rw [froms_len]; omega)
    rw [froms_get l j (by omega)] at e
    rw [e, case_has, pairFirst, show fromsOf (l.take j) = (fromsOf l).take j from by simp [fromsOf, List.map_take]]
    cases hasB (fromsOf m) (l.getD j noPair).tto <;> cases nameOk (l.getD j noPair).frm <;> cases hasB ((fromsOf l).take j) (l.getD j noPair).frm <;> rfl]

theorem f108 (l m : List SPair) (hl : l.length ≤ 4398046511104) (hm : m.length ≤ 4398046511104) : PCall Tryz.prog 95 [encPairs l, encPairs m] (.p (.val (.bool (forthOk l m)))) [] := by
  have k1 : iEq (l.length : Int) 0 = !iLe 1 (l.length : Int) := by rw [Bool.eq_iff_iff, Bool.not_eq_true', iLe_f, iEq_t]; omega
  have k2 : iLt 6 (l.length : Int) = !iLe (l.length : Int) 6 := iLt_not _ _
  have hfr : ∀ (x : List SPair), x.length ≤ 4398046511104 → (fromsOf x).length ≤ maxLen := fun x hx => by rw [froms_len]; exact Nat.le_trans hx (by decide)
  refine gcode hT hM Tryz.func95 rfl rfl (rv := [(4, none)]) rfl rfl rfl fun G hG => ?_
  conv => whnf
  refine ⟨fun h => ?_, fun h => ?_⟩
  · conv => whnf
    exact ⟨[], _, _, _, rfl, rfl, rfl, RepLe.bl (by simp_all [forthOk]), trivial⟩
  conv => whnf
  refine ⟨fun h2 => ?_, fun h2 => ?_⟩
  · conv => whnf
    exact ⟨[], _, _, _, rfl, rfl, rfl, RepLe.bl (by simp_all [forthOk]), trivial⟩
  conv => whnf
  refine AW.loop (X := Nat) (fun i => told 50 [(0, .p (encPairs l)), (1, .p (encPairs m)), (5, vI .i64 (i : Int))] [] []) (fun i => i ≤ l.length ∧ forthOk l m = allUpto (pairFirst l m) (l.length - i) i) (fun i => l.length - i) (used0 hG _) 0 ⟨by omega, by rw [forth_ref]; simp_all⟩ (stle ⟨RepLe.refl _, RepLe.refl _, RepLe.refl _, trivial⟩ trivial rfl) ?_
  rintro i ⟨hi, hr⟩
  refine codeK_aw hT hM _ _ _ ?_
  conv => whnf
  refine ⟨fun h4 => ?_, fun h4 => ?_⟩
  · have hlt : i < l.length := by rw [iLt_t] at h4; omega
    rw [allUpto_step _ hlt] at hr
    have htk : (l.take i).length ≤ 4398046511104 := by rw [List.length_take]; exact Nat.le_trans (Nat.min_le_right _ _) hl
    conv => whnf
    refine ⟨by omega, ?_⟩
    conv => whnf
    refine CallK.lent (f109 _) rfl ?_
    conv => whnf
    refine ⟨fun h5 => ?_, fun h5 => ?_⟩
    · have h5 : nameOk (l.getD i noPair).frm = false := by simpa using h5
      conv => whnf
      refine ⟨rfl, ?_⟩
      conv => whnf
      exact ⟨[], _, _, _, rfl, rfl, rfl, RepLe.bl (by rw [hr, pairFirst, h5]; simp), trivial⟩
    have h5 : nameOk (l.getD i noPair).frm = true := by simpa using h5
    conv => whnf
    refine ⟨by omega, ?_⟩
    conv => whnf
    refine CallK.go [] (GCall.arg1 (f103 (l.take i) htk) ?hh) rfl rfl rfl rfl rfl ?_
    case hh => exact PLe.rep (takePairs l i hi)
    conv => whnf
    refine ⟨by omega, ?_⟩
    conv => whnf
    refine CallK.lent (f124 (fromsOf (l.take i)) _ (hfr _ htk)) rfl ?_
    conv => whnf
    refine ⟨fun h6 => ?_, fun h6 => ?_⟩
    · have h6 : hasB (fromsOf (l.take i)) (l.getD i noPair).frm = true := h6
      conv => whnf
      refine ⟨rfl, ?_⟩
      conv => whnf
      exact ⟨[], _, _, _, rfl, rfl, rfl, RepLe.bl (by rw [hr, pairFirst, h5, h6]; simp), trivial⟩
    have h6 : hasB (fromsOf (l.take i)) (l.getD i noPair).frm = false := h6
    conv => whnf
    refine CallK.go [] (f103 m hm) rfl rfl rfl rfl rfl ?_
    conv => whnf
    refine ⟨by omega, ?_⟩
    conv => whnf
    refine CallK.lent (f124 (fromsOf m) _ (hfr _ hm)) rfl ?_
    conv => whnf
    refine ⟨rfl, ?_⟩
    conv => whnf
    refine ⟨fun h7 => ?_, fun h7 => ?_⟩
    · have h7 : hasB (fromsOf m) (l.getD i noPair).tto = false := by simpa using h7
      conv => whnf
      exact ⟨[], _, _, _, rfl, rfl, rfl, RepLe.bl (by rw [hr, pairFirst, h5, h6, h7]; simp), trivial⟩
    have h7 : hasB (fromsOf m) (l.getD i noPair).tto = true := by simpa using h7
    conv => whnf
    intro z hz
    have hy := wrap64_eq hz (by omega) (by omega)
    clear hz
    subst hy
    conv => whnf
    exact ⟨i + 1, ⟨by omega, by rw [hr, pairFirst, h5, h6, h7]; simp⟩, by omega, stle ⟨RepLe.refl _, RepLe.refl _, RepLe.of rfl, trivial⟩ trivial rfl⟩
  · have hge : i = l.length := by rw [iLt_f] at h4; omega
    subst hge
    conv => whnf
    exact ⟨[], _, _, _, rfl, rfl, rfl, RepLe.bl (by rw [hr, allUpto_end]), trivial⟩
end Go.Proofs.YtalpbdabeffnlaaGreat
