import Derived.Test.YtalpbdabeffnlaaGreatJoCR
import Derived.Test.YtalpbdabeffnlaaGreatJoBK
import Derived.Test.YtalpbdabeffnlaaGreatJoBE
/- What an op is worth; whether it is right, and fits. -/
set_option linter.unusedVariables false
set_option linter.unusedSimpArgs false
namespace Go.Proofs.YtalpbdabeffnlaaGreat
open Go Go.Av
set_option maxRecDepth 100000
set_option maxHeartbeats 4000000

def quoI (a b : Int) : Int := wrapO .i64 (a.tdiv b)
def packWorth (n w : Int) : Int × Int :=
  if iLt w 1 || iLt 1048576 w then (0, 2) else if iLt (quoI 4503599627370496 w) n || iLt n (quoI (-4503599627370496) w) then (0, 3) else (wrapO .i64 (n * w), 0)
def encTwoI (p : Int × Int) : AV := .tup 2 (at_ (.p .any) [.p (.val (.int .i64 p.1)), .p (.val (.int .i64 p.2))])
theorem two_ret {p : Int × Int} {a b : Int} (h : p = (a, b)) : RepLe (.tup 2 (at_ (.p .any) [.p (.val (.int .i64 a)), .p (.val (.int .i64 b))])) (encTwoI p) := by subst h; exact RepLe.refl _
theorem f325 (n v : Int) : PCall Tryz.prog 49 [.val (.int .i64 n), .val (.int .i64 v)] (encTwoI (packWorth n v)) [] := by
  refine gcode hT hM Tryz.func49 rfl rfl (rv := [(4, none), (5, none)]) rfl rfl rfl fun G hG => ?_
  conv => whnf
  refine ⟨fun a1 => ?_, fun a1 => ?_⟩
  · conv => whnf
    exact ⟨[], _, _, _, rfl, rfl, rfl, two_ret (by unfold packWorth; rw [a1]; rfl), trivial⟩
  conv => whnf
  refine ⟨fun a2 => ?_, fun a2 => ?_⟩
  · conv => whnf
    exact ⟨[], _, _, _, rfl, rfl, rfl, two_ret (by unfold packWorth; rw [a1, a2]; rfl), trivial⟩
  have hv : v ≠ 0 := by rw [iLt_f] at a1; omega
  conv => whnf
  refine ⟨hv, ?_⟩
  conv => whnf
  intro z hz
  have hz : z = quoI 4503599627370496 v := hz
  subst hz
  conv => whnf
  refine ⟨fun b1 => ?_, fun b1 => ?_⟩
  · conv => whnf
    exact ⟨[], _, _, _, rfl, rfl, rfl, two_ret (by unfold packWorth; rw [a1, a2, b1]; rfl), trivial⟩
  conv => whnf
  refine ⟨hv, ?_⟩
  conv => whnf
  intro z hz
  have hz : z = quoI (-4503599627370496) v := hz
  subst hz
  conv => whnf
  refine ⟨fun b2 => ?_, fun b2 => ?_⟩
  · conv => whnf
    exact ⟨[], _, _, _, rfl, rfl, rfl, two_ret (by unfold packWorth; rw [a1, a2, b1, b2]; rfl), trivial⟩
  conv => whnf
  intro z hz
  subst hz
  conv => whnf
  exact ⟨[], _, _, _, rfl, rfl, rfl, two_ret (by unfold packWorth; rw [a1, a2, b1, b2]; rfl), trivial⟩
def farI (n : Int) : Bool := iLt 4503599627370496 n || iLt n (-4503599627370496)
theorem f326 (n : Int) : PCall Tryz.prog 50 [.val (.int .i64 n)] (.p (.val (.bool (farI n)))) [] := by
  refine gcode hT hM Tryz.func50 rfl rfl (rv := [(2, none)]) rfl rfl rfl fun G hG => ?_
  conv => whnf
  repeat' (first
    | (refine ⟨fun _ => ?_, fun _ => ?_⟩ <;> (conv => whnf))
    | (refine And.intro (by omega) ?_; conv => whnf)
    | (refine And.intro rfl ?_; conv => whnf)
    | (exact ⟨[], _, _, _, rfl, rfl, rfl, RepLe.bl (by first | (simp_all [farI]; done) | grind [farI]), trivial⟩)
    | (exact ⟨[], _, _, _, rfl, rfl, rfl, RepLe.vb (by first | (simp_all [farI]; done) | grind [farI]), trivial⟩)
    | (intro z hz; have hy := wrap64_eq hz (by omega) (by omega); clear hz; subst hy; conv => whnf)
    | (exact ⟨i + 1, ⟨by omega, by first | (simp_all [farI]; done) | grind [farI]⟩, by omega, stle ⟨trivial, trivial⟩ trivial rfl⟩))
def worthOp (l : List SField) (o : SOp) : Int × Int :=
  if !iEq o.kind 3 || (!iEq (fieldAt l (placeIn l o.place)).2 0 || !iEq (fieldAt l (placeIn l o.place)).1.kind 1) then (0, 11) else packWorth o.delta (fieldAt l (placeIn l o.place)).1.worth
theorem f311 (l : List SField) (o : SOp) (hl : fitFields l) : PCall Tryz.prog 20 [encFields l, encOp o] (encTwoI (worthOp l o)) [] := by
  refine gcode hT hM Tryz.func20 rfl rfl (rv := [(4, none), (5, none)]) rfl rfl rfl fun G hG => ?_
  conv => whnf
  refine CallK.go [] (f30 l o.place hl) rfl rfl rfl rfl rfl ?_
  conv => whnf
  refine ⟨fun a1 => ?_, fun a1 => ?_⟩
  · conv => whnf
    exact ⟨[], _, _, _, rfl, rfl, rfl, two_ret (by unfold worthOp; rw [a1]; rfl), trivial⟩
  conv => whnf
  refine ⟨fun a2 => ?_, fun a2 => ?_⟩
  · conv => whnf
    exact ⟨[], _, _, _, rfl, rfl, rfl, two_ret (by unfold worthOp; rw [a1, a2]; rfl), trivial⟩
  conv => whnf
  refine ⟨fun a3 => ?_, fun a3 => ?_⟩
  · conv => whnf
    exact ⟨[], _, _, _, rfl, rfl, rfl, two_ret (by unfold worthOp; rw [a1, a2, a3]; rfl), trivial⟩
  conv => whnf
  refine CallK.go [] (f325 o.delta (fieldAt l (placeIn l o.place)).1.worth) rfl rfl rfl rfl rfl ?_
  conv => whnf
  exact ⟨[], _, _, _, rfl, rfl, rfl, two_ret (by unfold worthOp; rw [a1, a2, a3]; rfl), trivial⟩
theorem quo_small {w : Int} (h1 : 1 ≤ w) : quoI 4503599627370496 w ≤ 4503599627370496 ∧ -4503599627370496 ≤ quoI (-4503599627370496) w := by
  have h := Int.tdiv_nonneg (a := 4503599627370496) (b := w) (by decide) (by omega)
  have h2 : (4503599627370496 : Int).tdiv w ≤ 4503599627370496 := by
    rw [Int.tdiv_eq_ediv_of_nonneg (by decide)]
    exact Int.ediv_le_self _ (by decide)
  have h3 : (-4503599627370496 : Int).tdiv w = -((4503599627370496 : Int).tdiv w) := Int.neg_tdiv _ _
  have wid : ∀ n : Int, -9223372036854775808 ≤ n → n ≤ 9223372036854775807 → wrapO .i64 n = n := fun n a b => wrap64_eq rfl a b
  unfold quoI
  rw [wid _ (by omega) (by omega), wid _ (by omega) (by omega), h3]
  omega
theorem f312 (l : List SField) (o : SOp) (hl : fitFields l) : PCall Tryz.prog 21 [encFields l, encOp o] (encTwoI (worthOp l o)) [] := by
  have c31 := f31 l o.place hl.ok
  refine gcode hT hM Tryz.func21 rfl rfl (rv := [(4, none), (5, none)]) rfl rfl rfl fun G hG => ?_
  conv => whnf
  cases q : placeIn l o.place with
  | none =>
    rw [q] at c31
    refine CallK.lent (c31) rfl ?_
    conv => whnf
    refine ⟨fun a1 => ?_, fun a1 => ?_⟩
    · conv => whnf
      exact ⟨[], _, _, _, rfl, rfl, rfl, two_ret (by unfold worthOp; rw [a1]; rfl), trivial⟩
    conv => whnf
    refine ⟨fun a2 => ?_, fun a2 => ?_⟩
    · conv => whnf
      exact ⟨[], _, _, _, rfl, rfl, rfl, two_ret (by unfold worthOp; rw [a1, q]; show (if (false || (!iEq 6 0 || _)) = true then _ else _) = _; rw [iEq_f.2 (show ¬ (6 : Int) = 0 by decide)]; rfl), trivial⟩
    · exact absurd (iLt_f.1 a2) (show ¬ (0 : Int) ≤ -1 by decide)
  | some j =>
    have hj := place_lt q
    rw [q] at c31
    refine CallK.lent (c31) rfl ?_
    conv => whnf
    refine ⟨fun a1 => ?_, fun a1 => ?_⟩
    · conv => whnf
      exact ⟨[], _, _, _, rfl, rfl, rfl, two_ret (by unfold worthOp; rw [a1]; rfl), trivial⟩
    conv => whnf
    refine ⟨fun a2 => ?_, fun a2 => ?_⟩
    · exact absurd (iLt_t.1 a2) (show ¬ ((j : Nat) : Int) < 0 by omega)
    conv => whnf
    refine ⟨⟨Int.natCast_nonneg _, Int.ofNat_lt.2 hj⟩, ?_⟩
    conv => whnf
    refine ⟨fun a3 => ?_, fun a3 => ?_⟩
    · have a3 : (!iEq (l.getD j noField).kind 1) = true := a3
      conv => whnf
      exact ⟨[], _, _, _, rfl, rfl, rfl, two_ret (by unfold worthOp; rw [a1, q]; show (if (false || (!iEq 0 0 || !iEq (l.getD j noField).kind 1)) = true then _ else _) = _; rw [iEq_same, a3]; rfl), trivial⟩
    have a3 : (!iEq (l.getD j noField).kind 1) = false := a3
    have hw : worthOp l o = packWorth o.delta (l.getD j noField).worth := by unfold worthOp; rw [a1, q]; show (if (false || (!iEq 0 0 || !iEq (l.getD j noField).kind 1)) = true then _ else _) = _; rw [iEq_same, a3]; rfl
    conv => whnf
    refine ⟨⟨Int.natCast_nonneg _, Int.ofNat_lt.2 hj⟩, ?_⟩
    conv => whnf
    refine ⟨fun b1 => ?_, fun b1 => ?_⟩
    · have b1 : iLt (l.getD j noField).worth 1 = true := b1
      conv => whnf
      exact ⟨[], _, _, _, rfl, rfl, rfl, two_ret (by rw [hw]; unfold packWorth; rw [b1]; rfl), trivial⟩
    have b1 : iLt (l.getD j noField).worth 1 = false := b1
    conv => whnf
    refine ⟨fun b2 => ?_, fun b2 => ?_⟩
    · have b2 : iLt 1048576 (l.getD j noField).worth = true := b2
      conv => whnf
      exact ⟨[], _, _, _, rfl, rfl, rfl, two_ret (by rw [hw]; unfold packWorth; rw [b1, b2]; rfl), trivial⟩
    have b2 : iLt 1048576 (l.getD j noField).worth = false := b2
    have hv : (l.getD j noField).worth ≠ 0 := by rw [iLt_f] at b1; omega
    have hs := quo_small (w := (l.getD j noField).worth) (by rw [iLt_f] at b1; omega)
    conv => whnf
    refine CallK.lent (f326 o.delta) rfl ?_
    conv => whnf
    refine ⟨fun c1 => ?_, fun c1 => ?_⟩
    · conv => whnf
      refine ⟨rfl, ?_⟩
      conv => whnf
      have hb : (iLt (quoI 4503599627370496 (l.getD j noField).worth) o.delta || iLt o.delta (quoI (-4503599627370496) (l.getD j noField).worth)) = true := by
        unfold farI at c1
        rw [Bool.or_eq_true, iLt_t, iLt_t] at c1 ⊢
        omega
      exact ⟨[], _, _, _, rfl, rfl, rfl, two_ret (by rw [hw]; unfold packWorth; rw [b1, b2, hb]; rfl), trivial⟩
    conv => whnf
    refine ⟨hv, ?_⟩
    conv => whnf
    intro z hz
    have hz : z = quoI 4503599627370496 (l.getD j noField).worth := hz
    subst hz
    conv => whnf
    refine ⟨fun c2 => ?_, fun c2 => ?_⟩
    · conv => whnf
      refine ⟨rfl, ?_⟩
      conv => whnf
      exact ⟨[], _, _, _, rfl, rfl, rfl, two_ret (by rw [hw]; unfold packWorth; rw [b1, b2, c2]; rfl), trivial⟩
    conv => whnf
    refine ⟨hv, ?_⟩
    conv => whnf
    intro z hz
    have hz : z = quoI (-4503599627370496) (l.getD j noField).worth := hz
    subst hz
    conv => whnf
    refine ⟨rfl, ?_⟩
    conv => whnf
    refine ⟨fun c3 => ?_, fun c3 => ?_⟩
    · conv => whnf
      exact ⟨[], _, _, _, rfl, rfl, rfl, two_ret (by rw [hw]; unfold packWorth; rw [b1, b2, c2, c3]; rfl), trivial⟩
    conv => whnf
    intro z hz
    subst hz
    conv => whnf
    exact ⟨[], _, _, _, rfl, rfl, rfl, two_ret (by rw [hw]; unfold packWorth; rw [b1, b2, c2, c3]; rfl), trivial⟩
end Go.Proofs.YtalpbdabeffnlaaGreat

/- Whether an op is right, and fits. -/
set_option linter.unusedVariables false
set_option linter.unusedSimpArgs false
namespace Go.Proofs.YtalpbdabeffnlaaGreat
open Go Go.Av
set_option maxRecDepth 100000
set_option maxHeartbeats 4000000

def fitsText (f : SField) (s : ByteArray) : Bool := fieldOk f && (if iEq f.kind 2 || iEq f.kind 4 then textOk s else if iEq f.kind 3 then iLe 0 (idxOf f.cases s) else false)
theorem f328 (f : SField) (s : ByteArray) (hf : okField f) : PCall Tryz.prog 58 [encField f, .val (.string s)] (.p (.val (.bool (fitsText f s)))) [] := by
  refine gcode hT hM Tryz.func58 rfl rfl (rv := [(4, none)]) rfl rfl rfl fun G hG => ?_
  conv => whnf
  refine CallK.lent (f71 f hf) rfl ?_
  conv => whnf
  refine ⟨fun h1 => ?_, fun h1 => ?_⟩
  · have h1 := nott h1
    conv => whnf
    exact ⟨[], _, _, _, rfl, rfl, rfl, RepLe.bl (by unfold fitsText; rw [h1]; rfl), trivial⟩
  have h1 := notf h1
  conv => whnf
  refine ⟨fun k2 => ?_, fun k2 => ?_⟩
  · conv => whnf
    refine ⟨fun _ => ?_, fun h => Bool.noConfusion (k2.symm.trans h)⟩
    conv => whnf
    refine CallK.lent (f75 s) rfl ?_
    conv => whnf
    exact ⟨[], _, _, _, rfl, rfl, rfl, RepLe.vb (by unfold fitsText; rw [h1, k2]; rfl), trivial⟩
  conv => whnf
  refine ⟨fun k4 => ?_, fun k4 => ?_⟩
  · conv => whnf
    refine CallK.lent (f75 s) rfl ?_
    conv => whnf
    exact ⟨[], _, _, _, rfl, rfl, rfl, RepLe.vb (by unfold fitsText; rw [h1, k2, k4]; rfl), trivial⟩
  conv => whnf
  refine ⟨fun k3 => ?_, fun k3 => ?_⟩
  · conv => whnf
    refine CallK.lent (f138 f.cases s hf) rfl ?_
    conv => whnf
    exact ⟨[], _, _, _, rfl, rfl, rfl, RepLe.vb (by unfold fitsText; rw [h1, k2, k4, k3]; rfl), trivial⟩
  conv => whnf
  exact ⟨[], _, _, _, rfl, rfl, rfl, RepLe.bl (by unfold fitsText; rw [h1, k2, k4, k3]; rfl), trivial⟩

def opRest (o : SOp) : Bool :=
  if iEq o.kind 5 then true else if iEq o.kind 1 || iEq o.kind 2 then nameOk o.item
  else (iEq o.place.scope 0 || nameOk o.item) && (placeOk o.place && (iLe (-1048576) o.delta && (iLe o.delta 1048576 && textOk o.text)))
def opRight (o : SOp) : Bool :=
  !iLt o.kind 1 && (!iLt 5 o.kind && (sameOp o (partsOp o) && (dropsOk o && (nameOk o.cart && (tagOk o.id && ((sameTag o.sch noTag || tagOk o.sch) && (!iLt o.time 1 && (!iLt 1099511627776 o.time && opRest o))))))))
theorem f327 (o : SOp) (ho : fitOp o) : PCall Tryz.prog 57 [encOp o] (.p (.val (.bool (opRight o)))) [] := by
  have hdl : o.drops.length ≤ maxLen := Nat.le_trans ho (by decide)
  refine gcode hT hM Tryz.func57 rfl rfl (rv := [(2, none)]) rfl rfl rfl fun G hG => ?_
  conv => whnf
  refine ⟨fun a1 => ?_, fun a1 => ?_⟩
  · conv => whnf
    refine ⟨rfl, ?_⟩
    conv => whnf
    exact ⟨[], _, _, _, rfl, rfl, rfl, RepLe.bl (by unfold opRight; rw [a1]; rfl), trivial⟩
  conv => whnf
  refine ⟨fun a2 => ?_, fun a2 => ?_⟩
  · conv => whnf
    refine ⟨rfl, ?_⟩
    conv => whnf
    exact ⟨[], _, _, _, rfl, rfl, rfl, RepLe.bl (by unfold opRight; rw [a1, a2]; rfl), trivial⟩
  conv => whnf
  refine CallK.go [] (f344 o) rfl rfl rfl rfl rfl ?_
  conv => whnf
  refine CallK.lent (f343 o (partsOp o) hdl) rfl ?_
  conv => whnf
  refine ⟨fun a3 => ?_, fun a3 => ?_⟩
  · have a3 := nott a3
    conv => whnf
    refine ⟨rfl, ?_⟩
    conv => whnf
    exact ⟨[], _, _, _, rfl, rfl, rfl, RepLe.bl (by unfold opRight; rw [a1, a2, a3]; rfl), trivial⟩
  have a3 := notf a3
  conv => whnf
  refine CallK.lent (f345 o hdl) rfl ?_
  conv => whnf
  refine ⟨fun a4 => ?_, fun a4 => ?_⟩
  · have a4 := nott a4
    conv => whnf
    refine ⟨rfl, ?_⟩
    conv => whnf
    exact ⟨[], _, _, _, rfl, rfl, rfl, RepLe.bl (by unfold opRight; rw [a1, a2, a3, a4]; rfl), trivial⟩
  have a4 := notf a4
  conv => whnf
  refine CallK.lent (f73 o.cart) rfl ?_
  conv => whnf
  refine ⟨rfl, ?_⟩
  conv => whnf
  refine ⟨fun a5 => ?_, fun a5 => ?_⟩
  · have a5 := nott a5
    conv => whnf
    exact ⟨[], _, _, _, rfl, rfl, rfl, RepLe.bl (by unfold opRight; rw [a1, a2, a3, a4, a5]; rfl), trivial⟩
  have a5 := notf a5
  conv => whnf
  refine CallK.lent (f346 o.id) rfl ?_
  conv => whnf
  refine ⟨fun a6 => ?_, fun a6 => ?_⟩
  · have a6 := nott a6
    conv => whnf
    exact ⟨[], _, _, _, rfl, rfl, rfl, RepLe.bl (by unfold opRight; rw [a1, a2, a3, a4, a5, a6]; rfl), trivial⟩
  have a6 := notf a6
  conv => whnf
  refine ⟨fun a7 => ?_, fun a7 => ?_⟩
  · have a7 : sameTag o.sch noTag = false := by unfold sameTag noTag; have := nott a7; simpa using this
    conv => whnf
    refine CallK.lent (f346 o.sch) rfl ?_
    conv => whnf
    refine ⟨fun a8 => ?_, fun a8 => ?_⟩
    · have a8 := nott a8
      conv => whnf
      exact ⟨[], _, _, _, rfl, rfl, rfl, RepLe.bl (by unfold opRight; rw [a1, a2, a3, a4, a5, a6, a7, a8]; rfl), trivial⟩
    have a8 := notf a8
    conv => whnf
    refine ⟨fun b1 => ?_, fun b1 => ?_⟩
    · conv => whnf
      exact ⟨[], _, _, _, rfl, rfl, rfl, RepLe.bl (by unfold opRight; rw [a1, a2, a3, a4, a5, a6, a7, a8, b1]; rfl), trivial⟩
    conv => whnf
    refine ⟨fun b2 => ?_, fun b2 => ?_⟩
    · conv => whnf
      exact ⟨[], _, _, _, rfl, rfl, rfl, RepLe.bl (by unfold opRight; rw [a1, a2, a3, a4, a5, a6, a7, a8, b1, b2]; rfl), trivial⟩
    have hr : opRight o = opRest o := by unfold opRight; rw [a1, a2, a3, a4, a5, a6, a7, a8, b1, b2]; rfl
    conv => whnf
    refine ⟨fun k5 => ?_, fun k5 => ?_⟩
    · conv => whnf
      exact ⟨[], _, _, _, rfl, rfl, rfl, RepLe.bl (by rw [hr]; unfold opRest; rw [k5]; rfl), trivial⟩
    conv => whnf
    refine ⟨fun k1 => ?_, fun k1 => ?_⟩
    · conv => whnf
      refine CallK.lent (f73 o.item) rfl ?_
      conv => whnf
      exact ⟨[], _, _, _, rfl, rfl, rfl, RepLe.vb (by rw [hr]; unfold opRest; rw [k5, k1]; rfl), trivial⟩
    conv => whnf
    refine ⟨fun k2 => ?_, fun k2 => ?_⟩
    · conv => whnf
      refine CallK.lent (f73 o.item) rfl ?_
      conv => whnf
      exact ⟨[], _, _, _, rfl, rfl, rfl, RepLe.vb (by rw [hr]; unfold opRest; rw [k5, k1, k2]; rfl), trivial⟩
    have hr : opRight o = ((iEq o.place.scope 0 || nameOk o.item) && (placeOk o.place && (iLe (-1048576) o.delta && (iLe o.delta 1048576 && textOk o.text)))) := by rw [hr]; unfold opRest; rw [k5, k1, k2]; rfl
    conv => whnf
    clear k1 k2 k5 b1 b2
    repeat' (first
      | (refine ⟨fun _ => ?_, fun _ => ?_⟩ <;> (conv => whnf))
      | (refine And.intro (by omega) ?_; conv => whnf)
      | (refine CallK.lent (f73 o.item) rfl ?_; conv => whnf)
      | (refine CallK.lent (f72 o.place) rfl ?_; conv => whnf)
      | (refine CallK.lent (f75 o.text) rfl ?_; conv => whnf)
      | (refine And.intro rfl ?_; conv => whnf)
      | (exact ⟨[], _, _, _, rfl, rfl, rfl, RepLe.bl (by first | (simp_all [hr]; done) | grind [hr]), trivial⟩)
      | (exact ⟨[], _, _, _, rfl, rfl, rfl, RepLe.vb (by first | (simp_all [hr]; done) | grind [hr]), trivial⟩)
      | (intro z hz; have hy := wrap64_eq hz (by omega) (by omega); clear hz; subst hy; conv => whnf)
      | (exact ⟨i + 1, ⟨by omega, by first | (simp_all [hr]; done) | grind [hr]⟩, by omega, stle ⟨trivial, trivial⟩ trivial rfl⟩))
  have a7 : sameTag o.sch noTag = true := by unfold sameTag noTag; have := notf a7; simpa using this
  conv => whnf
  refine ⟨fun b1 => ?_, fun b1 => ?_⟩
  · conv => whnf
    exact ⟨[], _, _, _, rfl, rfl, rfl, RepLe.bl (by unfold opRight; rw [a1, a2, a3, a4, a5, a6, a7, b1]; rfl), trivial⟩
  conv => whnf
  refine ⟨fun b2 => ?_, fun b2 => ?_⟩
  · conv => whnf
    exact ⟨[], _, _, _, rfl, rfl, rfl, RepLe.bl (by unfold opRight; rw [a1, a2, a3, a4, a5, a6, a7, b1, b2]; rfl), trivial⟩
  have hr : opRight o = opRest o := by unfold opRight; rw [a1, a2, a3, a4, a5, a6, a7, b1, b2]; rfl
  conv => whnf
  refine ⟨fun k5 => ?_, fun k5 => ?_⟩
  · conv => whnf
    exact ⟨[], _, _, _, rfl, rfl, rfl, RepLe.bl (by rw [hr]; unfold opRest; rw [k5]; rfl), trivial⟩
  conv => whnf
  refine ⟨fun k1 => ?_, fun k1 => ?_⟩
  · conv => whnf
    refine CallK.lent (f73 o.item) rfl ?_
    conv => whnf
    exact ⟨[], _, _, _, rfl, rfl, rfl, RepLe.vb (by rw [hr]; unfold opRest; rw [k5, k1]; rfl), trivial⟩
  conv => whnf
  refine ⟨fun k2 => ?_, fun k2 => ?_⟩
  · conv => whnf
    refine CallK.lent (f73 o.item) rfl ?_
    conv => whnf
    exact ⟨[], _, _, _, rfl, rfl, rfl, RepLe.vb (by rw [hr]; unfold opRest; rw [k5, k1, k2]; rfl), trivial⟩
  have hr : opRight o = ((iEq o.place.scope 0 || nameOk o.item) && (placeOk o.place && (iLe (-1048576) o.delta && (iLe o.delta 1048576 && textOk o.text)))) := by rw [hr]; unfold opRest; rw [k5, k1, k2]; rfl
  conv => whnf
  clear k1 k2 k5 b1 b2
  repeat' (first
    | (refine ⟨fun _ => ?_, fun _ => ?_⟩ <;> (conv => whnf))
    | (refine And.intro (by omega) ?_; conv => whnf)
    | (refine CallK.lent (f73 o.item) rfl ?_; conv => whnf)
    | (refine CallK.lent (f72 o.place) rfl ?_; conv => whnf)
    | (refine CallK.lent (f75 o.text) rfl ?_; conv => whnf)
    | (refine And.intro rfl ?_; conv => whnf)
    | (exact ⟨[], _, _, _, rfl, rfl, rfl, RepLe.bl (by first | (simp_all [hr]; done) | grind [hr]), trivial⟩)
    | (exact ⟨[], _, _, _, rfl, rfl, rfl, RepLe.vb (by first | (simp_all [hr]; done) | grind [hr]), trivial⟩)
    | (intro z hz; have hy := wrap64_eq hz (by omega) (by omega); clear hz; subst hy; conv => whnf)
    | (exact ⟨i + 1, ⟨by omega, by first | (simp_all [hr]; done) | grind [hr]⟩, by omega, stle ⟨trivial, trivial⟩ trivial rfl⟩))

def fitsOp (l : List SField) (o : SOp) : Bool :=
  opRight o && (if !iEq o.kind 3 && !iEq o.kind 4 then true else (iEq (fieldAt l (placeIn l o.place)).2 0 && (if iEq o.kind 3 then iEq (fieldAt l (placeIn l o.place)).1.kind 1 else if o.has then fitsText (fieldAt l (placeIn l o.place)).1 o.text else iEq (fieldAt l (placeIn l o.place)).1.kind 4)))
theorem at_ok {l : List SField} (hl : fitFields l) (r : SRef) : okField (fieldAt l (placeIn l r)).1 := by
  cases placeIn l r with
  | none => exact Nat.zero_le _
  | some j => exact hl.ok.at j
theorem f313 (l : List SField) (o : SOp) (hl : fitFields l) (ho : fitOp o) : PCall Tryz.prog 23 [encFields l, encOp o] (.p (.val (.bool (fitsOp l o)))) [] := by
  refine gcode hT hM Tryz.func23 rfl rfl (rv := [(4, none)]) rfl rfl rfl fun G hG => ?_
  conv => whnf
  refine CallK.lent (f327 o ho) rfl ?_
  conv => whnf
  refine ⟨fun a1 => ?_, fun a1 => ?_⟩
  · have a1 := nott a1
    conv => whnf
    exact ⟨[], _, _, _, rfl, rfl, rfl, RepLe.bl (by unfold fitsOp; rw [a1]; rfl), trivial⟩
  have a1 := notf a1
  conv => whnf
  refine ⟨fun k3 => ?_, fun k3 => ?_⟩
  · have k3 : iEq o.kind 3 = false := nott k3
    conv => whnf
    refine ⟨fun k4 => ?_, fun k4 => ?_⟩
    · have k4 : iEq o.kind 4 = false := nott k4
      conv => whnf
      exact ⟨[], _, _, _, rfl, rfl, rfl, RepLe.bl (by unfold fitsOp; rw [a1, k3, k4]; rfl), trivial⟩
    have k4 : iEq o.kind 4 = true := notf k4
    conv => whnf
    refine CallK.go [] (f30 l o.place hl) rfl rfl rfl rfl rfl ?_
    conv => whnf
    refine ⟨fun e1 => ?_, fun e1 => ?_⟩
    · have e1 := nott e1
      conv => whnf
      exact ⟨[], _, _, _, rfl, rfl, rfl, RepLe.bl (by unfold fitsOp; rw [a1, k3, k4, e1]; rfl), trivial⟩
    have e1 := notf e1
    conv => whnf
    refine ⟨fun h => Bool.noConfusion (k3.symm.trans h), fun _ => ?_⟩
    conv => whnf
    refine ⟨fun t1 => ?_, fun t1 => ?_⟩
    · conv => whnf
      refine CallK.lent (f328 (fieldAt l (placeIn l o.place)).1 o.text (at_ok hl _)) rfl ?_
      conv => whnf
      exact ⟨[], _, _, _, rfl, rfl, rfl, RepLe.vb (by unfold fitsOp; rw [a1, k3, k4, e1, t1]; rfl), trivial⟩
    conv => whnf
    exact ⟨[], _, _, _, rfl, rfl, rfl, RepLe.vb (by unfold fitsOp; rw [a1, k3, k4, e1, t1]; rfl), trivial⟩
  have k3 : iEq o.kind 3 = true := notf k3
  conv => whnf
  refine CallK.go [] (f30 l o.place hl) rfl rfl rfl rfl rfl ?_
  conv => whnf
  refine ⟨fun e1 => ?_, fun e1 => ?_⟩
  · have e1 := nott e1
    conv => whnf
    exact ⟨[], _, _, _, rfl, rfl, rfl, RepLe.bl (by unfold fitsOp; rw [a1, k3, e1]; rfl), trivial⟩
  have e1 := notf e1
  conv => whnf
  refine ⟨fun _ => ?_, fun h => Bool.noConfusion (k3.symm.trans h)⟩
  conv => whnf
  exact ⟨[], _, _, _, rfl, rfl, rfl, RepLe.vb (by unfold fitsOp; rw [a1, k3, e1]; rfl), trivial⟩

def heavyOp (o : SOp) : Bool := bigS o.cart || (bigS o.item || (bigS o.place.group || (bigS o.place.name || (bigS o.text || iLt 200 o.drops.length))))
theorem f310 (o : SOp) : PCall Tryz.prog 19 [encOp o] (.p (.val (.bool (heavyOp o)))) [] := by
  refine gcode hT hM Tryz.func19 rfl rfl (rv := [(2, none)]) rfl rfl rfl fun G hG => ?_
  conv => whnf
  repeat' (first
    | (refine ⟨fun _ => ?_, fun _ => ?_⟩ <;> (conv => whnf))
    | (refine And.intro (by omega) ?_; conv => whnf)
    | (refine And.intro rfl ?_; conv => whnf)
    | (exact ⟨[], _, _, _, rfl, rfl, rfl, RepLe.bl (by first | (simp_all [heavyOp, bigS]; done) | grind [heavyOp, bigS]), trivial⟩)
    | (exact ⟨[], _, _, _, rfl, rfl, rfl, RepLe.vb (by first | (simp_all [heavyOp, bigS]; done) | grind [heavyOp, bigS]), trivial⟩)
    | (intro z hz; have hy := wrap64_eq hz (by omega) (by omega); clear hz; subst hy; conv => whnf)
    | (exact ⟨i + 1, ⟨by omega, by first | (simp_all [heavyOp, bigS]; done) | grind [heavyOp, bigS]⟩, by omega, stle ⟨trivial, trivial⟩ trivial rfl⟩))
end Go.Proofs.YtalpbdabeffnlaaGreat

/- What a lens does not touch stays: plain law. -/
set_option linter.unusedVariables false
set_option linter.unusedSimpArgs false
namespace Go.Proofs.YtalpbdabeffnlaaGreat
open Go Go.Av
set_option maxRecDepth 100000

theorem place_some {l : List SField} {r : SRef} {j : Nat} (h : placeIn l r = some j) : l.getD j noField ∈ l ∧ (l.getD j noField).place = r := by
  obtain ⟨_, hj, hp, _⟩ := findUpto_some _ _ _ _ h
  exact ⟨at_mem (by omega), same_ref.1 hp⟩
theorem notAt_iff {l : List SField} {r : SRef} {f : SField} : f ∈ notAt l r ↔ f ∈ l ∧ f.place ≠ r := by
  refine ⟨fun h => ?_, fun h => notAt_mem h.1 h.2⟩
  unfold notAt at h
  rw [List.mem_filter] at h
  refine ⟨h.1, fun e => ?_⟩
  have := h.2
  rw [e, sameRef_self] at this
  cases this
theorem put_iff {l : List SField} {f g : SField} : g ∈ putIn l f ↔ g ∈ l ∨ g = f := by
  refine ⟨fun h => ?_, put_mem⟩
  rw [(put_perm l f).mem_iff, List.mem_append, List.mem_singleton] at h
  exact h
theorem take_keeps {l : List SField} : ∀ (gs : List SRef) (rest was : List SField) (p : List SField × List SField), takeAll l gs rest was = some p → rightFields rest = true → gs.Nodup → (∀ f, f ∈ l → f.place ∈ gs → f ∈ rest) →
    p.1.length + gs.length = rest.length ∧ rightFields p.1 = true ∧ ∀ f, f ∈ p.1 ↔ f ∈ rest ∧ f.place ∉ gs
  | [], rest, was, p, h, hr, _, _ => by
    have h : some (rest, was) = some p := h
    obtain rfl := Option.some.inj h
    exact ⟨rfl, hr, fun f => by simp⟩
  | g :: gs, rest, was, p, h, hr, hn, hin => by
    unfold takeAll at h
    cases q : placeIn l g with
    | none => rw [q] at h; cases h
    | some j =>
      rw [q] at h
      have h : takeAll l gs (withoutF rest g).1 (was ++ [l.getD j noField]) = some p := h
      obtain ⟨hm, hp⟩ := place_some q
      have hm2 := hin _ hm (by rw [hp]; exact List.mem_cons_self)
      obtain ⟨k, hk, _⟩ := find_mem hr hm2
      rw [hp] at hk
      rw [without_is hr hk] at h
      have hlen : (notAt rest g).length + 1 = rest.length := by
        rw [notAt_erase hr hk, List.length_eraseIdx_of_lt (place_lt hk)]
        have := place_lt hk
        omega
      have hr2 : rightFields (notAt rest g) = true := by
        have := without_right hr g
        rw [without_is hr hk] at this
        exact this
      have hn := List.nodup_cons.1 hn
      obtain ⟨a, b, c⟩ := take_keeps gs _ _ p h hr2 hn.2 (fun f hf hg => notAt_iff.2 ⟨hin f hf (List.mem_cons_of_mem _ hg), fun e => hn.1 (e ▸ hg)⟩)
      refine ⟨by rw [List.length_cons]; omega, b, fun f => ?_⟩
      rw [c, notAt_iff, List.mem_cons, not_or, and_assoc]
theorem put_keeps : ∀ (cs : List SRef) (now rest : List SField), (putAll cs now rest).2 = 0 → rightFields rest = true →
    (putAll cs now rest).1.length = rest.length + cs.length ∧ (∀ r ∈ cs, ∃ f ∈ (putAll cs now rest).1, f.place = r) ∧ (∀ f, f.place ∉ cs → (f ∈ (putAll cs now rest).1 ↔ f ∈ rest)) ∧ ∀ f, f ∈ rest → f ∈ (putAll cs now rest).1
  | [], now, rest, h, hr => ⟨rfl, fun r hr => by simp at hr, fun f _ => Iff.rfl, fun f h => h⟩
  | c :: cs, now, rest, h, hr => by
    unfold putAll at h ⊢
    cases q : iEq (withF rest { now.getD 0 noField with place := c }).2 0 with
    | false => rw [q] at h; exact absurd h (show ¬ (16 : Int) = 0 by decide)
    | true =>
      rw [q] at h
      obtain ⟨_, hf, hp, h15, e⟩ := with_zero q
      have h : (putAll cs (now.drop 1) (withF rest { now.getD 0 noField with place := c }).1).2 = 0 := h
      show (putAll cs (now.drop 1) (withF rest { now.getD 0 noField with place := c }).1).1.length = _ ∧ (∀ r ∈ c :: cs, ∃ f ∈ (putAll cs (now.drop 1) (withF rest { now.getD 0 noField with place := c }).1).1, f.place = r) ∧ (∀ f, f.place ∉ c :: cs → (f ∈ (putAll cs (now.drop 1) (withF rest { now.getD 0 noField with place := c }).1).1 ↔ f ∈ rest)) ∧ ∀ f, f ∈ rest → f ∈ (putAll cs (now.drop 1) (withF rest { now.getD 0 noField with place := c }).1).1
      rw [e] at h ⊢
      have hr2 := put_right hr hf hp h15
      obtain ⟨a, b, d, g⟩ := put_keeps cs _ _ h hr2
      refine ⟨?_, fun r hr => ?_, fun f hf => ?_, fun f hf => g f (put_mem (.inl hf))⟩
      · rw [a]; show (putIn _ _).length + _ = _; rw [(put_perm _ _).length_eq, List.length_append, List.length_cons, List.length_cons, List.length_nil]; omega
      · rcases List.mem_cons.1 hr with rfl | hr
        · exact ⟨_, g _ (put_mem (.inr rfl)), rfl⟩
        · exact b r hr
      · rw [List.mem_cons, not_or] at hf
        rw [d f hf.2, put_iff]
        exact ⟨fun h => h.elim id fun e => absurd (by rw [e]) hf.1, .inl⟩
theorem goes_nodup {x : SLens} (h : lensOk x = true) : (goesOf x).Nodup := by
  unfold goesOf
  rw [h]
  cases h2 : iEq x.kind 2 with
  | true => exact List.nodup_nil
  | false =>
    cases h3 : iEq x.kind 3 with
    | true => exact List.nodup_cons.2 ⟨by simp, List.nodup_nil⟩
    | false =>
      cases h9 : iEq x.kind 9 with
      | false => exact List.nodup_cons.2 ⟨by simp, List.nodup_nil⟩
      | true =>
        show ([_, _] : List SRef).Nodup
        rw [List.nodup_cons]
        exact ⟨fun h => two_places (two_facts ‹_› (.inr h9)) (List.mem_singleton.1 h), List.nodup_cons.2 ⟨by simp, List.nodup_nil⟩⟩
/-- A lens that fits. -/
theorem apply_keeps {l : List SField} {x : SLens} (h0 : (applyF l x).2 = 0) :
    (applyF l x).1.length + (goesOf x).length = l.length + (comesOf x).length ∧ (∀ r ∈ comesOf x, ∃ j, placeIn (applyF l x).1 r = some j) ∧
    ∀ r, r ∉ goesOf x → r ∉ comesOf x → fieldAt (applyF l x).1 (placeIn (applyF l x).1 r) = fieldAt l (placeIn l r) := by
  obtain ⟨hx, hl⟩ := apply_ok h0
  have hm := apply_right h0
  have key : (applyF l x).1.length + (goesOf x).length = l.length + (comesOf x).length ∧ (∀ r ∈ comesOf x, ∃ f ∈ (applyF l x).1, f.place = r) ∧
      ∀ f, f.place ∉ goesOf x → f.place ∉ comesOf x → (f ∈ (applyF l x).1 ↔ f ∈ l) := by
    unfold applyF at h0 ⊢
    rw [hl, hx] at h0 ⊢
    cases ht : takeAll l (goesOf x) l [] with
    | none => rw [ht] at h0; exact absurd h0 (show ¬ (16 : Int) = 0 by decide)
    | some p =>
      obtain ⟨rest, was⟩ := p
      rw [ht] at h0
      cases hb : (turnedOf x was).2 with
      | false =>
        have h0 : (if (turnedOf x was).2 = true then putAll (comesOf x) (turnedOf x was).1 rest else ([], 16)).2 = 0 := h0
        rw [hb] at h0; exact absurd h0 (show ¬ (16 : Int) = 0 by decide)
      | true =>
        have h0 : (if (turnedOf x was).2 = true then putAll (comesOf x) (turnedOf x was).1 rest else ([], 16)).2 = 0 := h0
        show (if (turnedOf x was).2 = true then putAll (comesOf x) (turnedOf x was).1 rest else ([], 16)).1.length + _ = _ ∧ (∀ r ∈ comesOf x, ∃ f ∈ (if (turnedOf x was).2 = true then putAll (comesOf x) (turnedOf x was).1 rest else ([], 16)).1, f.place = r) ∧ ∀ f, f.place ∉ goesOf x → f.place ∉ comesOf x → (f ∈ (if (turnedOf x was).2 = true then putAll (comesOf x) (turnedOf x was).1 rest else ([], 16)).1 ↔ f ∈ l)
        rw [if_pos hb] at h0 ⊢
        obtain ⟨a, b, c⟩ := take_keeps _ _ _ _ ht hl (goes_nodup hx) (fun f hf _ => hf)
        obtain ⟨a2, b2, c2, _⟩ := put_keeps _ (turnedOf x was).1 _ h0 b
        simp only at a b c
        refine ⟨by omega, b2, fun f hg hc => ?_⟩
        rw [c2 f hc, c]
        exact ⟨fun h => h.1, fun h => ⟨h, hg⟩⟩
  obtain ⟨k1, k2, k3⟩ := key
  refine ⟨k1, fun r hr => ?_, fun r hg hc => ?_⟩
  · obtain ⟨f, hf, rfl⟩ := k2 r hr
    obtain ⟨j, hj, _⟩ := find_mem hm hf
    exact ⟨j, hj⟩
  · cases q : placeIn l r with
    | some j =>
      obtain ⟨hj, hp⟩ := place_some q
      have hj2 := (k3 _ (by rw [hp]; exact hg) (by rw [hp]; exact hc)).2 hj
      obtain ⟨k, hk, e⟩ := find_mem hm hj2
      rw [hp] at hk
      rw [hk]
      show ((applyF l x).1.getD k noField, (0 : Int)) = (l.getD j noField, 0)
      rw [e]
    | none =>
      cases q2 : placeIn (applyF l x).1 r with
      | none => rfl
      | some k =>
        obtain ⟨hk, hp⟩ := place_some q2
        have hk2 := (k3 _ (by rw [hp]; exact hg) (by rw [hp]; exact hc)).1 hk
        obtain ⟨j, hj, _⟩ := find_mem hl hk2
        rw [hp, q] at hj
        cases hj
theorem hasRef_iff {l : List SRef} {r : SRef} : hasRef l r = true ↔ r ∈ l := by
  unfold hasRef
  rw [Bool.not_eq_true', ← Bool.not_eq_true, allUpto_iff]
  constructor
  · intro h
    simp only [Nat.zero_le, Nat.zero_add, forall_const] at h
    rw [Classical.not_forall] at h
    obtain ⟨i, h⟩ := h
    rw [Classical.not_imp] at h
    obtain ⟨hi, h⟩ := h
    have h : sameRef (l.getD i noRef) r = true := by simpa using h
    have h := same_ref.1 h
    rw [List.getD_eq_getElem?_getD, List.getElem?_eq_getElem hi] at h
    exact h ▸ List.getElem_mem hi
  · intro h hall
    obtain ⟨i, hi, e⟩ := List.getElem_of_mem h
    have := hall i (Nat.zero_le _) (by omega)
    rw [List.getD_eq_getElem?_getD, List.getElem?_eq_getElem hi] at this
    rw [show ((some l[i]).getD noRef : SRef) = r from e, sameRef_self] at this
    cases this
end Go.Proofs.YtalpbdabeffnlaaGreat
