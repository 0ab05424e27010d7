import Derived.Test.YtalpbdabeffnlaaGreatJoBE
import Derived.Test.YtalpbdabeffnlaaGreatJoBK
import Derived.Test.YtalpbdabeffnlaaGreatJoX
import Derived.Test.YtalpbdabeffnlaaGreatJoAA
/- The reference: where a lens leads. -/
set_option linter.unusedVariables false
set_option linter.unusedSimpArgs false
namespace Go.Proofs.YtalpbdabeffnlaaGreat
open Go Go.Av
set_option maxRecDepth 100000
set_option maxHeartbeats 4000000

theorem nott {b : Bool} (h : (!b) = true) : b = false := by cases b; rfl; cases h
theorem notf {b : Bool} (h : (!b) = false) : b = true := by cases b; cases h; rfl
theorem allLe3 {a b c d e f : AV} (h1 : RepLe a d) (h2 : RepLe b e) (h3 : RepLe c f) : allLe [a, b, c] [d, e, f] := ⟨h1, h2, h3, trivial⟩
def rp (l : List SField) (x : SLens) (p : Nat × List SField × List SField) : St :=
  told 283 [(0, .p (encFields l)), (3, .pt 0 0), (6, .p (encFields p.2.1)), (7, .sl 16384), (8, .p (encRefs (goesOf x))), (9, vI .i64 (p.1 : Int))] [(0, some (.box 42 ((lensCells x).map .p))), (16384, rowFields p.2.2)] [0, 16384]
theorem f50 (l : List SField) (x : SLens) (hl : fitFields l) (hx : fitLens x) : PCall Tryz.prog 42 [encFields l, encLens x] (encTake (applyF l x)) [] := by
  have hlen := hl.1
  refine gcode hT hM Tryz.func42 rfl rfl (rv := [(4, none), (5, none)]) rfl rfl rfl fun G hG => ?_
  conv => whnf
  refine CallK.lent (f34 l hl.ok) rfl ?_
  conv => whnf
  refine ⟨fun h1 => ?_, fun h1 => ?_⟩
  · have h1 : rightFields l = false := by simpa using h1
    conv => whnf
    exact ⟨[], _, _, _, rfl, rfl, rfl, by unfold applyF; rw [h1]; exact nil_take, trivial⟩
  have h1 : rightFields l = true := by simpa using h1
  conv => whnf
  refine CallK.lent (f56 x hx) rfl ?_
  conv => whnf
  refine ⟨fun h2 => ?_, fun h2 => ?_⟩
  · have h2 : lensOk x = false := by simpa using h2
    conv => whnf
    exact ⟨[], _, _, _, rfl, rfl, rfl, by unfold applyF; rw [h1, h2]; exact nil_take, trivial⟩
  have h2 : lensOk x = true := by simpa using h2
  conv => whnf
  have c59 := f59 x
  rw [goes2_eq h2] at c59
  refine CallK.go [] (c59) rfl rfl rfl rfl rfl ?_
  conv => whnf
  have hgl : (goesOf x).length ≤ 2 := by rw [goes_len h2]; cases iEq x.kind 2 <;> cases iEq x.kind 3 <;> cases iEq x.kind 9 <;> decide
  refine AW.loop (X := Nat × List SField × List SField) (rp l x) (fun p => p.1 ≤ (goesOf x).length ∧ p.2.2.length = p.1 ∧ fitFields p.2.1 ∧ (∀ y ∈ p.2.2, y ∈ l) ∧ takeAll l (goesOf x) l [] = takeAll l ((goesOf x).drop p.1) p.2.1 p.2.2) (fun p => (goesOf x).length - p.1) (used0 hG _) (0, l, []) ⟨Nat.zero_le _, rfl, hl, fun y hy => by simp at hy, rfl⟩
    (show StLe _ (rp l x (0, l, [])) from stle ⟨RepLe.refl _, RepLe.refl _, RepLe.refl _, RepLe.refl _, RepLe.refl _, RepLe.refl _, trivial⟩ ⟨⟨_, rfl, BlkLe.refl _⟩, ⟨_, rfl, BlkLe.rowLe rfl fun a b ha hb => absurd ha (Nat.not_lt_zero _)⟩, trivial⟩ rfl) ?_
  rintro ⟨i, rest, was⟩ ⟨hi, hwl, hfr, hwf, hr⟩
  have hi : i ≤ (goesOf x).length := hi
  have hwl : was.length = i := hwl
  have hfr : fitFields rest := hfr
  have hwf : ∀ y ∈ was, y ∈ l := hwf
  have hr : takeAll l (goesOf x) l [] = takeAll l ((goesOf x).drop i) rest was := hr
  refine codeK_aw hT hM _ _ _ ?_
  conv => whnf
  refine ⟨fun h4 => ?_, fun h4 => ?_⟩
  · have hlt : i < (goesOf x).length := by rw [iLt_t] at h4; omega
    rw [take_step l (goesOf x) rest was hlt] at hr
    have c31 := f31 l ((goesOf x).getD i noRef) hl.ok
    conv => whnf
    refine ⟨by omega, ?_⟩
    conv => whnf
    cases q : placeIn l ((goesOf x).getD i noRef) with
    | none =>
      rw [q] at hr c31
      have ha : applyF l x = ([], 16) := by unfold applyF; rw [h1, h2, hr]; rfl
      refine CallK.go [] (c31) rfl rfl rfl rfl rfl ?_
      conv => whnf
      refine ⟨fun e1 => ?_, fun e1 => ?_⟩
      · conv => whnf
        exact ⟨[], _, _, _, rfl, rfl, rfl, by rw [ha]; exact nil_take, trivial⟩
      · rw [iLt_f] at e1
        exact absurd e1 (show ¬ (0 : Int) ≤ -1 by decide)
    | some j =>
      rw [q] at hr c31
      have hr : takeAll l (goesOf x) l [] = takeAll l ((goesOf x).drop (i + 1)) (withoutF rest ((goesOf x).getD i noRef)).1 (was ++ [l.getD j noField]) := hr
      have hj := place_lt q
      refine CallK.go [] (c31) rfl rfl rfl rfl rfl ?_
      conv => whnf
      refine ⟨fun e1 => ?_, fun e1 => ?_⟩
      · rw [iLt_t] at e1
        exact absurd e1 (show ¬ ((j : Nat) : Int) < 0 by omega)
      conv => whnf
      refine ⟨⟨Int.natCast_nonneg _, Int.ofNat_lt.2 hj⟩, ?_⟩
      conv => whnf
      refine ⟨⟨show was.length + 1 ≤ 9223372036854775807 by omega, show (was.length + 1) * 96 ≤ 140737488355328 by omega⟩, ?_⟩
      conv => whnf
      refine ⟨by omega, ?_⟩
      conv => whnf
      refine CallK.go [] (f47 rest ((goesOf x).getD i noRef) hfr) rfl rfl rfl rfl rfl ?_
      conv => whnf
      intro z hz
      have hy := wrap64_eq hz (by omega) (by omega)
      clear hz
      subst hy
      conv => whnf
      refine ⟨(i + 1, (withoutF rest ((goesOf x).getD i noRef)).1, was ++ [l.getD j noField]), ⟨by omega, by simp [hwl], without_fit hfr, fun y hy => by
          rcases List.mem_append.1 hy with h | h
          · exact hwf y h
          · rw [List.mem_singleton.1 h]; exact at_mem hj, hr⟩, by show (goesOf x).length - (i + 1) < (goesOf x).length - i; omega,
        (show StLe _ (rp l x (i + 1, (withoutF rest ((goesOf x).getD i noRef)).1, was ++ [l.getD j noField])) from stleR [(16384, 49200)] ⟨RepLe.refl _, RepLe.refl _, RepLe.refl _, RepLe.refl _, RepLe.refl _, RepLe.of rfl, trivial⟩ ⟨⟨_, rfl, BlkLe.refl _⟩, ⟨_, rfl, rowSnoc _ _ (seven (PLe.refl _) (PLe.refl _) (PLe.refl _) (PLe.refl _) (PLe.refl _) (PLe.refl _) (PLe.refl _))⟩, trivial⟩ rfl)⟩
  have hge : i = (goesOf x).length := by rw [iLt_f] at h4; omega
  rw [hge, List.drop_length] at hr
  have ht : takeAll l (goesOf x) l [] = some (rest, was) := hr
  have hwn : was.length = (goesOf x).length := hwl.trans hge
  have hwl2 : was.length ≤ 2 := by omega
  have hwp : iEq x.kind 2 = false → 0 < was.length := fun h => by rw [hwn, goes_len h2, h]; cases iEq x.kind 3 <;> cases iEq x.kind 9 <;> decide
  have hwo : 0 < was.length → fieldOk (was.getD 0 noField) = true := fun h => by
    obtain ⟨j, hj, e⟩ := getD_mem (hwf _ (at_mem h))
    rw [← e]; exact (right_step h1 hj).1
  have hwa : ∀ k, fitField (was.getD k noField) := was_at fun y hy => hl.2 y (hwf y hy)
  have c60 := f60 x
  rw [comes2_eq h2] at c60
  clear h4 hr hi hwl hge c59
  conv => whnf
  refine CallK.go [] (c60) rfl rfl rfl rfl rfl ?_
  conv => whnf
  rcases kind_range h2 with k | k | k | k | k | k | k | k | k | k
  · have kk : iEq x.kind 1 = true := iEq_t.2 k
    have q1 : iEq x.kind 1 = true := kk
    have q2 : iEq x.kind 2 = false := kinds 1 kk 2 (by decide)
    have q3 : iEq x.kind 3 = false := kinds 1 kk 3 (by decide)
    have q4 : iEq x.kind 4 = false := kinds 1 kk 4 (by decide)
    have q5 : iEq x.kind 5 = false := kinds 1 kk 5 (by decide)
    have q6 : iEq x.kind 6 = false := kinds 1 kk 6 (by decide)
    have q7 : iEq x.kind 7 = false := kinds 1 kk 7 (by decide)
    have q8 : iEq x.kind 8 = false := kinds 1 kk 8 (by decide)
    have q9 : iEq x.kind 9 = false := kinds 1 kk 9 (by decide)
    have q10 : iEq x.kind 10 = false := kinds 1 kk 10 (by decide)
    have hw := hwp q2
    have hc := comes_one h2 q3 q6
    refine ⟨fun _ => ?_, fun h => Bool.noConfusion (q1.symm.trans h)⟩
    conv => whnf
    refine ⟨(show (0 : Int) ≤ 0 ∧ (0 : Int) < (was.length : Int) by omega), ?_⟩
    conv => whnf
    refine ⟨(show 0 < was.length by omega), ?_⟩
    conv => whnf
    refine ⟨by omega, ?_⟩
    conv => whnf
    refine CallK.go [] (f101 (was.getD 0 noField) ((comesOf x).getD 0 noRef)) rfl rfl rfl rfl rfl ?_
    conv => whnf
    refine CallK.go [] (GCall.args (f100 rest { was.getD 0 noField with place := (comesOf x).getD 0 noRef } true hfr (hwa 0)) ?hh) rfl rfl rfl rfl rfl ?_
    case hh => exact allLe3 (RepLe.refl _) (PLe.rep (PLe.agg (by repeat' (first | refine PLes.cons ?_ ?_ | exact PLe.refl _ | exact PLe.nil | exact PLes.end)))) (by first | exact RepLe.bl rfl | exact RepLe.refl _)
    conv => whnf
    refine ⟨rfl, ?_⟩
    conv => whnf
    refine ⟨fun h => Bool.noConfusion (q2.symm.trans h), fun _ => ?_⟩
    conv => whnf
    refine ⟨fun h => Bool.noConfusion (q3.symm.trans h), fun _ => ?_⟩
    conv => whnf
    refine ⟨fun h => Bool.noConfusion (q6.symm.trans h), fun _ => ?_⟩
    conv => whnf
    refine ⟨fun h => Bool.noConfusion (q7.symm.trans h), fun _ => ?_⟩
    conv => whnf
    refine ⟨fun h => Bool.noConfusion (q8.symm.trans h), fun _ => ?_⟩
    conv => whnf
    refine ⟨fun h => Bool.noConfusion (q9.symm.trans h), fun _ => ?_⟩
    conv => whnf
    refine ⟨fun h => Bool.noConfusion (q10.symm.trans h), fun _ => ?_⟩
    conv => whnf
    refine ⟨fun e1 => ?_, fun e1 => ?_⟩
    · have e1 : (true && iEq (withF rest { was.getD 0 noField with place := (comesOf x).getD 0 noRef }).2 0) = false := nott e1
      have ha := fin_moved h1 h2 ht 1 kk (by omega) rfl
      rw [e1] at ha
      conv => whnf
      exact ⟨[], _, _, _, rfl, rfl, rfl, by rw [ha]; exact nil_take, trivial⟩
    have e1 : (true && iEq (withF rest { was.getD 0 noField with place := (comesOf x).getD 0 noRef }).2 0) = true := notf e1
    have ha := fin_moved h1 h2 ht 1 kk (by omega) rfl
    rw [e1] at ha
    conv => whnf
    exact ⟨[], _, _, _, rfl, rfl, rfl, by rw [ha]; exact RepLe.refl _, trivial⟩
  · have kk : iEq x.kind 2 = true := iEq_t.2 k
    have q1 : iEq x.kind 1 = false := kinds 2 kk 1 (by decide)
    have q2 : iEq x.kind 2 = true := kk
    have q3 : iEq x.kind 3 = false := kinds 2 kk 3 (by decide)
    have q4 : iEq x.kind 4 = false := kinds 2 kk 4 (by decide)
    have q5 : iEq x.kind 5 = false := kinds 2 kk 5 (by decide)
    have q6 : iEq x.kind 6 = false := kinds 2 kk 6 (by decide)
    have q7 : iEq x.kind 7 = false := kinds 2 kk 7 (by decide)
    have q8 : iEq x.kind 8 = false := kinds 2 kk 8 (by decide)
    have q9 : iEq x.kind 9 = false := kinds 2 kk 9 (by decide)
    have q10 : iEq x.kind 10 = false := kinds 2 kk 10 (by decide)
    have hc := comes_one h2 q3 q6
    refine ⟨fun h => Bool.noConfusion (q1.symm.trans h), fun _ => ?_⟩
    conv => whnf
    refine ⟨fun h => Bool.noConfusion (q4.symm.trans h), fun _ => ?_⟩
    conv => whnf
    refine ⟨fun h => Bool.noConfusion (q5.symm.trans h), fun _ => ?_⟩
    conv => whnf
    refine ⟨fun _ => ?_, fun h => Bool.noConfusion (q2.symm.trans h)⟩
    conv => whnf
    refine CallK.go [] (GCall.args (f100 rest x.field true hfr hx.1) ?hh) rfl rfl rfl rfl rfl ?_
    case hh => exact allLe3 (RepLe.refl _) (PLe.rep (PLe.agg (by repeat' (first | refine PLes.cons ?_ ?_ | exact PLe.refl _ | exact PLe.nil | exact PLes.end)))) (by first | exact RepLe.bl rfl | exact RepLe.refl _)
    conv => whnf
    refine ⟨fun h => Bool.noConfusion (q3.symm.trans h), fun _ => ?_⟩
    conv => whnf
    refine ⟨fun h => Bool.noConfusion (q6.symm.trans h), fun _ => ?_⟩
    conv => whnf
    refine ⟨fun h => Bool.noConfusion (q7.symm.trans h), fun _ => ?_⟩
    conv => whnf
    refine ⟨fun h => Bool.noConfusion (q8.symm.trans h), fun _ => ?_⟩
    conv => whnf
    refine ⟨fun h => Bool.noConfusion (q9.symm.trans h), fun _ => ?_⟩
    conv => whnf
    refine ⟨fun h => Bool.noConfusion (q10.symm.trans h), fun _ => ?_⟩
    conv => whnf
    refine ⟨fun e1 => ?_, fun e1 => ?_⟩
    · have e1 : (true && iEq (withF rest x.field).2 0) = false := nott e1
      have ha := fin_added h1 h2 ht kk rfl
      rw [e1] at ha
      conv => whnf
      exact ⟨[], _, _, _, rfl, rfl, rfl, by rw [ha]; exact nil_take, trivial⟩
    have e1 : (true && iEq (withF rest x.field).2 0) = true := notf e1
    have ha := fin_added h1 h2 ht kk rfl
    rw [e1] at ha
    conv => whnf
    exact ⟨[], _, _, _, rfl, rfl, rfl, by rw [ha]; exact RepLe.refl _, trivial⟩
  · have kk : iEq x.kind 3 = true := iEq_t.2 k
    have q1 : iEq x.kind 1 = false := kinds 3 kk 1 (by decide)
    have q2 : iEq x.kind 2 = false := kinds 3 kk 2 (by decide)
    have q3 : iEq x.kind 3 = true := kk
    have q4 : iEq x.kind 4 = false := kinds 3 kk 4 (by decide)
    have q5 : iEq x.kind 5 = false := kinds 3 kk 5 (by decide)
    have q6 : iEq x.kind 6 = false := kinds 3 kk 6 (by decide)
    have q7 : iEq x.kind 7 = false := kinds 3 kk 7 (by decide)
    have q8 : iEq x.kind 8 = false := kinds 3 kk 8 (by decide)
    have q9 : iEq x.kind 9 = false := kinds 3 kk 9 (by decide)
    have q10 : iEq x.kind 10 = false := kinds 3 kk 10 (by decide)
    have hw := hwp q2
    refine ⟨fun h => Bool.noConfusion (q1.symm.trans h), fun _ => ?_⟩
    conv => whnf
    refine ⟨fun h => Bool.noConfusion (q4.symm.trans h), fun _ => ?_⟩
    conv => whnf
    refine ⟨fun h => Bool.noConfusion (q5.symm.trans h), fun _ => ?_⟩
    conv => whnf
    refine ⟨fun h => Bool.noConfusion (q2.symm.trans h), fun _ => ?_⟩
    conv => whnf
    refine ⟨fun _ => ?_, fun h => Bool.noConfusion (q3.symm.trans h)⟩
    conv => whnf
    refine ⟨(show (0 : Int) ≤ 0 ∧ (0 : Int) < (was.length : Int) by omega), ?_⟩
    conv => whnf
    refine ⟨(show 0 < was.length by omega), ?_⟩
    conv => whnf
    refine CallK.lent (f32 (was.getD 0 noField) x.field (hwa 0).ok) rfl ?_
    conv => whnf
    refine ⟨rfl, ?_⟩
    conv => whnf
    refine ⟨fun h => Bool.noConfusion (q6.symm.trans h), fun _ => ?_⟩
    conv => whnf
    refine ⟨fun h => Bool.noConfusion (q7.symm.trans h), fun _ => ?_⟩
    conv => whnf
    refine ⟨fun h => Bool.noConfusion (q8.symm.trans h), fun _ => ?_⟩
    conv => whnf
    refine ⟨fun h => Bool.noConfusion (q9.symm.trans h), fun _ => ?_⟩
    conv => whnf
    refine ⟨fun h => Bool.noConfusion (q10.symm.trans h), fun _ => ?_⟩
    conv => whnf
    refine ⟨fun e1 => ?_, fun e1 => ?_⟩
    · have e1 : sameField (was.getD 0 noField) x.field = false := nott e1
      have ha := fin_gone h1 h2 ht kk rfl
      rw [e1] at ha
      conv => whnf
      exact ⟨[], _, _, _, rfl, rfl, rfl, by rw [ha]; exact nil_take, trivial⟩
    have e1 : sameField (was.getD 0 noField) x.field = true := notf e1
    have ha := fin_gone h1 h2 ht kk rfl
    rw [e1] at ha
    conv => whnf
    exact ⟨[], _, _, _, rfl, rfl, rfl, by rw [ha]; exact RepLe.refl _, trivial⟩
  · have kk : iEq x.kind 4 = true := iEq_t.2 k
    have q1 : iEq x.kind 1 = false := kinds 4 kk 1 (by decide)
    have q2 : iEq x.kind 2 = false := kinds 4 kk 2 (by decide)
    have q3 : iEq x.kind 3 = false := kinds 4 kk 3 (by decide)
    have q4 : iEq x.kind 4 = true := kk
    have q5 : iEq x.kind 5 = false := kinds 4 kk 5 (by decide)
    have q6 : iEq x.kind 6 = false := kinds 4 kk 6 (by decide)
    have q7 : iEq x.kind 7 = false := kinds 4 kk 7 (by decide)
    have q8 : iEq x.kind 8 = false := kinds 4 kk 8 (by decide)
    have q9 : iEq x.kind 9 = false := kinds 4 kk 9 (by decide)
    have q10 : iEq x.kind 10 = false := kinds 4 kk 10 (by decide)
    have hw := hwp q2
    have hc := comes_one h2 q3 q6
    refine ⟨fun h => Bool.noConfusion (q1.symm.trans h), fun _ => ?_⟩
    conv => whnf
    refine ⟨fun _ => ?_, fun h => Bool.noConfusion (q4.symm.trans h)⟩
    conv => whnf
    refine ⟨(show (0 : Int) ≤ 0 ∧ (0 : Int) < (was.length : Int) by omega), ?_⟩
    conv => whnf
    refine ⟨(show 0 < was.length by omega), ?_⟩
    conv => whnf
    refine ⟨by omega, ?_⟩
    conv => whnf
    refine CallK.go [] (f101 (was.getD 0 noField) ((comesOf x).getD 0 noRef)) rfl rfl rfl rfl rfl ?_
    conv => whnf
    refine CallK.go [] (GCall.args (f100 rest { was.getD 0 noField with place := (comesOf x).getD 0 noRef } true hfr (hwa 0)) ?hh) rfl rfl rfl rfl rfl ?_
    case hh => exact allLe3 (RepLe.refl _) (PLe.rep (PLe.agg (by repeat' (first | refine PLes.cons ?_ ?_ | exact PLe.refl _ | exact PLe.nil | exact PLes.end)))) (by first | exact RepLe.bl rfl | exact RepLe.refl _)
    conv => whnf
    refine ⟨rfl, ?_⟩
    conv => whnf
    refine ⟨fun h => Bool.noConfusion (q2.symm.trans h), fun _ => ?_⟩
    conv => whnf
    refine ⟨fun h => Bool.noConfusion (q3.symm.trans h), fun _ => ?_⟩
    conv => whnf
    refine ⟨fun h => Bool.noConfusion (q6.symm.trans h), fun _ => ?_⟩
    conv => whnf
    refine ⟨fun h => Bool.noConfusion (q7.symm.trans h), fun _ => ?_⟩
    conv => whnf
    refine ⟨fun h => Bool.noConfusion (q8.symm.trans h), fun _ => ?_⟩
    conv => whnf
    refine ⟨fun h => Bool.noConfusion (q9.symm.trans h), fun _ => ?_⟩
    conv => whnf
    refine ⟨fun h => Bool.noConfusion (q10.symm.trans h), fun _ => ?_⟩
    conv => whnf
    refine ⟨fun e1 => ?_, fun e1 => ?_⟩
    · have e1 : (true && iEq (withF rest { was.getD 0 noField with place := (comesOf x).getD 0 noRef }).2 0) = false := nott e1
      have ha := fin_moved h1 h2 ht 4 kk (by omega) rfl
      rw [e1] at ha
      conv => whnf
      exact ⟨[], _, _, _, rfl, rfl, rfl, by rw [ha]; exact nil_take, trivial⟩
    have e1 : (true && iEq (withF rest { was.getD 0 noField with place := (comesOf x).getD 0 noRef }).2 0) = true := notf e1
    have ha := fin_moved h1 h2 ht 4 kk (by omega) rfl
    rw [e1] at ha
    conv => whnf
    exact ⟨[], _, _, _, rfl, rfl, rfl, by rw [ha]; exact RepLe.refl _, trivial⟩
  · have kk : iEq x.kind 5 = true := iEq_t.2 k
    have q1 : iEq x.kind 1 = false := kinds 5 kk 1 (by decide)
    have q2 : iEq x.kind 2 = false := kinds 5 kk 2 (by decide)
    have q3 : iEq x.kind 3 = false := kinds 5 kk 3 (by decide)
    have q4 : iEq x.kind 4 = false := kinds 5 kk 4 (by decide)
    have q5 : iEq x.kind 5 = true := kk
    have q6 : iEq x.kind 6 = false := kinds 5 kk 6 (by decide)
    have q7 : iEq x.kind 7 = false := kinds 5 kk 7 (by decide)
    have q8 : iEq x.kind 8 = false := kinds 5 kk 8 (by decide)
    have q9 : iEq x.kind 9 = false := kinds 5 kk 9 (by decide)
    have q10 : iEq x.kind 10 = false := kinds 5 kk 10 (by decide)
    have hw := hwp q2
    have hc := comes_one h2 q3 q6
    refine ⟨fun h => Bool.noConfusion (q1.symm.trans h), fun _ => ?_⟩
    conv => whnf
    refine ⟨fun h => Bool.noConfusion (q4.symm.trans h), fun _ => ?_⟩
    conv => whnf
    refine ⟨fun _ => ?_, fun h => Bool.noConfusion (q5.symm.trans h)⟩
    conv => whnf
    refine ⟨(show (0 : Int) ≤ 0 ∧ (0 : Int) < (was.length : Int) by omega), ?_⟩
    conv => whnf
    refine ⟨(show 0 < was.length by omega), ?_⟩
    conv => whnf
    refine ⟨by omega, ?_⟩
    conv => whnf
    refine CallK.go [] (f101 (was.getD 0 noField) ((comesOf x).getD 0 noRef)) rfl rfl rfl rfl rfl ?_
    conv => whnf
    refine CallK.go [] (GCall.args (f100 rest { was.getD 0 noField with place := (comesOf x).getD 0 noRef } true hfr (hwa 0)) ?hh) rfl rfl rfl rfl rfl ?_
    case hh => exact allLe3 (RepLe.refl _) (PLe.rep (PLe.agg (by repeat' (first | refine PLes.cons ?_ ?_ | exact PLe.refl _ | exact PLe.nil | exact PLes.end)))) (by first | exact RepLe.bl rfl | exact RepLe.refl _)
    conv => whnf
    refine ⟨rfl, ?_⟩
    conv => whnf
    refine ⟨fun h => Bool.noConfusion (q2.symm.trans h), fun _ => ?_⟩
    conv => whnf
    refine ⟨fun h => Bool.noConfusion (q3.symm.trans h), fun _ => ?_⟩
    conv => whnf
    refine ⟨fun h => Bool.noConfusion (q6.symm.trans h), fun _ => ?_⟩
    conv => whnf
    refine ⟨fun h => Bool.noConfusion (q7.symm.trans h), fun _ => ?_⟩
    conv => whnf
    refine ⟨fun h => Bool.noConfusion (q8.symm.trans h), fun _ => ?_⟩
    conv => whnf
    refine ⟨fun h => Bool.noConfusion (q9.symm.trans h), fun _ => ?_⟩
    conv => whnf
    refine ⟨fun h => Bool.noConfusion (q10.symm.trans h), fun _ => ?_⟩
    conv => whnf
    refine ⟨fun e1 => ?_, fun e1 => ?_⟩
    · have e1 : (true && iEq (withF rest { was.getD 0 noField with place := (comesOf x).getD 0 noRef }).2 0) = false := nott e1
      have ha := fin_moved h1 h2 ht 5 kk (by omega) rfl
      rw [e1] at ha
      conv => whnf
      exact ⟨[], _, _, _, rfl, rfl, rfl, by rw [ha]; exact nil_take, trivial⟩
    have e1 : (true && iEq (withF rest { was.getD 0 noField with place := (comesOf x).getD 0 noRef }).2 0) = true := notf e1
    have ha := fin_moved h1 h2 ht 5 kk (by omega) rfl
    rw [e1] at ha
    conv => whnf
    exact ⟨[], _, _, _, rfl, rfl, rfl, by rw [ha]; exact RepLe.refl _, trivial⟩
  · have kk : iEq x.kind 6 = true := iEq_t.2 k
    have q1 : iEq x.kind 1 = false := kinds 6 kk 1 (by decide)
    have q2 : iEq x.kind 2 = false := kinds 6 kk 2 (by decide)
    have q3 : iEq x.kind 3 = false := kinds 6 kk 3 (by decide)
    have q4 : iEq x.kind 4 = false := kinds 6 kk 4 (by decide)
    have q5 : iEq x.kind 5 = false := kinds 6 kk 5 (by decide)
    have q6 : iEq x.kind 6 = true := kk
    have q7 : iEq x.kind 7 = false := kinds 6 kk 7 (by decide)
    have q8 : iEq x.kind 8 = false := kinds 6 kk 8 (by decide)
    have q9 : iEq x.kind 9 = false := kinds 6 kk 9 (by decide)
    have q10 : iEq x.kind 10 = false := kinds 6 kk 10 (by decide)
    have hw := hwp q2
    have hc := comes_two h2 q6
    refine ⟨fun h => Bool.noConfusion (q1.symm.trans h), fun _ => ?_⟩
    conv => whnf
    refine ⟨fun h => Bool.noConfusion (q4.symm.trans h), fun _ => ?_⟩
    conv => whnf
    refine ⟨fun h => Bool.noConfusion (q5.symm.trans h), fun _ => ?_⟩
    conv => whnf
    refine ⟨fun h => Bool.noConfusion (q2.symm.trans h), fun _ => ?_⟩
    conv => whnf
    refine ⟨fun h => Bool.noConfusion (q3.symm.trans h), fun _ => ?_⟩
    conv => whnf
    refine ⟨fun _ => ?_, fun h => Bool.noConfusion (q6.symm.trans h)⟩
    conv => whnf
    refine ⟨(show (0 : Int) ≤ 0 ∧ (0 : Int) < (was.length : Int) by omega), ?_⟩
    conv => whnf
    refine ⟨(show 0 < was.length by omega), ?_⟩
    conv => whnf
    intro z hz
    subst hz
    conv => whnf
    refine ⟨rfl, ?_⟩
    conv => whnf
    refine ⟨(show (0 : Int) ≤ 0 ∧ (0 : Int) < (was.length : Int) by omega), ?_⟩
    conv => whnf
    refine ⟨(show 0 < was.length by omega), ?_⟩
    conv => whnf
    refine ⟨fun g1 => ?_, fun g1 => ?_⟩
    · have g1 : iEq (was.getD 0 noField).kind 1 = true := g1
      conv => whnf
      refine ⟨by omega, ?_⟩
      conv => whnf
      refine ⟨(show (0 : Int) ≤ 0 ∧ (0 : Int) < (was.length : Int) by omega), ?_⟩
      conv => whnf
      refine ⟨(show 0 < was.length by omega), ?_⟩
      conv => whnf
      refine CallK.go [] (GCall.args (f100 rest { noField with place := (comesOf x).getD 0 noRef, kind := 1, worth := (was.getD 0 noField).worth } (iLt (wrapO .i64 ((was.getD 0 noField).worth * x.factor)) 1048577) hfr (show fitField _ from Nat.zero_le _)) ?hh) rfl rfl rfl rfl rfl ?_
      case hh => exact allLe3 (RepLe.refl _) (PLe.rep (PLe.agg (by repeat' (first | refine PLes.cons ?_ ?_ | exact PLe.refl _ | exact PLe.nil | exact PLes.end)))) (by first | exact RepLe.bl rfl | exact RepLe.refl _)
      conv => whnf
      refine ⟨rfl, ?_⟩
      conv => whnf
      refine ⟨by omega, ?_⟩
      conv => whnf
      refine CallK.go [] (GCall.args (f100 (withF rest { noField with place := (comesOf x).getD 0 noRef, kind := 1, worth := (was.getD 0 noField).worth }).1 { noField with place := (comesOf x).getD 1 noRef, kind := 1, worth := (wrapO .i64 ((was.getD 0 noField).worth * x.factor)) } ((iLt (wrapO .i64 ((was.getD 0 noField).worth * x.factor)) 1048577) && iEq (withF rest { noField with place := (comesOf x).getD 0 noRef, kind := 1, worth := (was.getD 0 noField).worth }).2 0) (with_fit hfr (show fitField _ from Nat.zero_le _)) (show fitField _ from Nat.zero_le _)) ?hh) rfl rfl rfl rfl rfl ?_
      case hh => exact allLe3 (RepLe.refl _) (PLe.rep (PLe.agg (by repeat' (first | refine PLes.cons ?_ ?_ | exact PLe.refl _ | exact PLe.nil | exact PLes.end)))) (by first | exact RepLe.bl rfl | exact RepLe.refl _)
      conv => whnf
      refine ⟨fun h => Bool.noConfusion (q7.symm.trans h), fun _ => ?_⟩
      conv => whnf
      refine ⟨fun h => Bool.noConfusion (q8.symm.trans h), fun _ => ?_⟩
      conv => whnf
      refine ⟨fun h => Bool.noConfusion (q9.symm.trans h), fun _ => ?_⟩
      conv => whnf
      refine ⟨fun h => Bool.noConfusion (q10.symm.trans h), fun _ => ?_⟩
      conv => whnf
      refine ⟨fun e1 => ?_, fun e1 => ?_⟩
      · have e1 : (((iLt (wrapO .i64 ((was.getD 0 noField).worth * x.factor)) 1048577) && iEq (withF rest { noField with place := (comesOf x).getD 0 noRef, kind := 1, worth := (was.getD 0 noField).worth }).2 0) && iEq (withF (withF rest { noField with place := (comesOf x).getD 0 noRef, kind := 1, worth := (was.getD 0 noField).worth }).1 { noField with place := (comesOf x).getD 1 noRef, kind := 1, worth := (wrapO .i64 ((was.getD 0 noField).worth * x.factor)) }).2 0) = false := nott e1
        have ha := fin_spread h1 h2 ht kk (hwo hw) (b := iLt (wrapO .i64 ((was.getD 0 noField).worth * x.factor)) 1048577) (by rw [g1]; rfl) rfl rfl rfl
        rw [e1] at ha
        conv => whnf
        exact ⟨[], _, _, _, rfl, rfl, rfl, by rw [ha]; exact nil_take, trivial⟩
      have e1 : (((iLt (wrapO .i64 ((was.getD 0 noField).worth * x.factor)) 1048577) && iEq (withF rest { noField with place := (comesOf x).getD 0 noRef, kind := 1, worth := (was.getD 0 noField).worth }).2 0) && iEq (withF (withF rest { noField with place := (comesOf x).getD 0 noRef, kind := 1, worth := (was.getD 0 noField).worth }).1 { noField with place := (comesOf x).getD 1 noRef, kind := 1, worth := (wrapO .i64 ((was.getD 0 noField).worth * x.factor)) }).2 0) = true := notf e1
      have ha := fin_spread h1 h2 ht kk (hwo hw) (b := iLt (wrapO .i64 ((was.getD 0 noField).worth * x.factor)) 1048577) (by rw [g1]; rfl) rfl rfl rfl
      rw [e1] at ha
      conv => whnf
      exact ⟨[], _, _, _, rfl, rfl, rfl, by rw [ha]; exact RepLe.refl _, trivial⟩
    · have g1 : iEq (was.getD 0 noField).kind 1 = false := g1
      conv => whnf
      refine ⟨by omega, ?_⟩
      conv => whnf
      refine ⟨(show (0 : Int) ≤ 0 ∧ (0 : Int) < (was.length : Int) by omega), ?_⟩
      conv => whnf
      refine ⟨(show 0 < was.length by omega), ?_⟩
      conv => whnf
      refine CallK.go [] (GCall.args (f100 rest { noField with place := (comesOf x).getD 0 noRef, kind := 1, worth := (was.getD 0 noField).worth } false hfr (show fitField _ from Nat.zero_le _)) ?hh) rfl rfl rfl rfl rfl ?_
      case hh => exact allLe3 (RepLe.refl _) (PLe.rep (PLe.agg (by repeat' (first | refine PLes.cons ?_ ?_ | exact PLe.refl _ | exact PLe.nil | exact PLes.end)))) (by first | exact RepLe.bl rfl | exact RepLe.refl _)
      conv => whnf
      refine ⟨rfl, ?_⟩
      conv => whnf
      refine ⟨by omega, ?_⟩
      conv => whnf
      refine CallK.go [] (GCall.args (f100 (withF rest { noField with place := (comesOf x).getD 0 noRef, kind := 1, worth := (was.getD 0 noField).worth }).1 { noField with place := (comesOf x).getD 1 noRef, kind := 1, worth := (wrapO .i64 ((was.getD 0 noField).worth * x.factor)) } (false && iEq (withF rest { noField with place := (comesOf x).getD 0 noRef, kind := 1, worth := (was.getD 0 noField).worth }).2 0) (with_fit hfr (show fitField _ from Nat.zero_le _)) (show fitField _ from Nat.zero_le _)) ?hh) rfl rfl rfl rfl rfl ?_
      case hh => exact allLe3 (RepLe.refl _) (PLe.rep (PLe.agg (by repeat' (first | refine PLes.cons ?_ ?_ | exact PLe.refl _ | exact PLe.nil | exact PLes.end)))) (by first | exact RepLe.bl rfl | exact RepLe.refl _)
      conv => whnf
      refine ⟨fun h => Bool.noConfusion (q7.symm.trans h), fun _ => ?_⟩
      conv => whnf
      refine ⟨fun h => Bool.noConfusion (q8.symm.trans h), fun _ => ?_⟩
      conv => whnf
      refine ⟨fun h => Bool.noConfusion (q9.symm.trans h), fun _ => ?_⟩
      conv => whnf
      refine ⟨fun h => Bool.noConfusion (q10.symm.trans h), fun _ => ?_⟩
      conv => whnf
      refine ⟨fun e1 => ?_, fun e1 => ?_⟩
      · have e1 : ((false && iEq (withF rest { noField with place := (comesOf x).getD 0 noRef, kind := 1, worth := (was.getD 0 noField).worth }).2 0) && iEq (withF (withF rest { noField with place := (comesOf x).getD 0 noRef, kind := 1, worth := (was.getD 0 noField).worth }).1 { noField with place := (comesOf x).getD 1 noRef, kind := 1, worth := (wrapO .i64 ((was.getD 0 noField).worth * x.factor)) }).2 0) = false := nott e1
        have ha := fin_spread h1 h2 ht kk (hwo hw) (b := false) (by rw [g1]; rfl) rfl rfl rfl
        rw [e1] at ha
        conv => whnf
        exact ⟨[], _, _, _, rfl, rfl, rfl, by rw [ha]; exact nil_take, trivial⟩
      have e1 : ((false && iEq (withF rest { noField with place := (comesOf x).getD 0 noRef, kind := 1, worth := (was.getD 0 noField).worth }).2 0) && iEq (withF (withF rest { noField with place := (comesOf x).getD 0 noRef, kind := 1, worth := (was.getD 0 noField).worth }).1 { noField with place := (comesOf x).getD 1 noRef, kind := 1, worth := (wrapO .i64 ((was.getD 0 noField).worth * x.factor)) }).2 0) = true := notf e1
      have ha := fin_spread h1 h2 ht kk (hwo hw) (b := false) (by rw [g1]; rfl) rfl rfl rfl
      rw [e1] at ha
      conv => whnf
      exact ⟨[], _, _, _, rfl, rfl, rfl, by rw [ha]; exact RepLe.refl _, trivial⟩
  · have kk : iEq x.kind 7 = true := iEq_t.2 k
    have q1 : iEq x.kind 1 = false := kinds 7 kk 1 (by decide)
    have q2 : iEq x.kind 2 = false := kinds 7 kk 2 (by decide)
    have q3 : iEq x.kind 3 = false := kinds 7 kk 3 (by decide)
    have q4 : iEq x.kind 4 = false := kinds 7 kk 4 (by decide)
    have q5 : iEq x.kind 5 = false := kinds 7 kk 5 (by decide)
    have q6 : iEq x.kind 6 = false := kinds 7 kk 6 (by decide)
    have q7 : iEq x.kind 7 = true := kk
    have q8 : iEq x.kind 8 = false := kinds 7 kk 8 (by decide)
    have q9 : iEq x.kind 9 = false := kinds 7 kk 9 (by decide)
    have q10 : iEq x.kind 10 = false := kinds 7 kk 10 (by decide)
    have hw := hwp q2
    have hc := comes_one h2 q3 q6
    refine ⟨fun h => Bool.noConfusion (q1.symm.trans h), fun _ => ?_⟩
    conv => whnf
    refine ⟨fun h => Bool.noConfusion (q4.symm.trans h), fun _ => ?_⟩
    conv => whnf
    refine ⟨fun h => Bool.noConfusion (q5.symm.trans h), fun _ => ?_⟩
    conv => whnf
    refine ⟨fun h => Bool.noConfusion (q2.symm.trans h), fun _ => ?_⟩
    conv => whnf
    refine ⟨fun h => Bool.noConfusion (q3.symm.trans h), fun _ => ?_⟩
    conv => whnf
    refine ⟨fun h => Bool.noConfusion (q6.symm.trans h), fun _ => ?_⟩
    conv => whnf
    refine ⟨fun _ => ?_, fun h => Bool.noConfusion (q7.symm.trans h)⟩
    conv => whnf
    refine ⟨(show (0 : Int) ≤ 0 ∧ (0 : Int) < (was.length : Int) by omega), ?_⟩
    conv => whnf
    refine ⟨(show 0 < was.length by omega), ?_⟩
    conv => whnf
    refine ⟨fun g1 => ?_, fun g1 => ?_⟩
    · have g1 : iEq (was.getD 0 noField).kind 2 = true := g1
      conv => whnf
      refine ⟨(show (0 : Int) ≤ 0 ∧ (0 : Int) < (was.length : Int) by omega), ?_⟩
      conv => whnf
      refine ⟨(show 0 < was.length by omega), ?_⟩
      conv => whnf
      refine ⟨rfl, ?_⟩
      conv => whnf
      refine ⟨by omega, ?_⟩
      conv => whnf
      refine CallK.go [] (GCall.args (f100 rest { noField with place := (comesOf x).getD 0 noRef, kind := 4 } (sEq (was.getD 0 noField).dflt x.other) hfr (show fitField _ from Nat.zero_le _)) ?hh) rfl rfl rfl rfl rfl ?_
      case hh => exact allLe3 (RepLe.refl _) (PLe.rep (PLe.agg (by repeat' (first | refine PLes.cons ?_ ?_ | exact PLe.refl _ | exact PLe.nil | exact PLes.end)))) (by first | exact RepLe.bl rfl | exact RepLe.refl _)
      conv => whnf
      refine ⟨fun h => Bool.noConfusion (q8.symm.trans h), fun _ => ?_⟩
      conv => whnf
      refine ⟨fun h => Bool.noConfusion (q9.symm.trans h), fun _ => ?_⟩
      conv => whnf
      refine ⟨fun h => Bool.noConfusion (q10.symm.trans h), fun _ => ?_⟩
      conv => whnf
      refine ⟨fun e1 => ?_, fun e1 => ?_⟩
      · have e1 : ((sEq (was.getD 0 noField).dflt x.other) && iEq (withF rest { noField with place := (comesOf x).getD 0 noRef, kind := 4 }).2 0) = false := nott e1
        have ha := fin_opened h1 h2 ht kk (b := sEq (was.getD 0 noField).dflt x.other) (by rw [g1]; rfl) rfl rfl
        rw [e1] at ha
        conv => whnf
        exact ⟨[], _, _, _, rfl, rfl, rfl, by rw [ha]; exact nil_take, trivial⟩
      have e1 : ((sEq (was.getD 0 noField).dflt x.other) && iEq (withF rest { noField with place := (comesOf x).getD 0 noRef, kind := 4 }).2 0) = true := notf e1
      have ha := fin_opened h1 h2 ht kk (b := sEq (was.getD 0 noField).dflt x.other) (by rw [g1]; rfl) rfl rfl
      rw [e1] at ha
      conv => whnf
      exact ⟨[], _, _, _, rfl, rfl, rfl, by rw [ha]; exact RepLe.refl _, trivial⟩
    · have g1 : iEq (was.getD 0 noField).kind 2 = false := g1
      conv => whnf
      refine ⟨rfl, ?_⟩
      conv => whnf
      refine ⟨by omega, ?_⟩
      conv => whnf
      refine CallK.go [] (GCall.args (f100 rest { noField with place := (comesOf x).getD 0 noRef, kind := 4 } false hfr (show fitField _ from Nat.zero_le _)) ?hh) rfl rfl rfl rfl rfl ?_
      case hh => exact allLe3 (RepLe.refl _) (PLe.rep (PLe.agg (by repeat' (first | refine PLes.cons ?_ ?_ | exact PLe.refl _ | exact PLe.nil | exact PLes.end)))) (by first | exact RepLe.bl rfl | exact RepLe.refl _)
      conv => whnf
      refine ⟨fun h => Bool.noConfusion (q8.symm.trans h), fun _ => ?_⟩
      conv => whnf
      refine ⟨fun h => Bool.noConfusion (q9.symm.trans h), fun _ => ?_⟩
      conv => whnf
      refine ⟨fun h => Bool.noConfusion (q10.symm.trans h), fun _ => ?_⟩
      conv => whnf
      refine ⟨fun e1 => ?_, fun e1 => ?_⟩
      · have e1 : (false && iEq (withF rest { noField with place := (comesOf x).getD 0 noRef, kind := 4 }).2 0) = false := nott e1
        have ha := fin_opened h1 h2 ht kk (b := false) (by rw [g1]; rfl) rfl rfl
        rw [e1] at ha
        conv => whnf
        exact ⟨[], _, _, _, rfl, rfl, rfl, by rw [ha]; exact nil_take, trivial⟩
      have e1 : (false && iEq (withF rest { noField with place := (comesOf x).getD 0 noRef, kind := 4 }).2 0) = true := notf e1
      have ha := fin_opened h1 h2 ht kk (b := false) (by rw [g1]; rfl) rfl rfl
      rw [e1] at ha
      conv => whnf
      exact ⟨[], _, _, _, rfl, rfl, rfl, by rw [ha]; exact RepLe.refl _, trivial⟩
  · have kk : iEq x.kind 8 = true := iEq_t.2 k
    have q1 : iEq x.kind 1 = false := kinds 8 kk 1 (by decide)
    have q2 : iEq x.kind 2 = false := kinds 8 kk 2 (by decide)
    have q3 : iEq x.kind 3 = false := kinds 8 kk 3 (by decide)
    have q4 : iEq x.kind 4 = false := kinds 8 kk 4 (by decide)
    have q5 : iEq x.kind 5 = false := kinds 8 kk 5 (by decide)
    have q6 : iEq x.kind 6 = false := kinds 8 kk 6 (by decide)
    have q7 : iEq x.kind 7 = false := kinds 8 kk 7 (by decide)
    have q8 : iEq x.kind 8 = true := kk
    have q9 : iEq x.kind 9 = false := kinds 8 kk 9 (by decide)
    have q10 : iEq x.kind 10 = false := kinds 8 kk 10 (by decide)
    have hw := hwp q2
    have hc := comes_one h2 q3 q6
    refine ⟨fun h => Bool.noConfusion (q1.symm.trans h), fun _ => ?_⟩
    conv => whnf
    refine ⟨fun h => Bool.noConfusion (q4.symm.trans h), fun _ => ?_⟩
    conv => whnf
    refine ⟨fun h => Bool.noConfusion (q5.symm.trans h), fun _ => ?_⟩
    conv => whnf
    refine ⟨fun h => Bool.noConfusion (q2.symm.trans h), fun _ => ?_⟩
    conv => whnf
    refine ⟨fun h => Bool.noConfusion (q3.symm.trans h), fun _ => ?_⟩
    conv => whnf
    refine ⟨fun h => Bool.noConfusion (q6.symm.trans h), fun _ => ?_⟩
    conv => whnf
    refine ⟨fun h => Bool.noConfusion (q7.symm.trans h), fun _ => ?_⟩
    conv => whnf
    refine ⟨fun _ => ?_, fun h => Bool.noConfusion (q8.symm.trans h)⟩
    conv => whnf
    refine ⟨(show (0 : Int) ≤ 0 ∧ (0 : Int) < (was.length : Int) by omega), ?_⟩
    conv => whnf
    refine ⟨(show 0 < was.length by omega), ?_⟩
    conv => whnf
    refine ⟨fun g1 => ?_, fun g1 => ?_⟩
    · have g1 : iEq (was.getD 0 noField).kind 3 = true := g1
      conv => whnf
      refine ⟨(show (0 : Int) ≤ 0 ∧ (0 : Int) < (was.length : Int) by omega), ?_⟩
      conv => whnf
      refine ⟨(show 0 < was.length by omega), ?_⟩
      conv => whnf
      refine ⟨fun g2 => ?_, fun g2 => ?_⟩
      · have g2 : sEq (was.getD 0 noField).dflt x.name = true := g2
        conv => whnf
        refine ⟨(show (0 : Int) ≤ 0 ∧ (0 : Int) < (was.length : Int) by omega), ?_⟩
        conv => whnf
        refine ⟨(show 0 < was.length by omega), ?_⟩
        conv => whnf
        refine CallK.go [] (f103 x.forth hx.2.1) rfl rfl rfl rfl rfl ?_
        conv => whnf
        refine CallK.lent (f102 (was.getD 0 noField).cases (fromsOf x.forth) (hwa 0).ok) rfl ?_
        conv => whnf
        refine ⟨rfl, ?_⟩
        conv => whnf
        refine ⟨by omega, ?_⟩
        conv => whnf
        refine CallK.go [] (f103 x.back hx.2.2) rfl rfl rfl rfl rfl ?_
        conv => whnf
        refine CallK.go [] (GCall.args (f100 rest { noField with place := (comesOf x).getD 0 noRef, kind := 3, dflt := x.other, cases := fromsOf x.back } (sameStrs (was.getD 0 noField).cases (fromsOf x.forth)) hfr (show fitField _ from (by show (fromsOf x.back).length ≤ 8796093022208; rw [froms_len]; exact Nat.le_trans hx.2.2 (by decide)))) ?hh) rfl rfl rfl rfl rfl ?_
        case hh => exact allLe3 (RepLe.refl _) (PLe.rep (PLe.agg (by repeat' (first | refine PLes.cons ?_ ?_ | exact PLe.refl _ | exact PLe.nil | exact PLes.end)))) (by first | exact RepLe.bl rfl | exact RepLe.refl _)
        conv => whnf
        refine ⟨rfl, ?_⟩
        conv => whnf
        refine ⟨fun h => Bool.noConfusion (q9.symm.trans h), fun _ => ?_⟩
        conv => whnf
        refine ⟨fun h => Bool.noConfusion (q10.symm.trans h), fun _ => ?_⟩
        conv => whnf
        refine ⟨fun e1 => ?_, fun e1 => ?_⟩
        · have e1 : ((sameStrs (was.getD 0 noField).cases (fromsOf x.forth)) && iEq (withF rest { noField with place := (comesOf x).getD 0 noRef, kind := 3, dflt := x.other, cases := fromsOf x.back }).2 0) = false := nott e1
          have ha := fin_cased h1 h2 ht kk (b := sameStrs (was.getD 0 noField).cases (fromsOf x.forth)) (by rw [g1, g2]; rfl) rfl rfl
          rw [e1] at ha
          conv => whnf
          exact ⟨[], _, _, _, rfl, rfl, rfl, by rw [ha]; exact nil_take, trivial⟩
        have e1 : ((sameStrs (was.getD 0 noField).cases (fromsOf x.forth)) && iEq (withF rest { noField with place := (comesOf x).getD 0 noRef, kind := 3, dflt := x.other, cases := fromsOf x.back }).2 0) = true := notf e1
        have ha := fin_cased h1 h2 ht kk (b := sameStrs (was.getD 0 noField).cases (fromsOf x.forth)) (by rw [g1, g2]; rfl) rfl rfl
        rw [e1] at ha
        conv => whnf
        exact ⟨[], _, _, _, rfl, rfl, rfl, by rw [ha]; exact RepLe.refl _, trivial⟩
      · have g2 : sEq (was.getD 0 noField).dflt x.name = false := g2
        conv => whnf
        refine ⟨rfl, ?_⟩
        conv => whnf
        refine ⟨by omega, ?_⟩
        conv => whnf
        refine CallK.go [] (f103 x.back hx.2.2) rfl rfl rfl rfl rfl ?_
        conv => whnf
        refine CallK.go [] (GCall.args (f100 rest { noField with place := (comesOf x).getD 0 noRef, kind := 3, dflt := x.other, cases := fromsOf x.back } false hfr (show fitField _ from (by show (fromsOf x.back).length ≤ 8796093022208; rw [froms_len]; exact Nat.le_trans hx.2.2 (by decide)))) ?hh) rfl rfl rfl rfl rfl ?_
        case hh => exact allLe3 (RepLe.refl _) (PLe.rep (PLe.agg (by repeat' (first | refine PLes.cons ?_ ?_ | exact PLe.refl _ | exact PLe.nil | exact PLes.end)))) (by first | exact RepLe.bl rfl | exact RepLe.refl _)
        conv => whnf
        refine ⟨rfl, ?_⟩
        conv => whnf
        refine ⟨fun h => Bool.noConfusion (q9.symm.trans h), fun _ => ?_⟩
        conv => whnf
        refine ⟨fun h => Bool.noConfusion (q10.symm.trans h), fun _ => ?_⟩
        conv => whnf
        refine ⟨fun e1 => ?_, fun e1 => ?_⟩
        · have e1 : (false && iEq (withF rest { noField with place := (comesOf x).getD 0 noRef, kind := 3, dflt := x.other, cases := fromsOf x.back }).2 0) = false := nott e1
          have ha := fin_cased h1 h2 ht kk (b := false) (by rw [g1, g2]; rfl) rfl rfl
          rw [e1] at ha
          conv => whnf
          exact ⟨[], _, _, _, rfl, rfl, rfl, by rw [ha]; exact nil_take, trivial⟩
        have e1 : (false && iEq (withF rest { noField with place := (comesOf x).getD 0 noRef, kind := 3, dflt := x.other, cases := fromsOf x.back }).2 0) = true := notf e1
        have ha := fin_cased h1 h2 ht kk (b := false) (by rw [g1, g2]; rfl) rfl rfl
        rw [e1] at ha
        conv => whnf
        exact ⟨[], _, _, _, rfl, rfl, rfl, by rw [ha]; exact RepLe.refl _, trivial⟩
    · have g1 : iEq (was.getD 0 noField).kind 3 = false := g1
      conv => whnf
      refine ⟨rfl, ?_⟩
      conv => whnf
      refine ⟨by omega, ?_⟩
      conv => whnf
      refine CallK.go [] (f103 x.back hx.2.2) rfl rfl rfl rfl rfl ?_
      conv => whnf
      refine CallK.go [] (GCall.args (f100 rest { noField with place := (comesOf x).getD 0 noRef, kind := 3, dflt := x.other, cases := fromsOf x.back } false hfr (show fitField _ from (by show (fromsOf x.back).length ≤ 8796093022208; rw [froms_len]; exact Nat.le_trans hx.2.2 (by decide)))) ?hh) rfl rfl rfl rfl rfl ?_
      case hh => exact allLe3 (RepLe.refl _) (PLe.rep (PLe.agg (by repeat' (first | refine PLes.cons ?_ ?_ | exact PLe.refl _ | exact PLe.nil | exact PLes.end)))) (by first | exact RepLe.bl rfl | exact RepLe.refl _)
      conv => whnf
      refine ⟨rfl, ?_⟩
      conv => whnf
      refine ⟨fun h => Bool.noConfusion (q9.symm.trans h), fun _ => ?_⟩
      conv => whnf
      refine ⟨fun h => Bool.noConfusion (q10.symm.trans h), fun _ => ?_⟩
      conv => whnf
      refine ⟨fun e1 => ?_, fun e1 => ?_⟩
      · have e1 : (false && iEq (withF rest { noField with place := (comesOf x).getD 0 noRef, kind := 3, dflt := x.other, cases := fromsOf x.back }).2 0) = false := nott e1
        have ha := fin_cased h1 h2 ht kk (b := false) (by rw [g1]; rfl) rfl rfl
        rw [e1] at ha
        conv => whnf
        exact ⟨[], _, _, _, rfl, rfl, rfl, by rw [ha]; exact nil_take, trivial⟩
      have e1 : (false && iEq (withF rest { noField with place := (comesOf x).getD 0 noRef, kind := 3, dflt := x.other, cases := fromsOf x.back }).2 0) = true := notf e1
      have ha := fin_cased h1 h2 ht kk (b := false) (by rw [g1]; rfl) rfl rfl
      rw [e1] at ha
      conv => whnf
      exact ⟨[], _, _, _, rfl, rfl, rfl, by rw [ha]; exact RepLe.refl _, trivial⟩
  · have kk : iEq x.kind 9 = true := iEq_t.2 k
    have q1 : iEq x.kind 1 = false := kinds 9 kk 1 (by decide)
    have q2 : iEq x.kind 2 = false := kinds 9 kk 2 (by decide)
    have q3 : iEq x.kind 3 = false := kinds 9 kk 3 (by decide)
    have q4 : iEq x.kind 4 = false := kinds 9 kk 4 (by decide)
    have q5 : iEq x.kind 5 = false := kinds 9 kk 5 (by decide)
    have q6 : iEq x.kind 6 = false := kinds 9 kk 6 (by decide)
    have q7 : iEq x.kind 7 = false := kinds 9 kk 7 (by decide)
    have q8 : iEq x.kind 8 = false := kinds 9 kk 8 (by decide)
    have q9 : iEq x.kind 9 = true := kk
    have q10 : iEq x.kind 10 = false := kinds 9 kk 10 (by decide)
    have hw := hwp q2
    have hw2 : 1 < was.length := by rw [hwn, goes_len h2, q2, q3, q9]; decide
    have hc := comes_one h2 q3 q6
    refine ⟨fun h => Bool.noConfusion (q1.symm.trans h), fun _ => ?_⟩
    conv => whnf
    refine ⟨fun h => Bool.noConfusion (q4.symm.trans h), fun _ => ?_⟩
    conv => whnf
    refine ⟨fun h => Bool.noConfusion (q5.symm.trans h), fun _ => ?_⟩
    conv => whnf
    refine ⟨fun h => Bool.noConfusion (q2.symm.trans h), fun _ => ?_⟩
    conv => whnf
    refine ⟨fun h => Bool.noConfusion (q3.symm.trans h), fun _ => ?_⟩
    conv => whnf
    refine ⟨fun h => Bool.noConfusion (q6.symm.trans h), fun _ => ?_⟩
    conv => whnf
    refine ⟨fun h => Bool.noConfusion (q7.symm.trans h), fun _ => ?_⟩
    conv => whnf
    refine ⟨fun h => Bool.noConfusion (q8.symm.trans h), fun _ => ?_⟩
    conv => whnf
    refine ⟨fun _ => ?_, fun h => Bool.noConfusion (q9.symm.trans h)⟩
    conv => whnf
    refine ⟨(show (0 : Int) ≤ 0 ∧ (0 : Int) < (was.length : Int) by omega), ?_⟩
    conv => whnf
    refine ⟨(show 0 < was.length by omega), ?_⟩
    conv => whnf
    refine ⟨fun g1 => ?_, fun g1 => ?_⟩
    · have g1 : iEq (was.getD 0 noField).kind 1 = true := g1
      conv => whnf
      refine ⟨(show (0 : Int) ≤ 1 ∧ (1 : Int) < (was.length : Int) by omega), ?_⟩
      conv => whnf
      refine ⟨(show 1 < was.length by omega), ?_⟩
      conv => whnf
      refine ⟨fun g2 => ?_, fun g2 => ?_⟩
      · have g2 : iEq (was.getD 1 noField).kind 1 = true := g2
        conv => whnf
        refine ⟨(show (0 : Int) ≤ 1 ∧ (1 : Int) < (was.length : Int) by omega), ?_⟩
        conv => whnf
        refine ⟨(show 1 < was.length by omega), ?_⟩
        conv => whnf
        refine ⟨(show (0 : Int) ≤ 0 ∧ (0 : Int) < (was.length : Int) by omega), ?_⟩
        conv => whnf
        refine ⟨(show 0 < was.length by omega), ?_⟩
        conv => whnf
        intro z hz
        subst hz
        conv => whnf
        refine ⟨rfl, ?_⟩
        conv => whnf
        refine ⟨by omega, ?_⟩
        conv => whnf
        refine ⟨(show (0 : Int) ≤ 0 ∧ (0 : Int) < (was.length : Int) by omega), ?_⟩
        conv => whnf
        refine ⟨(show 0 < was.length by omega), ?_⟩
        conv => whnf
        refine CallK.go [] (GCall.args (f100 rest { noField with place := (comesOf x).getD 0 noRef, kind := 1, worth := (was.getD 0 noField).worth } (iEq (was.getD 1 noField).worth (wrapO .i64 ((was.getD 0 noField).worth * x.factor))) hfr (show fitField _ from Nat.zero_le _)) ?hh) rfl rfl rfl rfl rfl ?_
        case hh => exact allLe3 (RepLe.refl _) (PLe.rep (PLe.agg (by repeat' (first | refine PLes.cons ?_ ?_ | exact PLe.refl _ | exact PLe.nil | exact PLes.end)))) (by first | exact RepLe.bl rfl | exact RepLe.refl _)
        conv => whnf
        refine ⟨rfl, ?_⟩
        conv => whnf
        refine ⟨fun h => Bool.noConfusion (q10.symm.trans h), fun _ => ?_⟩
        conv => whnf
        refine ⟨fun e1 => ?_, fun e1 => ?_⟩
        · have e1 : ((iEq (was.getD 1 noField).worth (wrapO .i64 ((was.getD 0 noField).worth * x.factor))) && iEq (withF rest { noField with place := (comesOf x).getD 0 noRef, kind := 1, worth := (was.getD 0 noField).worth }).2 0) = false := nott e1
          have ha := fin_gathered h1 h2 ht kk (hwo hw) (b := iEq (was.getD 1 noField).worth (wrapO .i64 ((was.getD 0 noField).worth * x.factor))) (by rw [g1, g2]; rfl) rfl rfl
          rw [e1] at ha
          conv => whnf
          exact ⟨[], _, _, _, rfl, rfl, rfl, by rw [ha]; exact nil_take, trivial⟩
        have e1 : ((iEq (was.getD 1 noField).worth (wrapO .i64 ((was.getD 0 noField).worth * x.factor))) && iEq (withF rest { noField with place := (comesOf x).getD 0 noRef, kind := 1, worth := (was.getD 0 noField).worth }).2 0) = true := notf e1
        have ha := fin_gathered h1 h2 ht kk (hwo hw) (b := iEq (was.getD 1 noField).worth (wrapO .i64 ((was.getD 0 noField).worth * x.factor))) (by rw [g1, g2]; rfl) rfl rfl
        rw [e1] at ha
        conv => whnf
        exact ⟨[], _, _, _, rfl, rfl, rfl, by rw [ha]; exact RepLe.refl _, trivial⟩
      · have g2 : iEq (was.getD 1 noField).kind 1 = false := g2
        conv => whnf
        refine ⟨rfl, ?_⟩
        conv => whnf
        refine ⟨by omega, ?_⟩
        conv => whnf
        refine ⟨(show (0 : Int) ≤ 0 ∧ (0 : Int) < (was.length : Int) by omega), ?_⟩
        conv => whnf
        refine ⟨(show 0 < was.length by omega), ?_⟩
        conv => whnf
        refine CallK.go [] (GCall.args (f100 rest { noField with place := (comesOf x).getD 0 noRef, kind := 1, worth := (was.getD 0 noField).worth } false hfr (show fitField _ from Nat.zero_le _)) ?hh) rfl rfl rfl rfl rfl ?_
        case hh => exact allLe3 (RepLe.refl _) (PLe.rep (PLe.agg (by repeat' (first | refine PLes.cons ?_ ?_ | exact PLe.refl _ | exact PLe.nil | exact PLes.end)))) (by first | exact RepLe.bl rfl | exact RepLe.refl _)
        conv => whnf
        refine ⟨rfl, ?_⟩
        conv => whnf
        refine ⟨fun h => Bool.noConfusion (q10.symm.trans h), fun _ => ?_⟩
        conv => whnf
        refine ⟨fun e1 => ?_, fun e1 => ?_⟩
        · have e1 : (false && iEq (withF rest { noField with place := (comesOf x).getD 0 noRef, kind := 1, worth := (was.getD 0 noField).worth }).2 0) = false := nott e1
          have ha := fin_gathered h1 h2 ht kk (hwo hw) (b := false) (by rw [g1, g2]; rfl) rfl rfl
          rw [e1] at ha
          conv => whnf
          exact ⟨[], _, _, _, rfl, rfl, rfl, by rw [ha]; exact nil_take, trivial⟩
        have e1 : (false && iEq (withF rest { noField with place := (comesOf x).getD 0 noRef, kind := 1, worth := (was.getD 0 noField).worth }).2 0) = true := notf e1
        have ha := fin_gathered h1 h2 ht kk (hwo hw) (b := false) (by rw [g1, g2]; rfl) rfl rfl
        rw [e1] at ha
        conv => whnf
        exact ⟨[], _, _, _, rfl, rfl, rfl, by rw [ha]; exact RepLe.refl _, trivial⟩
    · have g1 : iEq (was.getD 0 noField).kind 1 = false := g1
      conv => whnf
      refine ⟨rfl, ?_⟩
      conv => whnf
      refine ⟨by omega, ?_⟩
      conv => whnf
      refine ⟨(show (0 : Int) ≤ 0 ∧ (0 : Int) < (was.length : Int) by omega), ?_⟩
      conv => whnf
      refine ⟨(show 0 < was.length by omega), ?_⟩
      conv => whnf
      refine CallK.go [] (GCall.args (f100 rest { noField with place := (comesOf x).getD 0 noRef, kind := 1, worth := (was.getD 0 noField).worth } false hfr (show fitField _ from Nat.zero_le _)) ?hh) rfl rfl rfl rfl rfl ?_
      case hh => exact allLe3 (RepLe.refl _) (PLe.rep (PLe.agg (by repeat' (first | refine PLes.cons ?_ ?_ | exact PLe.refl _ | exact PLe.nil | exact PLes.end)))) (by first | exact RepLe.bl rfl | exact RepLe.refl _)
      conv => whnf
      refine ⟨rfl, ?_⟩
      conv => whnf
      refine ⟨fun h => Bool.noConfusion (q10.symm.trans h), fun _ => ?_⟩
      conv => whnf
      refine ⟨fun e1 => ?_, fun e1 => ?_⟩
      · have e1 : (false && iEq (withF rest { noField with place := (comesOf x).getD 0 noRef, kind := 1, worth := (was.getD 0 noField).worth }).2 0) = false := nott e1
        have ha := fin_gathered h1 h2 ht kk (hwo hw) (b := false) (by rw [g1]; rfl) rfl rfl
        rw [e1] at ha
        conv => whnf
        exact ⟨[], _, _, _, rfl, rfl, rfl, by rw [ha]; exact nil_take, trivial⟩
      have e1 : (false && iEq (withF rest { noField with place := (comesOf x).getD 0 noRef, kind := 1, worth := (was.getD 0 noField).worth }).2 0) = true := notf e1
      have ha := fin_gathered h1 h2 ht kk (hwo hw) (b := false) (by rw [g1]; rfl) rfl rfl
      rw [e1] at ha
      conv => whnf
      exact ⟨[], _, _, _, rfl, rfl, rfl, by rw [ha]; exact RepLe.refl _, trivial⟩
  · have kk : iEq x.kind 10 = true := iEq_t.2 k
    have q1 : iEq x.kind 1 = false := kinds 10 kk 1 (by decide)
    have q2 : iEq x.kind 2 = false := kinds 10 kk 2 (by decide)
    have q3 : iEq x.kind 3 = false := kinds 10 kk 3 (by decide)
    have q4 : iEq x.kind 4 = false := kinds 10 kk 4 (by decide)
    have q5 : iEq x.kind 5 = false := kinds 10 kk 5 (by decide)
    have q6 : iEq x.kind 6 = false := kinds 10 kk 6 (by decide)
    have q7 : iEq x.kind 7 = false := kinds 10 kk 7 (by decide)
    have q8 : iEq x.kind 8 = false := kinds 10 kk 8 (by decide)
    have q9 : iEq x.kind 9 = false := kinds 10 kk 9 (by decide)
    have q10 : iEq x.kind 10 = true := kk
    have hw := hwp q2
    have hc := comes_one h2 q3 q6
    refine ⟨fun h => Bool.noConfusion (q1.symm.trans h), fun _ => ?_⟩
    conv => whnf
    refine ⟨fun h => Bool.noConfusion (q4.symm.trans h), fun _ => ?_⟩
    conv => whnf
    refine ⟨fun h => Bool.noConfusion (q5.symm.trans h), fun _ => ?_⟩
    conv => whnf
    refine ⟨fun h => Bool.noConfusion (q2.symm.trans h), fun _ => ?_⟩
    conv => whnf
    refine ⟨fun h => Bool.noConfusion (q3.symm.trans h), fun _ => ?_⟩
    conv => whnf
    refine ⟨fun h => Bool.noConfusion (q6.symm.trans h), fun _ => ?_⟩
    conv => whnf
    refine ⟨fun h => Bool.noConfusion (q7.symm.trans h), fun _ => ?_⟩
    conv => whnf
    refine ⟨fun h => Bool.noConfusion (q8.symm.trans h), fun _ => ?_⟩
    conv => whnf
    refine ⟨fun h => Bool.noConfusion (q9.symm.trans h), fun _ => ?_⟩
    conv => whnf
    refine ⟨fun _ => ?_, fun h => Bool.noConfusion (q10.symm.trans h)⟩
    conv => whnf
    refine ⟨(show (0 : Int) ≤ 0 ∧ (0 : Int) < (was.length : Int) by omega), ?_⟩
    conv => whnf
    refine ⟨(show 0 < was.length by omega), ?_⟩
    conv => whnf
    refine ⟨by omega, ?_⟩
    conv => whnf
    refine CallK.go [] (GCall.args (f100 rest { noField with place := (comesOf x).getD 0 noRef, kind := 2, dflt := x.other } (iEq (was.getD 0 noField).kind 4) hfr (show fitField _ from Nat.zero_le _)) ?hh) rfl rfl rfl rfl rfl ?_
    case hh => exact allLe3 (RepLe.refl _) (PLe.rep (PLe.agg (by repeat' (first | refine PLes.cons ?_ ?_ | exact PLe.refl _ | exact PLe.nil | exact PLes.end)))) (by first | exact RepLe.bl rfl | exact RepLe.refl _)
    conv => whnf
    refine ⟨rfl, ?_⟩
    conv => whnf
    refine ⟨fun e1 => ?_, fun e1 => ?_⟩
    · have e1 : ((iEq (was.getD 0 noField).kind 4) && iEq (withF rest { noField with place := (comesOf x).getD 0 noRef, kind := 2, dflt := x.other }).2 0) = false := nott e1
      have ha := fin_closed h1 h2 ht kk (b := iEq (was.getD 0 noField).kind 4) rfl rfl rfl
      rw [e1] at ha
      conv => whnf
      exact ⟨[], _, _, _, rfl, rfl, rfl, by rw [ha]; exact nil_take, trivial⟩
    have e1 : ((iEq (was.getD 0 noField).kind 4) && iEq (withF rest { noField with place := (comesOf x).getD 0 noRef, kind := 2, dflt := x.other }).2 0) = true := notf e1
    have ha := fin_closed h1 h2 ht kk (b := iEq (was.getD 0 noField).kind 4) rfl rfl rfl
    rw [e1] at ha
    conv => whnf
    exact ⟨[], _, _, _, rfl, rfl, rfl, by rw [ha]; exact RepLe.refl _, trivial⟩
end Go.Proofs.YtalpbdabeffnlaaGreat

/- Tags and ops. -/
set_option linter.unusedVariables false
set_option linter.unusedSimpArgs false
namespace Go.Proofs.YtalpbdabeffnlaaGreat
open Go Go.Av
set_option maxRecDepth 100000
set_option maxHeartbeats 4000000

structure STag where
  rep : Int
  num : Int
def noTag : STag := ⟨0, 0⟩
def tagCells (t : STag) : List PV := [.val (.int .i64 t.rep), .val (.int .i64 t.num)]
def encTag (t : STag) : PV := aggL (tagCells t)
def encTags (l : List STag) : PV := .rs 2 l.length fun i => at_ .any (tagCells (l.getD i noTag))
structure SOp where
  id : STag
  sch : STag
  time : Int
  cart : ByteArray
  kind : Int
  item : ByteArray
  place : SRef
  delta : Int
  has : Bool
  text : ByteArray
  drops : List STag
def noOp : SOp := ⟨noTag, noTag, 0, noS, 0, noS, noRef, 0, false, noS, []⟩
def opCells (o : SOp) : List PV := [.val (.int .i64 o.id.rep), .val (.int .i64 o.id.num), .val (.int .i64 o.sch.rep), .val (.int .i64 o.sch.num), .val (.int .i64 o.time), .val (.string o.cart), .val (.int .i64 o.kind), .val (.string o.item),
  .val (.int .i64 o.place.scope), .val (.string o.place.group), .val (.string o.place.name), .val (.int .i64 o.delta), .val (.bool o.has), .val (.string o.text), encTags o.drops]
def encOp (o : SOp) : PV := aggL (opCells o)
def fitOp (o : SOp) : Prop := o.drops.length ≤ 8796093022208
theorem PLe.bool (b : Bool) : PLe (.bl b) (.val (.bool b)) := fun _ _ _ h => h
theorem PLe.unbool (b : Bool) : PLe (.val (.bool b)) (.bl b) := fun _ _ _ h => h

def tagOk (t : STag) : Bool := iLe 1 t.rep && (iLe t.rep 6 && (iLe 1 t.num && iLe t.num 1099511627776))
theorem f346 (t : STag) : PCall Tryz.prog 117 [encTag t] (.p (.val (.bool (tagOk t)))) [] := by
  refine gcode hT hM Tryz.func117 rfl rfl (rv := [(2, none)]) rfl rfl rfl fun G hG => ?_
  conv => whnf
  repeat' (first
    | (refine ⟨fun _ => ?_, fun _ => ?_⟩ <;> (conv => whnf))
    | (refine And.intro (by omega) ?_; conv => whnf)
    | (refine And.intro rfl ?_; conv => whnf)
    | (exact ⟨[], _, _, _, rfl, rfl, rfl, RepLe.bl (by first | (simp_all [tagOk]; done) | grind [tagOk]), trivial⟩)
    | (exact ⟨[], _, _, _, rfl, rfl, rfl, RepLe.vb (by first | (simp_all [tagOk]; done) | grind [tagOk]), trivial⟩)
    | (intro z hz; have hy := wrap64_eq hz (by omega) (by omega); clear hz; subst hy; conv => whnf)
    | (exact ⟨i + 1, ⟨by omega, by first | (simp_all [tagOk]; done) | grind [tagOk]⟩, by omega, stle ⟨trivial, trivial⟩ trivial rfl⟩))
def sameTag (a b : STag) : Bool := iEq a.rep b.rep && iEq a.num b.num
theorem row2 (a b : Int) : PLe (.rs 1 2 fun i j => at_ .any [.val (.int .i64 a), .val (.int .i64 b)] (i * 1 + j)) (encInts [a, b]) := by
  refine PLe.rows rfl fun i j hi hj => ?_
  have h1 : i = 0 ∨ i = 1 := by omega
  have h2 : j = 0 := by omega
  subst h2
  rcases h1 with rfl | rfl <;> rfl
def ordTag (a b : STag) : Int := orI [cmpI a.rep b.rep, cmpI a.num b.num]
def lessTag (a b : STag) : Bool := iLt (ordTag a b) 0
theorem f380 (a b : STag) : PCall Tryz.prog 182 [encTag a, encTag b] (.p (.val (.int .i64 (ordTag a b)))) [] := by
  refine gcode hT hM Tryz.func182 rfl rfl (rv := [(4, none)]) rfl rfl rfl fun G hG => ?_
  conv => whnf
  refine CallK.lent (f122 a.rep b.rep) rfl ?_
  conv => whnf
  refine CallK.lent (f122 a.num b.num) rfl ?_
  conv => whnf
  refine CallK.lent (GCall.arg1 (f121 [cmpI a.rep b.rep, cmpI a.num b.num] (show 2 ≤ maxLen by decide)) ?hh) rfl ?_
  case hh => exact PLe.rep (row2 _ _)
  conv => whnf
  refine ⟨rfl, ?_⟩
  conv => whnf
  exact ⟨[], _, _, _, rfl, rfl, rfl, RepLe.refl _, trivial⟩
theorem f364 (a b : STag) : PCall Tryz.prog 154 [encTag a, encTag b] (.p (.val (.bool (lessTag a b)))) [] := by
  refine gcode hT hM Tryz.func154 rfl rfl (rv := [(4, none)]) rfl rfl rfl fun G hG => ?_
  conv => whnf
  refine CallK.lent (f380 a b) rfl ?_
  conv => whnf
  exact ⟨[], _, _, _, rfl, rfl, rfl, RepLe.refl _, trivial⟩
theorem f348 (l : List STag) (hl : l.length ≤ 8796093022208) : PCall Tryz.prog 120 [encTags l] (.p (encTags l)) [] := by
  refine GCall.slice (fun h0 => ?_) ?_
  · refine gcode hT hM Tryz.func120 rfl rfl (rv := [(2, none)]) rfl rfl rfl fun G hG => ?_
    conv => whnf
    have : l = [] := List.length_eq_zero_iff.1 h0
    subst this
    exact ⟨[], _, _, _, rfl, rfl, rfl, PLe.rep PLe.nil, trivial⟩
  · refine gcode hT hM Tryz.func120 rfl rfl (rv := [(2, none)]) rfl rfl rfl fun G hG => ?_
    conv => whnf
    refine ⟨⟨show 0 + l.length ≤ 9223372036854775807 by omega, show (0 + l.length) * 16 ≤ 140737488355328 by omega⟩, ?_⟩
    conv => whnf
    exact ⟨[], _, _, _, rfl, rfl, rfl, PLe.rep (PLe.rows (Nat.zero_add _) fun i j hi hj => catF_ge (Nat.zero_le _)), trivial⟩
theorem f330 (o : SOp) (ho : fitOp o) : PCall Tryz.prog 60 [encOp o] (.p (encOp o)) [] := by
  refine gcode hT hM Tryz.func60 rfl rfl (rv := [(2, some 47)]) rfl rfl rfl fun G hG => ?_
  conv => whnf
  refine CallK.go [] (f348 o.drops ho) rfl rfl rfl rfl rfl ?_
  conv => whnf
  exact ⟨[], _, _, _, rfl, rfl, rfl, RepLe.refl _, trivial⟩
def sameTags (l m : List STag) : Bool := decide (l.length = m.length) && allUpto (fun i => sameTag (l.getD i noTag) (m.getD i noTag)) l.length 0
theorem f363 (l m : List STag) (hl : l.length ≤ maxLen) : PCall Tryz.prog 153 [encTags l, encTags m] (.p (.val (.bool (sameTags l m)))) [] := by
  have hlen : l.length ≤ 9223372036854775807 := hl
  refine gcode hT hM Tryz.func153 rfl rfl (rv := [(4, none)]) rfl rfl rfl fun G hG => ?_
  conv => whnf
  refine ⟨fun h => ?_, fun h => ?_⟩
  · conv => whnf
    exact ⟨[], _, _, _, rfl, rfl, rfl, RepLe.bl (by simp [iEq_f] at h; simp [sameTags]; omega), trivial⟩
  conv => whnf
  have heq : l.length = m.length := by simp [iEq_t] at h; omega
  refine AW.loop (X := Nat) (fun i => told 26 [(0, .p (encTags l)), (1, .p (encTags m)), (12, vI .i64 (l.length : Int)), (13, vI .i64 (i : Int))] [] []) (fun i => i ≤ l.length ∧ sameTags l m = allUpto (fun i => sameTag (l.getD i noTag) (m.getD i noTag)) (l.length - i) i) (fun i => l.length - i) (used0 hG _) 0 ⟨by omega, by simp [sameTags, heq]⟩ (stle ⟨RepLe.refl _, RepLe.refl _, RepLe.refl _, RepLe.refl _, trivial⟩ trivial rfl) ?_
  rintro i ⟨hi, hr⟩
  refine codeK_aw hT hM _ _ _ ?_
  conv => whnf
  refine ⟨fun h4 => ?_, fun h4 => ?_⟩
  · have hlt : i < l.length := by rw [iLt_t] at h4; omega
    rw [allUpto_step _ hlt] at hr
    conv => whnf
    refine ⟨by omega, ?_⟩
    conv => whnf
    refine ⟨by omega, ?_⟩
    conv => whnf
    refine ⟨rfl, ?_⟩
    conv => whnf
    refine ⟨fun h5 => ?_, fun h5 => ?_⟩
    · have h5 : sameTag (l.getD i noTag) (m.getD i noTag) = false := by unfold sameTag; have := nott h5; simpa using this
      conv => whnf
      exact ⟨[], _, _, _, rfl, rfl, rfl, RepLe.bl (by rw [hr, h5]; simp), trivial⟩
    have h5 : sameTag (l.getD i noTag) (m.getD i noTag) = true := by unfold sameTag; have := notf h5; simpa using this
    conv => whnf
    intro z hz
    have hy := wrap64_eq hz (by omega) (by omega)
    clear hz
    subst hy
    conv => whnf
    exact ⟨i + 1, ⟨by omega, by rw [hr, h5]; simp⟩, by omega, stle ⟨RepLe.refl _, RepLe.refl _, RepLe.refl _, RepLe.of rfl, trivial⟩ trivial rfl⟩
  · have hge : i = l.length := by rw [iLt_f] at h4; omega
    subst hge
    conv => whnf
    exact ⟨[], _, _, _, rfl, rfl, rfl, RepLe.bl (by rw [hr, allUpto_end]), trivial⟩
def sameOp (a b : SOp) : Bool := sameTag a.id b.id && (sameTag a.sch b.sch && (iEq a.time b.time && (sEq a.cart b.cart && (iEq a.kind b.kind && (sEq a.item b.item && (sameRef a.place b.place && (iEq a.delta b.delta && (bEq a.has b.has && (sEq a.text b.text && sameTags a.drops b.drops)))))))))
theorem f343 (a b : SOp) (ha : a.drops.length ≤ maxLen) : PCall Tryz.prog 114 [encOp a, encOp b] (.p (.val (.bool (sameOp a b)))) [] := by
  refine gcode hT hM Tryz.func114 rfl rfl (rv := [(4, none)]) rfl rfl rfl fun G hG => ?_
  conv => whnf
  repeat' (first
    | (refine ⟨fun _ => ?_, fun _ => ?_⟩ <;> (conv => whnf))
    | (refine And.intro (by omega) ?_; conv => whnf)
    | (refine CallK.lent (f363 a.drops b.drops ha) rfl ?_; conv => whnf)
    | (refine And.intro rfl ?_; conv => whnf)
    | (exact ⟨[], _, _, _, rfl, rfl, rfl, RepLe.bl (by first | (simp_all [sameOp, sameTag, sameRef]; done) | grind [sameOp, sameTag, sameRef]), trivial⟩)
    | (exact ⟨[], _, _, _, rfl, rfl, rfl, RepLe.vb (by first | (simp_all [sameOp, sameTag, sameRef]; done) | grind [sameOp, sameTag, sameRef]), trivial⟩)
    | (intro z hz; have hy := wrap64_eq hz (by omega) (by omega); clear hz; subst hy; conv => whnf)
    | (exact ⟨i + 1, ⟨by omega, by first | (simp_all [sameOp, sameTag, sameRef]; done) | grind [sameOp, sameTag, sameRef]⟩, by omega, stle ⟨trivial, trivial⟩ trivial rfl⟩))
def dropsOk (o : SOp) : Bool := !iLt 60 o.drops.length && allUpto (fun i => tagOk (o.drops.getD i noTag) && (!sameTag (o.drops.getD i noTag) o.id && (!iLt 0 (i : Int) || lessTag (o.drops.getD (i - 1) noTag) (o.drops.getD i noTag)))) o.drops.length 0
theorem f345 (o : SOp) (ho : o.drops.length ≤ maxLen) : PCall Tryz.prog 116 [encOp o] (.p (.val (.bool (dropsOk o)))) [] := by
  have hlen : o.drops.length ≤ 9223372036854775807 := ho
  refine gcode hT hM Tryz.func116 rfl rfl (rv := [(2, none)]) rfl rfl rfl fun G hG => ?_
  conv => whnf
  refine ⟨fun h => ?_, fun h => ?_⟩
  · conv => whnf
    exact ⟨[], _, _, _, rfl, rfl, rfl, RepLe.bl (by unfold dropsOk; rw [h]; rfl), trivial⟩
  conv => whnf
  refine AW.loop (X := Nat) (fun i => told 42 [(1, .pt 0 0), (10, .p (encTags o.drops)), (11, vI .i64 (o.drops.length : Int)), (12, vI .i64 (i : Int))] [(0, some (.box 47 ((opCells o).map .p)))] [0]) (fun i => i ≤ o.drops.length ∧ dropsOk o = allUpto (fun i => tagOk (o.drops.getD i noTag) && (!sameTag (o.drops.getD i noTag) o.id && (!iLt 0 (i : Int) || lessTag (o.drops.getD (i - 1) noTag) (o.drops.getD i noTag)))) (o.drops.length - i) i) (fun i => o.drops.length - i) (used0 hG _) 0 ⟨by omega, by unfold dropsOk; rw [h]; rfl⟩ (stle ⟨RepLe.refl _, RepLe.refl _, RepLe.refl _, RepLe.refl _, trivial⟩ ⟨⟨_, rfl, BlkLe.refl _⟩, trivial⟩ rfl) ?_
  rintro i ⟨hi, hr⟩
  refine codeK_aw hT hM _ _ _ ?_
  conv => whnf
  refine ⟨fun h4 => ?_, fun h4 => ?_⟩
  · have hlt : i < o.drops.length := by rw [iLt_t] at h4; omega
    rw [allUpto_step _ hlt] at hr
    conv => whnf
    refine ⟨by omega, ?_⟩
    conv => whnf
    refine CallK.lent (f346 (o.drops.getD i noTag)) rfl ?_
    conv => whnf
    refine ⟨fun g1 => ?_, fun g1 => ?_⟩
    · have g1 : tagOk (o.drops.getD i noTag) = false := nott g1
      conv => whnf
      refine ⟨rfl, ?_⟩
      conv => whnf
      exact ⟨[], _, _, _, rfl, rfl, rfl, RepLe.bl (by rw [hr, g1]; rfl), trivial⟩
    have g1 : tagOk (o.drops.getD i noTag) = true := notf g1
    conv => whnf
    refine ⟨fun g2 => ?_, fun g2 => ?_⟩
    · have g2 : sameTag (o.drops.getD i noTag) o.id = true := by unfold sameTag; simpa using g2
      conv => whnf
      refine ⟨rfl, ?_⟩
      conv => whnf
      exact ⟨[], _, _, _, rfl, rfl, rfl, RepLe.bl (by rw [hr, g1, g2]; rfl), trivial⟩
    have g2 : sameTag (o.drops.getD i noTag) o.id = false := by unfold sameTag; cases q : (iEq (o.drops.getD i noTag).rep o.id.rep && iEq (o.drops.getD i noTag).num o.id.num) with | false => rfl | true => simp_all
    conv => whnf
    refine ⟨fun g3 => ?_, fun g3 => ?_⟩
    · have hi0 : 0 < i := by rw [iLt_t] at g3; omega
      conv => whnf
      intro z hz
      have hw := wrap64_eq hz (by omega) (by omega)
      clear hz
      have hy : z = ((i - 1 : Nat) : Int) := by omega
      clear hw
      subst hy
      conv => whnf
      refine ⟨⟨Int.natCast_nonneg _, Int.ofNat_lt.2 (show i - 1 < o.drops.length by omega)⟩, ?_⟩
      conv => whnf
      refine CallK.lent (f364 (o.drops.getD (i - 1) noTag) (o.drops.getD i noTag)) rfl ?_
      conv => whnf
      refine ⟨rfl, ?_⟩
      conv => whnf
      refine ⟨fun g4 => ?_, fun g4 => ?_⟩
      · have g4 : lessTag (o.drops.getD (i - 1) noTag) (o.drops.getD i noTag) = false := nott g4
        conv => whnf
        exact ⟨[], _, _, _, rfl, rfl, rfl, RepLe.bl (by rw [hr, g1, g2, g3, g4]; rfl), trivial⟩
      have g4 : lessTag (o.drops.getD (i - 1) noTag) (o.drops.getD i noTag) = true := notf g4
      conv => whnf
      intro z hz
      have hy := wrap64_eq hz (by omega) (by omega)
      clear hz
      subst hy
      conv => whnf
      exact ⟨i + 1, ⟨by omega, by rw [hr, g1, g2, g3, g4]; rfl⟩, by omega, stle ⟨RepLe.refl _, RepLe.refl _, RepLe.refl _, RepLe.of rfl, trivial⟩ ⟨⟨_, rfl, BlkLe.refl _⟩, trivial⟩ rfl⟩
    conv => whnf
    refine ⟨rfl, ?_⟩
    conv => whnf
    intro z hz
    have hy := wrap64_eq hz (by omega) (by omega)
    clear hz
    subst hy
    conv => whnf
    exact ⟨i + 1, ⟨by omega, by rw [hr, g1, g2, g3]; rfl⟩, by omega, stle ⟨RepLe.refl _, RepLe.refl _, RepLe.refl _, RepLe.of rfl, trivial⟩ ⟨⟨_, rfl, BlkLe.refl _⟩, trivial⟩ rfl⟩
  · have hge : i = o.drops.length := by rw [iLt_f] at h4; omega
    subst hge
    conv => whnf
    exact ⟨[], _, _, _, rfl, rfl, rfl, RepLe.bl (by rw [hr, allUpto_end]), trivial⟩

def fieldKind (o : SOp) : Bool := iEq o.kind 3 || iEq o.kind 4
/-- Of an op those parts alone that its kind has. -/
def partsOp (o : SOp) : SOp :=
  ⟨o.id, o.sch, o.time, o.cart, o.kind, (if (!fieldKind o && !iEq o.kind 5) || (fieldKind o && iEq o.place.scope 1) then o.item else noS), (if fieldKind o then o.place else noRef), (if iEq o.kind 3 then o.delta else 0),
    (if iEq o.kind 4 then o.has else false), (if iEq o.kind 4 && o.has then o.text else noS), (if iEq o.kind 4 || (iEq o.kind 2 || iEq o.kind 5) then o.drops else [])⟩
theorem f344 (o : SOp) : PCall Tryz.prog 115 [encOp o] (.p (encOp (partsOp o))) [] := by
  refine gcode hT hM Tryz.func115 rfl rfl (rv := [(2, some 47)]) rfl rfl rfl fun G hG => ?_
  conv => whnf
  refine ⟨fun k3 => ?_, fun k3 => ?_⟩
  · have k4 := kinds 3 k3 4 (by decide)
    have k5 := kinds 3 k3 5 (by decide)
    have k2 := kinds 3 k3 2 (by decide)
    conv => whnf
    refine ⟨fun s1 => ?_, fun s1 => ?_⟩
    · conv => whnf
      refine ⟨fun _ => ?_, fun h => Bool.noConfusion (k3.symm.trans h)⟩
      conv => whnf
      exact ⟨[], _, _, _, rfl, rfl, rfl, RepLe.as (fun y => .p (encOp y)) (a := ⟨o.id, o.sch, o.time, o.cart, o.kind, o.item, o.place, o.delta, false, noS, []⟩) (by simp [partsOp, fieldKind, k3, k4, k5, k2, s1]) (PLe.rep (PLe.agg (by repeat' (first | refine PLes.cons ?_ ?_ | exact PLe.refl _ | exact PLe.nil | exact PLe.bool _ | exact PLes.end)))), trivial⟩
    · conv => whnf
      refine ⟨fun _ => ?_, fun h => Bool.noConfusion (k3.symm.trans h)⟩
      conv => whnf
      exact ⟨[], _, _, _, rfl, rfl, rfl, RepLe.as (fun y => .p (encOp y)) (a := ⟨o.id, o.sch, o.time, o.cart, o.kind, noS, o.place, o.delta, false, noS, []⟩) (by simp [partsOp, fieldKind, k3, k4, k5, k2, s1]) (PLe.rep (PLe.agg (by repeat' (first | refine PLes.cons ?_ ?_ | exact PLe.refl _ | exact PLe.nil | exact PLe.bool _ | exact PLes.end)))), trivial⟩
  conv => whnf
  refine ⟨fun k4 => ?_, fun k4 => ?_⟩
  · have k4 : iEq o.kind 4 = false := nott k4
    conv => whnf
    refine ⟨fun k5 => ?_, fun k5 => ?_⟩
    · have k5 : iEq o.kind 5 = false := nott k5
      conv => whnf
      refine ⟨fun h => Bool.noConfusion (k4.symm.trans h), fun _ => ?_⟩
      conv => whnf
      refine ⟨fun h => Bool.noConfusion (k3.symm.trans h), fun _ => ?_⟩
      conv => whnf
      refine ⟨fun h => Bool.noConfusion (k4.symm.trans h), fun _ => ?_⟩
      conv => whnf
      refine ⟨fun k2 => ?_, fun k2 => ?_⟩
      · conv => whnf
        refine ⟨fun _ => ?_, fun h => Bool.noConfusion (k2.symm.trans h)⟩
        conv => whnf
        exact ⟨[], _, _, _, rfl, rfl, rfl, RepLe.as (fun y => .p (encOp y)) (a := ⟨o.id, o.sch, o.time, o.cart, o.kind, o.item, noRef, 0, false, noS, o.drops⟩) (by simp [partsOp, fieldKind, k3, k4, k5, k2]) (PLe.rep (PLe.agg (by repeat' (first | refine PLes.cons ?_ ?_ | exact PLe.refl _ | exact PLe.nil | exact PLe.bool _ | exact PLes.end)))), trivial⟩
      conv => whnf
      refine ⟨fun h => Bool.noConfusion (k5.symm.trans h), fun _ => ?_⟩
      conv => whnf
      exact ⟨[], _, _, _, rfl, rfl, rfl, RepLe.as (fun y => .p (encOp y)) (a := ⟨o.id, o.sch, o.time, o.cart, o.kind, o.item, noRef, 0, false, noS, []⟩) (by simp [partsOp, fieldKind, k3, k4, k5, k2]) (PLe.rep (PLe.agg (by repeat' (first | refine PLes.cons ?_ ?_ | exact PLe.refl _ | exact PLe.nil | exact PLe.bool _ | exact PLes.end)))), trivial⟩
    have k5 : iEq o.kind 5 = true := notf k5
    have k2 := kinds 5 k5 2 (by decide)
    conv => whnf
    refine ⟨fun h => Bool.noConfusion (k4.symm.trans h), fun _ => ?_⟩
    conv => whnf
    refine ⟨fun h => Bool.noConfusion (k4.symm.trans h), fun _ => ?_⟩
    conv => whnf
    refine ⟨fun h => Bool.noConfusion (k3.symm.trans h), fun _ => ?_⟩
    conv => whnf
    refine ⟨fun h => Bool.noConfusion (k4.symm.trans h), fun _ => ?_⟩
    conv => whnf
    refine ⟨fun h => Bool.noConfusion (k2.symm.trans h), fun _ => ?_⟩
    conv => whnf
    refine ⟨fun _ => ?_, fun h => Bool.noConfusion (k5.symm.trans h)⟩
    conv => whnf
    exact ⟨[], _, _, _, rfl, rfl, rfl, RepLe.as (fun y => .p (encOp y)) (a := ⟨o.id, o.sch, o.time, o.cart, o.kind, noS, noRef, 0, false, noS, o.drops⟩) (by simp [partsOp, fieldKind, k3, k4, k5, k2]) (PLe.rep (PLe.agg (by repeat' (first | refine PLes.cons ?_ ?_ | exact PLe.refl _ | exact PLe.nil | exact PLe.bool _ | exact PLes.end)))), trivial⟩
  have k4 : iEq o.kind 4 = true := notf k4
  have k5 := kinds 4 k4 5 (by decide)
  have k2 := kinds 4 k4 2 (by decide)
  conv => whnf
  refine ⟨fun _ => ?_, fun h => Bool.noConfusion (k4.symm.trans h)⟩
  conv => whnf
  refine ⟨fun s1 => ?_, fun s1 => ?_⟩
  · conv => whnf
    refine ⟨fun _ => ?_, fun h => Bool.noConfusion (k4.symm.trans h)⟩
    conv => whnf
    refine ⟨fun h => Bool.noConfusion (k3.symm.trans h), fun _ => ?_⟩
    conv => whnf
    refine ⟨fun _ => ?_, fun h => Bool.noConfusion (k4.symm.trans h)⟩
    conv => whnf
    refine ⟨fun h => ?_, fun h => ?_⟩
    · conv => whnf
      exact ⟨[], _, _, _, rfl, rfl, rfl, RepLe.as (fun y => .p (encOp y)) (a := ⟨o.id, o.sch, o.time, o.cart, o.kind, o.item, o.place, 0, o.has, o.text, o.drops⟩) (by simp [partsOp, fieldKind, k3, k4, k5, k2, s1, h]) (PLe.rep (PLe.agg (by repeat' (first | refine PLes.cons ?_ ?_ | exact PLe.refl _ | exact PLe.nil | exact PLe.bool _ | exact PLes.end)))), trivial⟩
    · conv => whnf
      exact ⟨[], _, _, _, rfl, rfl, rfl, RepLe.as (fun y => .p (encOp y)) (a := ⟨o.id, o.sch, o.time, o.cart, o.kind, o.item, o.place, 0, o.has, noS, o.drops⟩) (by simp [partsOp, fieldKind, k3, k4, k5, k2, s1, h]) (PLe.rep (PLe.agg (by repeat' (first | refine PLes.cons ?_ ?_ | exact PLe.refl _ | exact PLe.nil | exact PLe.bool _ | exact PLes.end)))), trivial⟩
  · conv => whnf
    refine ⟨fun _ => ?_, fun h => Bool.noConfusion (k4.symm.trans h)⟩
    conv => whnf
    refine ⟨fun h => Bool.noConfusion (k3.symm.trans h), fun _ => ?_⟩
    conv => whnf
    refine ⟨fun _ => ?_, fun h => Bool.noConfusion (k4.symm.trans h)⟩
    conv => whnf
    refine ⟨fun h => ?_, fun h => ?_⟩
    · conv => whnf
      exact ⟨[], _, _, _, rfl, rfl, rfl, RepLe.as (fun y => .p (encOp y)) (a := ⟨o.id, o.sch, o.time, o.cart, o.kind, noS, o.place, 0, o.has, o.text, o.drops⟩) (by simp [partsOp, fieldKind, k3, k4, k5, k2, s1, h]) (PLe.rep (PLe.agg (by repeat' (first | refine PLes.cons ?_ ?_ | exact PLe.refl _ | exact PLe.nil | exact PLe.bool _ | exact PLes.end)))), trivial⟩
    · conv => whnf
      exact ⟨[], _, _, _, rfl, rfl, rfl, RepLe.as (fun y => .p (encOp y)) (a := ⟨o.id, o.sch, o.time, o.cart, o.kind, noS, o.place, 0, o.has, noS, o.drops⟩) (by simp [partsOp, fieldKind, k3, k4, k5, k2, s1, h]) (PLe.rep (PLe.agg (by repeat' (first | refine PLes.cons ?_ ?_ | exact PLe.refl _ | exact PLe.nil | exact PLe.bool _ | exact PLes.end)))), trivial⟩
end Go.Proofs.YtalpbdabeffnlaaGreat

/- Where a place is found over a lens; what becomes of an op. -/
set_option linter.unusedVariables false
set_option linter.unusedSimpArgs false
namespace Go.Proofs.YtalpbdabeffnlaaGreat
open Go Go.Av
set_option maxRecDepth 100000
set_option maxHeartbeats 4000000

def idxRef (l : List SRef) (r : SRef) : Option Nat := findUpto (fun i => sameRef r (l.getD i noRef)) l.length 0
theorem f331 (l : List SRef) (r : SRef) (hl : l.length ≤ maxLen) : PCall Tryz.prog 61 [encRefs l, encRef r] (.p (.val (.int .i64 (posOf (idxRef l r))))) [] := by
  have hlen : l.length ≤ 9223372036854775807 := hl
  refine gcode hT hM Tryz.func61 rfl rfl (rv := [(4, none)]) rfl rfl rfl fun G hG => ?_
  conv => whnf
  refine AW.loop (X := Nat) (fun i => told 19 [(0, .p (encRefs l)), (3, .pt 0 0), (7, vI .i64 (l.length : Int)), (8, vI .i64 (i : Int))] [(0, some (.box 36 ((refCells r).map .p)))] [0]) (fun i => i ≤ l.length ∧ idxRef l r = findUpto (fun i => sameRef r (l.getD i noRef)) (l.length - i) i) (fun i => l.length - i) (used0 hG _) 0 ⟨by omega, rfl⟩ (stle ⟨RepLe.refl _, RepLe.refl _, RepLe.refl _, RepLe.refl _, trivial⟩ ⟨⟨_, rfl, BlkLe.refl _⟩, trivial⟩ rfl) ?_
  rintro i ⟨hi, hr⟩
  refine codeK_aw hT hM _ _ _ ?_
  conv => whnf
  refine ⟨fun h4 => ?_, fun h4 => ?_⟩
  · have hlt : i < l.length := by rw [iLt_t] at h4; omega
    rw [findUpto_step _ hlt] at hr
    conv => whnf
    refine ⟨by omega, ?_⟩
    conv => whnf
    refine ⟨rfl, ?_⟩
    conv => whnf
    refine ⟨fun h5 => ?_, fun h5 => ?_⟩
    · have h5 : sameRef r (l.getD i noRef) = true := by unfold sameRef; simpa using h5
      rw [h5] at hr
      conv => whnf
      exact ⟨[], _, _, _, rfl, rfl, rfl, RepLe.vi (by rw [hr]; rfl), trivial⟩
    have h5 : sameRef r (l.getD i noRef) = false := by unfold sameRef; cases q : (iEq r.scope (l.getD i noRef).scope && (sEq r.group (l.getD i noRef).group && sEq r.name (l.getD i noRef).name)) with | false => rfl | true => simp_all
    rw [h5] at hr
    conv => whnf
    intro z hz
    have hy := wrap64_eq hz (by omega) (by omega)
    clear hz
    subst hy
    conv => whnf
    exact ⟨i + 1, ⟨by omega, hr⟩, by omega, stle ⟨RepLe.refl _, RepLe.refl _, RepLe.refl _, RepLe.of rfl, trivial⟩ ⟨⟨_, rfl, BlkLe.refl _⟩, trivial⟩ rfl⟩
  have hge : i = l.length := by rw [iLt_f] at h4; omega
  subst hge
  rw [Nat.sub_self] at hr
  conv => whnf
  exact ⟨[], _, _, _, rfl, rfl, rfl, RepLe.vi (by rw [hr]; rfl), trivial⟩
theorem f347 (l : List SRef) (r : SRef) (hl : l.length ≤ maxLen) : PCall Tryz.prog 119 [encRefs l, encRef r] (.p (.val (.bool (iLe 0 (posOf (idxRef l r)))))) [] := by
  refine gcode hT hM Tryz.func119 rfl rfl (rv := [(4, none)]) rfl rfl rfl fun G hG => ?_
  conv => whnf
  refine CallK.lent (f331 l r hl) rfl ?_
  conv => whnf
  exact ⟨[], _, _, _, rfl, rfl, rfl, RepLe.refl _, trivial⟩
theorem goes_small (x : SLens) : (goesOf x).length ≤ maxLen := by
  refine Nat.le_trans ?_ (show 2 ≤ maxLen by decide)
  unfold goesOf
  cases !lensOk x || iEq x.kind 2 <;> cases iEq x.kind 3 <;> cases iEq x.kind 9 <;> simp [twoOf]
theorem comes_small (x : SLens) : (comesOf x).length ≤ maxLen := by
  refine Nat.le_trans ?_ (show 2 ≤ maxLen by decide)
  unfold comesOf
  cases !lensOk x || iEq x.kind 3 <;> cases iEq x.kind 2 <;> cases iEq x.kind 1 <;> cases iEq x.kind 4 <;> cases iEq x.kind 5 <;> cases iEq x.kind 6 <;> simp [twoOf]
def traceF (x : SLens) (r : SRef) : SRef × Bool :=
  if lensOk x then (match idxRef (goesOf x) r with
    | none => (r, true)
    | some _ => if iEq ((comesOf x).length : Int) 0 then (noRef, false) else ((comesOf x).getD 0 noRef, true))
  else (noRef, false)
def encTrace (t : SRef × Bool) : AV := .tup 2 (at_ (.p .any) [.p (encRef t.1), .p (.val (.bool t.2))])
theorem trace_ret {a : PV} {b : PV} {t : SRef × Bool} {r : SRef} {c : Bool} (h : t = (r, c)) (ha : PLe a (encRef r)) (hb : PLe b (.val (.bool c))) : RepLe (.tup 2 (at_ (.p .any) [.p a, .p b])) (encTrace t) := by
  subst h; exact RepLe.tup2 (PLe.rep ha) (PLe.rep hb)
theorem f329 (x : SLens) (r : SRef) (hx : fitLens x) : PCall Tryz.prog 59 [encLens x, encRef r] (encTrace (traceF x r)) [] := by
  have hgl := goes_small x
  refine gcode hT hM Tryz.func59 rfl rfl (rv := [(4, some 36), (5, none)]) rfl rfl rfl fun G hG => ?_
  conv => whnf
  refine CallK.lent (f25 x hx.ok) rfl ?_
  conv => whnf
  refine ⟨fun h1 => ?_, fun h1 => ?_⟩
  · have h1 : lensOk x = false := nott h1
    conv => whnf
    exact ⟨[], _, _, _, rfl, rfl, rfl, trace_ret (by unfold traceF; rw [h1]; rfl) (PLe.agg (by repeat' (first | refine PLes.cons ?_ ?_ | exact PLe.refl _ | exact PLes.end))) (PLe.bool _), trivial⟩
  have h1 : lensOk x = true := notf h1
  conv => whnf
  refine CallK.go [] (f51 x hx.ok) rfl rfl rfl rfl rfl ?_
  conv => whnf
  refine CallK.lent (f347 (goesOf x) r hgl) rfl ?_
  conv => whnf
  refine ⟨rfl, ?_⟩
  conv => whnf
  cases q : idxRef (goesOf x) r with
  | none =>
    have q2 : iLe 0 (posOf none) = false := posOf_none
    refine ⟨fun h2 => ?_, fun h2 => ?_⟩
    · conv => whnf
      exact ⟨[], _, _, _, rfl, rfl, rfl, trace_ret (by unfold traceF; rw [h1, q]; rfl) (PLe.refl _) (PLe.bool _), trivial⟩
    · rw [q2] at h2; cases h2
  | some j =>
    have q2 : iLe 0 (posOf (some j)) = true := posOf_has _
    refine ⟨fun h2 => ?_, fun h2 => ?_⟩
    · rw [q2] at h2; cases h2
    conv => whnf
    refine CallK.go [] (f52 x hx.ok) rfl rfl rfl rfl rfl ?_
    conv => whnf
    refine ⟨fun h3 => ?_, fun h3 => ?_⟩
    · conv => whnf
      exact ⟨[], _, _, _, rfl, rfl, rfl, trace_ret (by unfold traceF; rw [h1, q]; show (if iEq ((comesOf x).length : Int) 0 = true then _ else _) = _; rw [h3]; rfl) (PLe.agg (by repeat' (first | refine PLes.cons ?_ ?_ | exact PLe.refl _ | exact PLes.end))) (PLe.bool _), trivial⟩
    have h0 : 0 < (comesOf x).length := by rw [iEq_f] at h3; omega
    conv => whnf
    refine ⟨by omega, ?_⟩
    conv => whnf
    exact ⟨[], _, _, _, rfl, rfl, rfl, trace_ret (by unfold traceF; rw [h1, q]; show (if iEq ((comesOf x).length : Int) 0 = true then _ else _) = _; rw [h3]; rfl) (PLe.refl _) (PLe.bool _), trivial⟩

def overF (x : SLens) (o : SOp) : SOp × Bool :=
  if !lensOk x then (noOp, false)
  else if !iEq o.kind 3 && !iEq o.kind 4 then (o, true)
  else if !(traceF x o.place).2 then (noOp, false)
  else match idxRef (goesOf x) o.place with
  | none => (o, true)
  | some i =>
    if iEq x.kind 6 || iEq x.kind 9 then (if !iEq o.kind 3 then (noOp, false) else if iEq (i : Int) 1 then ({ o with place := (traceF x o.place).1, delta := o.delta * x.factor }, true) else ({ o with place := (traceF x o.place).1 }, true))
    else if iEq x.kind 7 || (iEq x.kind 10 || iEq x.kind 8) then (if !iEq o.kind 4 then (noOp, false) else if iEq x.kind 8 && o.has then (if (caseOf x.forth o.text).2 then ({ o with place := (traceF x o.place).1, text := (caseOf x.forth o.text).1 }, true) else (noOp, false)) else ({ o with place := (traceF x o.place).1 }, true))
    else ({ o with place := (traceF x o.place).1 }, true)
def encOver (t : SOp × Bool) : AV := .tup 2 (at_ (.p .any) [.p (encOp t.1), .p (.val (.bool t.2))])
theorem over_ret {a : PV} {b : PV} {t : SOp × Bool} {r : SOp} {c : Bool} (h : t = (r, c)) (ha : PLe a (encOp r)) (hb : PLe b (.val (.bool c))) : RepLe (.tup 2 (at_ (.p .any) [.p a, .p b])) (encOver t) := by
  subst h; exact RepLe.tup2 (PLe.rep ha) (PLe.rep hb)
theorem BlkLe.anys {ty n : Nat} {cells : List AV} (h : cells.length = n) : BlkLe (.box ty cells) (.box ty (List.replicate n (.p .any))) := by
  rintro w F ν u ⟨g, cs, h1, h2, h3, h4⟩
  refine ⟨g, cs, h1, h2, by simp [h3, h], fun j y hy => ?_⟩
  have hj : j < n := by
    have := (List.getElem?_eq_some_iff.1 hy).1
    simpa using this
  have : y = .p .any := by
    rw [List.getElem?_replicate, if_pos hj] at hy
    injection hy with hy; exact hy.symm
  subst this
  obtain ⟨c, a1, a2, _⟩ := h4 j _ (List.getElem?_eq_getElem (show j < cells.length by omega))
  exact ⟨c, a1, a2, trivial⟩
def ovS : St := told 102 [(4, .pt 16 0)] [(16, some (.box 47 (List.replicate 15 (.p .any))))] [16]
theorem factor_facts {x : SLens} (h : lensOk x = true) (h5 : iEq x.kind 6 = true ∨ iEq x.kind 9 = true) : 2 ≤ x.factor ∧ x.factor ≤ 1000 := by
  have hf : factorOk x.factor = true := by
    unfold lensOk restOk kindOk at h
    have hh : (iEq x.kind 6 || iEq x.kind 9) = true := by rcases h5 with h | h <;> simp [h]
    have k2 : iEq x.kind 2 = false := by rcases h5 with h | h; exact kinds 6 h 2 (by decide); exact kinds 9 h 2 (by decide)
    have k3 : iEq x.kind 3 = false := by rcases h5 with h | h; exact kinds 6 h 3 (by decide); exact kinds 9 h 3 (by decide)
    have k1 : iEq x.kind 1 = false := by rcases h5 with h | h; exact kinds 6 h 1 (by decide); exact kinds 9 h 1 (by decide)
    have k4 : iEq x.kind 4 = false := by rcases h5 with h | h; exact kinds 6 h 4 (by decide); exact kinds 9 h 4 (by decide)
    have k5 : iEq x.kind 5 = false := by rcases h5 with h | h; exact kinds 6 h 5 (by decide); exact kinds 9 h 5 (by decide)
    rw [k2, k3, k1, k4, k5] at h
    simp only [Bool.or_self, Bool.false_eq_true, if_false] at h
    rw [if_pos hh] at h
    simp only [Bool.and_eq_true] at h
    exact h.2.2.2.2.2.2.2
  unfold factorOk at hf
  simp only [Bool.and_eq_true, iLe_t] at hf
  exact hf
-- OVER
theorem over_some {x : SLens} {o : SOp} {i : Nat} (h1 : lensOk x = true) (hk : (!iEq o.kind 3 && !iEq o.kind 4) = false) (ht : (traceF x o.place).2 = true) (q : idxRef (goesOf x) o.place = some i) : overF x o =
  (if iEq x.kind 6 || iEq x.kind 9 then (if !iEq o.kind 3 then (noOp, false) else if iEq (i : Int) 1 then ({ o with place := (traceF x o.place).1, delta := o.delta * x.factor }, true) else ({ o with place := (traceF x o.place).1 }, true))
  else if iEq x.kind 7 || (iEq x.kind 10 || iEq x.kind 8) then (if !iEq o.kind 4 then (noOp, false) else if iEq x.kind 8 && o.has then (if (caseOf x.forth o.text).2 then ({ o with place := (traceF x o.place).1, text := (caseOf x.forth o.text).1 }, true) else (noOp, false)) else ({ o with place := (traceF x o.place).1 }, true))
  else ({ o with place := (traceF x o.place).1 }, true)) := by
  unfold overF; rw [h1, hk, ht, q]; rfl
theorem f314 (x : SLens) (o : SOp) (hx : fitLens x) (ho : fitOp o) (hd : o.delta.natAbs ≤ 1099511627776) : PCall Tryz.prog 24 [encLens x, encOp o] (encOver (overF x o)) [] := by
  have hgl := goes_small x
  refine gcode hT hM Tryz.func24 rfl rfl (rv := [(4, some 47), (5, none)]) rfl rfl rfl fun G hG => ?_
  conv => whnf
  refine AW.scope (X := Unit) 0 (fun _ => ovS) (fun _ => overF x o = (noOp, false)) (fun _ => 0) (used0 hG _) rfl ?_ ?_
  · refine codeK_aw hT hM _ _ _ ?_
    conv => whnf
    refine CallK.go [] (f329 x o.place hx) rfl rfl rfl rfl rfl ?_
    conv => whnf
    refine CallK.lent (f25 x hx.ok) rfl ?_
    conv => whnf
    refine ⟨fun h1 => ?_, fun h1 => ?_⟩
    · have h1 : lensOk x = false := nott h1
      conv => whnf
      exact ⟨(), by unfold overF; rw [h1]; rfl, stle ⟨RepLe.refl _, trivial⟩ ⟨⟨_, rfl, BlkLe.anys rfl⟩, trivial⟩ rfl⟩
    have h1 : lensOk x = true := notf h1
    conv => whnf
    refine ⟨fun k3 => ?_, fun k3 => ?_⟩
    · have k3 : iEq o.kind 3 = false := nott k3
      conv => whnf
      refine ⟨fun k4 => ?_, fun k4 => ?_⟩
      · have k4 : iEq o.kind 4 = false := nott k4
        conv => whnf
        refine CallK.go [] (f330 o ho) rfl rfl rfl rfl rfl ?_
        conv => whnf
        exact ⟨[], _, _, _, rfl, rfl, rfl, over_ret (by unfold overF; rw [h1, k3, k4]; rfl) (PLe.refl _) (PLe.bool _), trivial⟩
      have k4 : iEq o.kind 4 = true := notf k4
      have hk : (!iEq o.kind 3 && !iEq o.kind 4) = false := by rw [k3, k4]; rfl
      conv => whnf
      refine ⟨fun m1 => ?_, fun m1 => ?_⟩
      · have m1 : (traceF x o.place).2 = false := nott m1
        conv => whnf
        exact ⟨(), by unfold overF; rw [h1, hk, m1]; rfl, stle ⟨RepLe.refl _, trivial⟩ ⟨⟨_, rfl, BlkLe.anys rfl⟩, trivial⟩ rfl⟩
      have m1 : (traceF x o.place).2 = true := notf m1
      have c331 := f331 (goesOf x) o.place hgl
      conv => whnf
      refine CallK.go [] (f330 o ho) rfl rfl rfl rfl rfl ?_
      conv => whnf
      refine CallK.go [] (f51 x hx.ok) rfl rfl rfl rfl rfl ?_
      conv => whnf
      cases q : idxRef (goesOf x) o.place with
      | none =>
        rw [q] at c331
        refine CallK.lent (c331) rfl ?_
        conv => whnf
        refine ⟨rfl, ?_⟩
        conv => whnf
        refine ⟨fun r1 => ?_, fun r1 => ?_⟩
        · conv => whnf
          exact ⟨[], _, _, _, rfl, rfl, rfl, over_ret (by unfold overF; rw [h1, hk, m1, q]; rfl) (PLe.refl _) (PLe.bool _), trivial⟩
        · exact absurd (iLt_f.1 r1) (show ¬ (0 : Int) ≤ -1 by decide)
      | some i =>
        have hov := over_some h1 hk m1 q
        rw [q] at c331
        refine CallK.lent (c331) rfl ?_
        conv => whnf
        refine ⟨rfl, ?_⟩
        conv => whnf
        refine ⟨fun r1 => ?_, fun r1 => ?_⟩
        · exact absurd (iLt_t.1 r1) (show ¬ ((i : Nat) : Int) < 0 by omega)
        clear r1
        conv => whnf
        refine ⟨fun s1 => ?_, fun s1 => ?_⟩
        · have s1 : iEq (i : Int) 1 = true := s1
          rw [s1, k3, k4] at hov
          conv => whnf
          rcases kind_range h1 with k | k | k | k | k | k | k | k | k | k
          · have kk : iEq x.kind 1 = true := iEq_t.2 k
            have q1 : iEq x.kind 1 = true := kk
            have q2 : iEq x.kind 2 = false := kinds 1 kk 2 (by decide)
            have q3 : iEq x.kind 3 = false := kinds 1 kk 3 (by decide)
            have q4 : iEq x.kind 4 = false := kinds 1 kk 4 (by decide)
            have q5 : iEq x.kind 5 = false := kinds 1 kk 5 (by decide)
            have q6 : iEq x.kind 6 = false := kinds 1 kk 6 (by decide)
            have q7 : iEq x.kind 7 = false := kinds 1 kk 7 (by decide)
            have q8 : iEq x.kind 8 = false := kinds 1 kk 8 (by decide)
            have q9 : iEq x.kind 9 = false := kinds 1 kk 9 (by decide)
            have q10 : iEq x.kind 10 = false := kinds 1 kk 10 (by decide)
            rw [q6, q9, q7, q10, q8] at hov
            refine ⟨fun h => Bool.noConfusion (q6.symm.trans h), fun _ => ?_⟩
            conv => whnf
            refine ⟨fun h => Bool.noConfusion (q9.symm.trans h), fun _ => ?_⟩
            conv => whnf
            refine ⟨fun h => Bool.noConfusion (q7.symm.trans h), fun _ => ?_⟩
            conv => whnf
            refine ⟨fun h => Bool.noConfusion (q10.symm.trans h), fun _ => ?_⟩
            conv => whnf
            refine ⟨fun h => Bool.noConfusion (q8.symm.trans h), fun _ => ?_⟩
            conv => whnf
            exact ⟨[], _, _, _, rfl, rfl, rfl, over_ret (hov) (PLe.refl _) (PLe.bool _), trivial⟩
          · have kk : iEq x.kind 2 = true := iEq_t.2 k
            have q1 : iEq x.kind 1 = false := kinds 2 kk 1 (by decide)
            have q2 : iEq x.kind 2 = true := kk
            have q3 : iEq x.kind 3 = false := kinds 2 kk 3 (by decide)
            have q4 : iEq x.kind 4 = false := kinds 2 kk 4 (by decide)
            have q5 : iEq x.kind 5 = false := kinds 2 kk 5 (by decide)
            have q6 : iEq x.kind 6 = false := kinds 2 kk 6 (by decide)
            have q7 : iEq x.kind 7 = false := kinds 2 kk 7 (by decide)
            have q8 : iEq x.kind 8 = false := kinds 2 kk 8 (by decide)
            have q9 : iEq x.kind 9 = false := kinds 2 kk 9 (by decide)
            have q10 : iEq x.kind 10 = false := kinds 2 kk 10 (by decide)
            have : goesOf x = [] := by unfold goesOf; rw [h1, q2]; rfl
            rw [this] at q; cases q
          · have kk : iEq x.kind 3 = true := iEq_t.2 k
            have q1 : iEq x.kind 1 = false := kinds 3 kk 1 (by decide)
            have q2 : iEq x.kind 2 = false := kinds 3 kk 2 (by decide)
            have q3 : iEq x.kind 3 = true := kk
            have q4 : iEq x.kind 4 = false := kinds 3 kk 4 (by decide)
            have q5 : iEq x.kind 5 = false := kinds 3 kk 5 (by decide)
            have q6 : iEq x.kind 6 = false := kinds 3 kk 6 (by decide)
            have q7 : iEq x.kind 7 = false := kinds 3 kk 7 (by decide)
            have q8 : iEq x.kind 8 = false := kinds 3 kk 8 (by decide)
            have q9 : iEq x.kind 9 = false := kinds 3 kk 9 (by decide)
            have q10 : iEq x.kind 10 = false := kinds 3 kk 10 (by decide)
            have : (traceF x o.place).2 = false := by unfold traceF; rw [h1, q, comes_nil q3]; show (if iEq ((([] : List SRef).length : Nat) : Int) 0 = true then (noRef, false) else _).2 = false; rw [show iEq ((([] : List SRef).length : Nat) : Int) 0 = true from iEq_same 0]; rfl
            rw [m1] at this; cases this
          · have kk : iEq x.kind 4 = true := iEq_t.2 k
            have q1 : iEq x.kind 1 = false := kinds 4 kk 1 (by decide)
            have q2 : iEq x.kind 2 = false := kinds 4 kk 2 (by decide)
            have q3 : iEq x.kind 3 = false := kinds 4 kk 3 (by decide)
            have q4 : iEq x.kind 4 = true := kk
            have q5 : iEq x.kind 5 = false := kinds 4 kk 5 (by decide)
            have q6 : iEq x.kind 6 = false := kinds 4 kk 6 (by decide)
            have q7 : iEq x.kind 7 = false := kinds 4 kk 7 (by decide)
            have q8 : iEq x.kind 8 = false := kinds 4 kk 8 (by decide)
            have q9 : iEq x.kind 9 = false := kinds 4 kk 9 (by decide)
            have q10 : iEq x.kind 10 = false := kinds 4 kk 10 (by decide)
            rw [q6, q9, q7, q10, q8] at hov
            refine ⟨fun h => Bool.noConfusion (q6.symm.trans h), fun _ => ?_⟩
            conv => whnf
            refine ⟨fun h => Bool.noConfusion (q9.symm.trans h), fun _ => ?_⟩
            conv => whnf
            refine ⟨fun h => Bool.noConfusion (q7.symm.trans h), fun _ => ?_⟩
            conv => whnf
            refine ⟨fun h => Bool.noConfusion (q10.symm.trans h), fun _ => ?_⟩
            conv => whnf
            refine ⟨fun h => Bool.noConfusion (q8.symm.trans h), fun _ => ?_⟩
            conv => whnf
            exact ⟨[], _, _, _, rfl, rfl, rfl, over_ret (hov) (PLe.refl _) (PLe.bool _), trivial⟩
          · have kk : iEq x.kind 5 = true := iEq_t.2 k
            have q1 : iEq x.kind 1 = false := kinds 5 kk 1 (by decide)
            have q2 : iEq x.kind 2 = false := kinds 5 kk 2 (by decide)
            have q3 : iEq x.kind 3 = false := kinds 5 kk 3 (by decide)
            have q4 : iEq x.kind 4 = false := kinds 5 kk 4 (by decide)
            have q5 : iEq x.kind 5 = true := kk
            have q6 : iEq x.kind 6 = false := kinds 5 kk 6 (by decide)
            have q7 : iEq x.kind 7 = false := kinds 5 kk 7 (by decide)
            have q8 : iEq x.kind 8 = false := kinds 5 kk 8 (by decide)
            have q9 : iEq x.kind 9 = false := kinds 5 kk 9 (by decide)
            have q10 : iEq x.kind 10 = false := kinds 5 kk 10 (by decide)
            rw [q6, q9, q7, q10, q8] at hov
            refine ⟨fun h => Bool.noConfusion (q6.symm.trans h), fun _ => ?_⟩
            conv => whnf
            refine ⟨fun h => Bool.noConfusion (q9.symm.trans h), fun _ => ?_⟩
            conv => whnf
            refine ⟨fun h => Bool.noConfusion (q7.symm.trans h), fun _ => ?_⟩
            conv => whnf
            refine ⟨fun h => Bool.noConfusion (q10.symm.trans h), fun _ => ?_⟩
            conv => whnf
            refine ⟨fun h => Bool.noConfusion (q8.symm.trans h), fun _ => ?_⟩
            conv => whnf
            exact ⟨[], _, _, _, rfl, rfl, rfl, over_ret (hov) (PLe.refl _) (PLe.bool _), trivial⟩
          · have kk : iEq x.kind 6 = true := iEq_t.2 k
            have q1 : iEq x.kind 1 = false := kinds 6 kk 1 (by decide)
            have q2 : iEq x.kind 2 = false := kinds 6 kk 2 (by decide)
            have q3 : iEq x.kind 3 = false := kinds 6 kk 3 (by decide)
            have q4 : iEq x.kind 4 = false := kinds 6 kk 4 (by decide)
            have q5 : iEq x.kind 5 = false := kinds 6 kk 5 (by decide)
            have q6 : iEq x.kind 6 = true := kk
            have q7 : iEq x.kind 7 = false := kinds 6 kk 7 (by decide)
            have q8 : iEq x.kind 8 = false := kinds 6 kk 8 (by decide)
            have q9 : iEq x.kind 9 = false := kinds 6 kk 9 (by decide)
            have q10 : iEq x.kind 10 = false := kinds 6 kk 10 (by decide)
            rw [q6, q9, q7, q10, q8] at hov
            refine ⟨fun _ => ?_, fun h => Bool.noConfusion (q6.symm.trans h)⟩
            conv => whnf
            refine ⟨fun _ => ?_, fun h => Bool.noConfusion (q6.symm.trans h)⟩
            conv => whnf
            refine ⟨fun e1 => ?_, fun e1 => ?_⟩
            · conv => whnf
              exact ⟨(), hov, stle ⟨RepLe.refl _, trivial⟩ ⟨⟨_, rfl, BlkLe.anys rfl⟩, trivial⟩ rfl⟩
            · rw [k3] at e1; cases e1
          · have kk : iEq x.kind 7 = true := iEq_t.2 k
            have q1 : iEq x.kind 1 = false := kinds 7 kk 1 (by decide)
            have q2 : iEq x.kind 2 = false := kinds 7 kk 2 (by decide)
            have q3 : iEq x.kind 3 = false := kinds 7 kk 3 (by decide)
            have q4 : iEq x.kind 4 = false := kinds 7 kk 4 (by decide)
            have q5 : iEq x.kind 5 = false := kinds 7 kk 5 (by decide)
            have q6 : iEq x.kind 6 = false := kinds 7 kk 6 (by decide)
            have q7 : iEq x.kind 7 = true := kk
            have q8 : iEq x.kind 8 = false := kinds 7 kk 8 (by decide)
            have q9 : iEq x.kind 9 = false := kinds 7 kk 9 (by decide)
            have q10 : iEq x.kind 10 = false := kinds 7 kk 10 (by decide)
            rw [q6, q9, q7, q10, q8] at hov
            refine ⟨fun h => Bool.noConfusion (q6.symm.trans h), fun _ => ?_⟩
            conv => whnf
            refine ⟨fun h => Bool.noConfusion (q9.symm.trans h), fun _ => ?_⟩
            conv => whnf
            refine ⟨fun _ => ?_, fun h => Bool.noConfusion (q7.symm.trans h)⟩
            conv => whnf
            refine ⟨fun _ => ?_, fun h => Bool.noConfusion (q7.symm.trans h)⟩
            conv => whnf
            refine ⟨fun e1 => ?_, fun e1 => ?_⟩
            · rw [k4] at e1; cases e1
            clear e1
            conv => whnf
            refine ⟨fun h => Bool.noConfusion (q8.symm.trans h), fun _ => ?_⟩
            conv => whnf
            exact ⟨[], _, _, _, rfl, rfl, rfl, over_ret (hov) (PLe.refl _) (PLe.bool _), trivial⟩
          · have kk : iEq x.kind 8 = true := iEq_t.2 k
            have q1 : iEq x.kind 1 = false := kinds 8 kk 1 (by decide)
            have q2 : iEq x.kind 2 = false := kinds 8 kk 2 (by decide)
            have q3 : iEq x.kind 3 = false := kinds 8 kk 3 (by decide)
            have q4 : iEq x.kind 4 = false := kinds 8 kk 4 (by decide)
            have q5 : iEq x.kind 5 = false := kinds 8 kk 5 (by decide)
            have q6 : iEq x.kind 6 = false := kinds 8 kk 6 (by decide)
            have q7 : iEq x.kind 7 = false := kinds 8 kk 7 (by decide)
            have q8 : iEq x.kind 8 = true := kk
            have q9 : iEq x.kind 9 = false := kinds 8 kk 9 (by decide)
            have q10 : iEq x.kind 10 = false := kinds 8 kk 10 (by decide)
            rw [q6, q9, q7, q10, q8] at hov
            refine ⟨fun h => Bool.noConfusion (q6.symm.trans h), fun _ => ?_⟩
            conv => whnf
            refine ⟨fun h => Bool.noConfusion (q9.symm.trans h), fun _ => ?_⟩
            conv => whnf
            refine ⟨fun h => Bool.noConfusion (q7.symm.trans h), fun _ => ?_⟩
            conv => whnf
            refine ⟨fun h => Bool.noConfusion (q10.symm.trans h), fun _ => ?_⟩
            conv => whnf
            refine ⟨fun _ => ?_, fun h => Bool.noConfusion (q8.symm.trans h)⟩
            conv => whnf
            refine ⟨fun e1 => ?_, fun e1 => ?_⟩
            · rw [k4] at e1; cases e1
            clear e1
            conv => whnf
            refine ⟨fun _ => ?_, fun h => Bool.noConfusion (q8.symm.trans h)⟩
            conv => whnf
            refine ⟨fun t1 => ?_, fun t1 => ?_⟩
            · rw [show (true && o.has) = true by rw [t1]; rfl] at hov
              conv => whnf
              refine CallK.go [] (f54 x.forth o.text (Nat.le_trans hx.2.1 (by decide))) rfl rfl rfl rfl rfl ?_
              conv => whnf
              refine ⟨fun u1 => ?_, fun u1 => ?_⟩
              · have u1 : (caseOf x.forth o.text).2 = false := nott u1
                rw [u1] at hov
                conv => whnf
                exact ⟨(), hov, stle ⟨RepLe.refl _, trivial⟩ ⟨⟨_, rfl, BlkLe.anys rfl⟩, trivial⟩ rfl⟩
              have u1 : (caseOf x.forth o.text).2 = true := notf u1
              rw [u1] at hov
              conv => whnf
              exact ⟨[], _, _, _, rfl, rfl, rfl, over_ret (hov) (PLe.refl _) (PLe.bool _), trivial⟩
            rw [show (true && o.has) = false by rw [t1]; rfl] at hov
            conv => whnf
            exact ⟨[], _, _, _, rfl, rfl, rfl, over_ret (hov) (PLe.refl _) (PLe.bool _), trivial⟩
          · have kk : iEq x.kind 9 = true := iEq_t.2 k
            have q1 : iEq x.kind 1 = false := kinds 9 kk 1 (by decide)
            have q2 : iEq x.kind 2 = false := kinds 9 kk 2 (by decide)
            have q3 : iEq x.kind 3 = false := kinds 9 kk 3 (by decide)
            have q4 : iEq x.kind 4 = false := kinds 9 kk 4 (by decide)
            have q5 : iEq x.kind 5 = false := kinds 9 kk 5 (by decide)
            have q6 : iEq x.kind 6 = false := kinds 9 kk 6 (by decide)
            have q7 : iEq x.kind 7 = false := kinds 9 kk 7 (by decide)
            have q8 : iEq x.kind 8 = false := kinds 9 kk 8 (by decide)
            have q9 : iEq x.kind 9 = true := kk
            have q10 : iEq x.kind 10 = false := kinds 9 kk 10 (by decide)
            rw [q6, q9, q7, q10, q8] at hov
            refine ⟨fun h => Bool.noConfusion (q6.symm.trans h), fun _ => ?_⟩
            conv => whnf
            refine ⟨fun _ => ?_, fun h => Bool.noConfusion (q9.symm.trans h)⟩
            conv => whnf
            refine ⟨fun e1 => ?_, fun e1 => ?_⟩
            · conv => whnf
              exact ⟨(), hov, stle ⟨RepLe.refl _, trivial⟩ ⟨⟨_, rfl, BlkLe.anys rfl⟩, trivial⟩ rfl⟩
            · rw [k3] at e1; cases e1
          · have kk : iEq x.kind 10 = true := iEq_t.2 k
            have q1 : iEq x.kind 1 = false := kinds 10 kk 1 (by decide)
            have q2 : iEq x.kind 2 = false := kinds 10 kk 2 (by decide)
            have q3 : iEq x.kind 3 = false := kinds 10 kk 3 (by decide)
            have q4 : iEq x.kind 4 = false := kinds 10 kk 4 (by decide)
            have q5 : iEq x.kind 5 = false := kinds 10 kk 5 (by decide)
            have q6 : iEq x.kind 6 = false := kinds 10 kk 6 (by decide)
            have q7 : iEq x.kind 7 = false := kinds 10 kk 7 (by decide)
            have q8 : iEq x.kind 8 = false := kinds 10 kk 8 (by decide)
            have q9 : iEq x.kind 9 = false := kinds 10 kk 9 (by decide)
            have q10 : iEq x.kind 10 = true := kk
            rw [q6, q9, q7, q10, q8] at hov
            refine ⟨fun h => Bool.noConfusion (q6.symm.trans h), fun _ => ?_⟩
            conv => whnf
            refine ⟨fun h => Bool.noConfusion (q9.symm.trans h), fun _ => ?_⟩
            conv => whnf
            refine ⟨fun h => Bool.noConfusion (q7.symm.trans h), fun _ => ?_⟩
            conv => whnf
            refine ⟨fun _ => ?_, fun h => Bool.noConfusion (q10.symm.trans h)⟩
            conv => whnf
            refine ⟨fun _ => ?_, fun h => Bool.noConfusion (q10.symm.trans h)⟩
            conv => whnf
            refine ⟨fun e1 => ?_, fun e1 => ?_⟩
            · rw [k4] at e1; cases e1
            clear e1
            conv => whnf
            refine ⟨fun h => Bool.noConfusion (q8.symm.trans h), fun _ => ?_⟩
            conv => whnf
            exact ⟨[], _, _, _, rfl, rfl, rfl, over_ret (hov) (PLe.refl _) (PLe.bool _), trivial⟩
        · have s1 : iEq (i : Int) 1 = false := s1
          rw [s1, k3, k4] at hov
          conv => whnf
          rcases kind_range h1 with k | k | k | k | k | k | k | k | k | k
          · have kk : iEq x.kind 1 = true := iEq_t.2 k
            have q1 : iEq x.kind 1 = true := kk
            have q2 : iEq x.kind 2 = false := kinds 1 kk 2 (by decide)
            have q3 : iEq x.kind 3 = false := kinds 1 kk 3 (by decide)
            have q4 : iEq x.kind 4 = false := kinds 1 kk 4 (by decide)
            have q5 : iEq x.kind 5 = false := kinds 1 kk 5 (by decide)
            have q6 : iEq x.kind 6 = false := kinds 1 kk 6 (by decide)
            have q7 : iEq x.kind 7 = false := kinds 1 kk 7 (by decide)
            have q8 : iEq x.kind 8 = false := kinds 1 kk 8 (by decide)
            have q9 : iEq x.kind 9 = false := kinds 1 kk 9 (by decide)
            have q10 : iEq x.kind 10 = false := kinds 1 kk 10 (by decide)
            rw [q6, q9, q7, q10, q8] at hov
            refine ⟨fun h => Bool.noConfusion (q6.symm.trans h), fun _ => ?_⟩
            conv => whnf
            refine ⟨fun h => Bool.noConfusion (q9.symm.trans h), fun _ => ?_⟩
            conv => whnf
            refine ⟨fun h => Bool.noConfusion (q7.symm.trans h), fun _ => ?_⟩
            conv => whnf
            refine ⟨fun h => Bool.noConfusion (q10.symm.trans h), fun _ => ?_⟩
            conv => whnf
            refine ⟨fun h => Bool.noConfusion (q8.symm.trans h), fun _ => ?_⟩
            conv => whnf
            exact ⟨[], _, _, _, rfl, rfl, rfl, over_ret (hov) (PLe.refl _) (PLe.bool _), trivial⟩
          · have kk : iEq x.kind 2 = true := iEq_t.2 k
            have q1 : iEq x.kind 1 = false := kinds 2 kk 1 (by decide)
            have q2 : iEq x.kind 2 = true := kk
            have q3 : iEq x.kind 3 = false := kinds 2 kk 3 (by decide)
            have q4 : iEq x.kind 4 = false := kinds 2 kk 4 (by decide)
            have q5 : iEq x.kind 5 = false := kinds 2 kk 5 (by decide)
            have q6 : iEq x.kind 6 = false := kinds 2 kk 6 (by decide)
            have q7 : iEq x.kind 7 = false := kinds 2 kk 7 (by decide)
            have q8 : iEq x.kind 8 = false := kinds 2 kk 8 (by decide)
            have q9 : iEq x.kind 9 = false := kinds 2 kk 9 (by decide)
            have q10 : iEq x.kind 10 = false := kinds 2 kk 10 (by decide)
            have : goesOf x = [] := by unfold goesOf; rw [h1, q2]; rfl
            rw [this] at q; cases q
          · have kk : iEq x.kind 3 = true := iEq_t.2 k
            have q1 : iEq x.kind 1 = false := kinds 3 kk 1 (by decide)
            have q2 : iEq x.kind 2 = false := kinds 3 kk 2 (by decide)
            have q3 : iEq x.kind 3 = true := kk
            have q4 : iEq x.kind 4 = false := kinds 3 kk 4 (by decide)
            have q5 : iEq x.kind 5 = false := kinds 3 kk 5 (by decide)
            have q6 : iEq x.kind 6 = false := kinds 3 kk 6 (by decide)
            have q7 : iEq x.kind 7 = false := kinds 3 kk 7 (by decide)
            have q8 : iEq x.kind 8 = false := kinds 3 kk 8 (by decide)
            have q9 : iEq x.kind 9 = false := kinds 3 kk 9 (by decide)
            have q10 : iEq x.kind 10 = false := kinds 3 kk 10 (by decide)
            have : (traceF x o.place).2 = false := by unfold traceF; rw [h1, q, comes_nil q3]; show (if iEq ((([] : List SRef).length : Nat) : Int) 0 = true then (noRef, false) else _).2 = false; rw [show iEq ((([] : List SRef).length : Nat) : Int) 0 = true from iEq_same 0]; rfl
            rw [m1] at this; cases this
          · have kk : iEq x.kind 4 = true := iEq_t.2 k
            have q1 : iEq x.kind 1 = false := kinds 4 kk 1 (by decide)
            have q2 : iEq x.kind 2 = false := kinds 4 kk 2 (by decide)
            have q3 : iEq x.kind 3 = false := kinds 4 kk 3 (by decide)
            have q4 : iEq x.kind 4 = true := kk
            have q5 : iEq x.kind 5 = false := kinds 4 kk 5 (by decide)
            have q6 : iEq x.kind 6 = false := kinds 4 kk 6 (by decide)
            have q7 : iEq x.kind 7 = false := kinds 4 kk 7 (by decide)
            have q8 : iEq x.kind 8 = false := kinds 4 kk 8 (by decide)
            have q9 : iEq x.kind 9 = false := kinds 4 kk 9 (by decide)
            have q10 : iEq x.kind 10 = false := kinds 4 kk 10 (by decide)
            rw [q6, q9, q7, q10, q8] at hov
            refine ⟨fun h => Bool.noConfusion (q6.symm.trans h), fun _ => ?_⟩
            conv => whnf
            refine ⟨fun h => Bool.noConfusion (q9.symm.trans h), fun _ => ?_⟩
            conv => whnf
            refine ⟨fun h => Bool.noConfusion (q7.symm.trans h), fun _ => ?_⟩
            conv => whnf
            refine ⟨fun h => Bool.noConfusion (q10.symm.trans h), fun _ => ?_⟩
            conv => whnf
            refine ⟨fun h => Bool.noConfusion (q8.symm.trans h), fun _ => ?_⟩
            conv => whnf
            exact ⟨[], _, _, _, rfl, rfl, rfl, over_ret (hov) (PLe.refl _) (PLe.bool _), trivial⟩
          · have kk : iEq x.kind 5 = true := iEq_t.2 k
            have q1 : iEq x.kind 1 = false := kinds 5 kk 1 (by decide)
            have q2 : iEq x.kind 2 = false := kinds 5 kk 2 (by decide)
            have q3 : iEq x.kind 3 = false := kinds 5 kk 3 (by decide)
            have q4 : iEq x.kind 4 = false := kinds 5 kk 4 (by decide)
            have q5 : iEq x.kind 5 = true := kk
            have q6 : iEq x.kind 6 = false := kinds 5 kk 6 (by decide)
            have q7 : iEq x.kind 7 = false := kinds 5 kk 7 (by decide)
            have q8 : iEq x.kind 8 = false := kinds 5 kk 8 (by decide)
            have q9 : iEq x.kind 9 = false := kinds 5 kk 9 (by decide)
            have q10 : iEq x.kind 10 = false := kinds 5 kk 10 (by decide)
            rw [q6, q9, q7, q10, q8] at hov
            refine ⟨fun h => Bool.noConfusion (q6.symm.trans h), fun _ => ?_⟩
            conv => whnf
            refine ⟨fun h => Bool.noConfusion (q9.symm.trans h), fun _ => ?_⟩
            conv => whnf
            refine ⟨fun h => Bool.noConfusion (q7.symm.trans h), fun _ => ?_⟩
            conv => whnf
            refine ⟨fun h => Bool.noConfusion (q10.symm.trans h), fun _ => ?_⟩
            conv => whnf
            refine ⟨fun h => Bool.noConfusion (q8.symm.trans h), fun _ => ?_⟩
            conv => whnf
            exact ⟨[], _, _, _, rfl, rfl, rfl, over_ret (hov) (PLe.refl _) (PLe.bool _), trivial⟩
          · have kk : iEq x.kind 6 = true := iEq_t.2 k
            have q1 : iEq x.kind 1 = false := kinds 6 kk 1 (by decide)
            have q2 : iEq x.kind 2 = false := kinds 6 kk 2 (by decide)
            have q3 : iEq x.kind 3 = false := kinds 6 kk 3 (by decide)
            have q4 : iEq x.kind 4 = false := kinds 6 kk 4 (by decide)
            have q5 : iEq x.kind 5 = false := kinds 6 kk 5 (by decide)
            have q6 : iEq x.kind 6 = true := kk
            have q7 : iEq x.kind 7 = false := kinds 6 kk 7 (by decide)
            have q8 : iEq x.kind 8 = false := kinds 6 kk 8 (by decide)
            have q9 : iEq x.kind 9 = false := kinds 6 kk 9 (by decide)
            have q10 : iEq x.kind 10 = false := kinds 6 kk 10 (by decide)
            rw [q6, q9, q7, q10, q8] at hov
            refine ⟨fun _ => ?_, fun h => Bool.noConfusion (q6.symm.trans h)⟩
            conv => whnf
            refine ⟨fun _ => ?_, fun h => Bool.noConfusion (q6.symm.trans h)⟩
            conv => whnf
            refine ⟨fun e1 => ?_, fun e1 => ?_⟩
            · conv => whnf
              exact ⟨(), hov, stle ⟨RepLe.refl _, trivial⟩ ⟨⟨_, rfl, BlkLe.anys rfl⟩, trivial⟩ rfl⟩
            · rw [k3] at e1; cases e1
          · have kk : iEq x.kind 7 = true := iEq_t.2 k
            have q1 : iEq x.kind 1 = false := kinds 7 kk 1 (by decide)
            have q2 : iEq x.kind 2 = false := kinds 7 kk 2 (by decide)
            have q3 : iEq x.kind 3 = false := kinds 7 kk 3 (by decide)
            have q4 : iEq x.kind 4 = false := kinds 7 kk 4 (by decide)
            have q5 : iEq x.kind 5 = false := kinds 7 kk 5 (by decide)
            have q6 : iEq x.kind 6 = false := kinds 7 kk 6 (by decide)
            have q7 : iEq x.kind 7 = true := kk
            have q8 : iEq x.kind 8 = false := kinds 7 kk 8 (by decide)
            have q9 : iEq x.kind 9 = false := kinds 7 kk 9 (by decide)
            have q10 : iEq x.kind 10 = false := kinds 7 kk 10 (by decide)
            rw [q6, q9, q7, q10, q8] at hov
            refine ⟨fun h => Bool.noConfusion (q6.symm.trans h), fun _ => ?_⟩
            conv => whnf
            refine ⟨fun h => Bool.noConfusion (q9.symm.trans h), fun _ => ?_⟩
            conv => whnf
            refine ⟨fun _ => ?_, fun h => Bool.noConfusion (q7.symm.trans h)⟩
            conv => whnf
            refine ⟨fun _ => ?_, fun h => Bool.noConfusion (q7.symm.trans h)⟩
            conv => whnf
            refine ⟨fun e1 => ?_, fun e1 => ?_⟩
            · rw [k4] at e1; cases e1
            clear e1
            conv => whnf
            refine ⟨fun h => Bool.noConfusion (q8.symm.trans h), fun _ => ?_⟩
            conv => whnf
            exact ⟨[], _, _, _, rfl, rfl, rfl, over_ret (hov) (PLe.refl _) (PLe.bool _), trivial⟩
          · have kk : iEq x.kind 8 = true := iEq_t.2 k
            have q1 : iEq x.kind 1 = false := kinds 8 kk 1 (by decide)
            have q2 : iEq x.kind 2 = false := kinds 8 kk 2 (by decide)
            have q3 : iEq x.kind 3 = false := kinds 8 kk 3 (by decide)
            have q4 : iEq x.kind 4 = false := kinds 8 kk 4 (by decide)
            have q5 : iEq x.kind 5 = false := kinds 8 kk 5 (by decide)
            have q6 : iEq x.kind 6 = false := kinds 8 kk 6 (by decide)
            have q7 : iEq x.kind 7 = false := kinds 8 kk 7 (by decide)
            have q8 : iEq x.kind 8 = true := kk
            have q9 : iEq x.kind 9 = false := kinds 8 kk 9 (by decide)
            have q10 : iEq x.kind 10 = false := kinds 8 kk 10 (by decide)
            rw [q6, q9, q7, q10, q8] at hov
            refine ⟨fun h => Bool.noConfusion (q6.symm.trans h), fun _ => ?_⟩
            conv => whnf
            refine ⟨fun h => Bool.noConfusion (q9.symm.trans h), fun _ => ?_⟩
            conv => whnf
            refine ⟨fun h => Bool.noConfusion (q7.symm.trans h), fun _ => ?_⟩
            conv => whnf
            refine ⟨fun h => Bool.noConfusion (q10.symm.trans h), fun _ => ?_⟩
            conv => whnf
            refine ⟨fun _ => ?_, fun h => Bool.noConfusion (q8.symm.trans h)⟩
            conv => whnf
            refine ⟨fun e1 => ?_, fun e1 => ?_⟩
            · rw [k4] at e1; cases e1
            clear e1
            conv => whnf
            refine ⟨fun _ => ?_, fun h => Bool.noConfusion (q8.symm.trans h)⟩
            conv => whnf
            refine ⟨fun t1 => ?_, fun t1 => ?_⟩
            · rw [show (true && o.has) = true by rw [t1]; rfl] at hov
              conv => whnf
              refine CallK.go [] (f54 x.forth o.text (Nat.le_trans hx.2.1 (by decide))) rfl rfl rfl rfl rfl ?_
              conv => whnf
              refine ⟨fun u1 => ?_, fun u1 => ?_⟩
              · have u1 : (caseOf x.forth o.text).2 = false := nott u1
                rw [u1] at hov
                conv => whnf
                exact ⟨(), hov, stle ⟨RepLe.refl _, trivial⟩ ⟨⟨_, rfl, BlkLe.anys rfl⟩, trivial⟩ rfl⟩
              have u1 : (caseOf x.forth o.text).2 = true := notf u1
              rw [u1] at hov
              conv => whnf
              exact ⟨[], _, _, _, rfl, rfl, rfl, over_ret (hov) (PLe.refl _) (PLe.bool _), trivial⟩
            rw [show (true && o.has) = false by rw [t1]; rfl] at hov
            conv => whnf
            exact ⟨[], _, _, _, rfl, rfl, rfl, over_ret (hov) (PLe.refl _) (PLe.bool _), trivial⟩
          · have kk : iEq x.kind 9 = true := iEq_t.2 k
            have q1 : iEq x.kind 1 = false := kinds 9 kk 1 (by decide)
            have q2 : iEq x.kind 2 = false := kinds 9 kk 2 (by decide)
            have q3 : iEq x.kind 3 = false := kinds 9 kk 3 (by decide)
            have q4 : iEq x.kind 4 = false := kinds 9 kk 4 (by decide)
            have q5 : iEq x.kind 5 = false := kinds 9 kk 5 (by decide)
            have q6 : iEq x.kind 6 = false := kinds 9 kk 6 (by decide)
            have q7 : iEq x.kind 7 = false := kinds 9 kk 7 (by decide)
            have q8 : iEq x.kind 8 = false := kinds 9 kk 8 (by decide)
            have q9 : iEq x.kind 9 = true := kk
            have q10 : iEq x.kind 10 = false := kinds 9 kk 10 (by decide)
            rw [q6, q9, q7, q10, q8] at hov
            refine ⟨fun h => Bool.noConfusion (q6.symm.trans h), fun _ => ?_⟩
            conv => whnf
            refine ⟨fun _ => ?_, fun h => Bool.noConfusion (q9.symm.trans h)⟩
            conv => whnf
            refine ⟨fun e1 => ?_, fun e1 => ?_⟩
            · conv => whnf
              exact ⟨(), hov, stle ⟨RepLe.refl _, trivial⟩ ⟨⟨_, rfl, BlkLe.anys rfl⟩, trivial⟩ rfl⟩
            · rw [k3] at e1; cases e1
          · have kk : iEq x.kind 10 = true := iEq_t.2 k
            have q1 : iEq x.kind 1 = false := kinds 10 kk 1 (by decide)
            have q2 : iEq x.kind 2 = false := kinds 10 kk 2 (by decide)
            have q3 : iEq x.kind 3 = false := kinds 10 kk 3 (by decide)
            have q4 : iEq x.kind 4 = false := kinds 10 kk 4 (by decide)
            have q5 : iEq x.kind 5 = false := kinds 10 kk 5 (by decide)
            have q6 : iEq x.kind 6 = false := kinds 10 kk 6 (by decide)
            have q7 : iEq x.kind 7 = false := kinds 10 kk 7 (by decide)
            have q8 : iEq x.kind 8 = false := kinds 10 kk 8 (by decide)
            have q9 : iEq x.kind 9 = false := kinds 10 kk 9 (by decide)
            have q10 : iEq x.kind 10 = true := kk
            rw [q6, q9, q7, q10, q8] at hov
            refine ⟨fun h => Bool.noConfusion (q6.symm.trans h), fun _ => ?_⟩
            conv => whnf
            refine ⟨fun h => Bool.noConfusion (q9.symm.trans h), fun _ => ?_⟩
            conv => whnf
            refine ⟨fun h => Bool.noConfusion (q7.symm.trans h), fun _ => ?_⟩
            conv => whnf
            refine ⟨fun _ => ?_, fun h => Bool.noConfusion (q10.symm.trans h)⟩
            conv => whnf
            refine ⟨fun _ => ?_, fun h => Bool.noConfusion (q10.symm.trans h)⟩
            conv => whnf
            refine ⟨fun e1 => ?_, fun e1 => ?_⟩
            · rw [k4] at e1; cases e1
            clear e1
            conv => whnf
            refine ⟨fun h => Bool.noConfusion (q8.symm.trans h), fun _ => ?_⟩
            conv => whnf
            exact ⟨[], _, _, _, rfl, rfl, rfl, over_ret (hov) (PLe.refl _) (PLe.bool _), trivial⟩
    have k3 : iEq o.kind 3 = true := notf k3
    have k4 : iEq o.kind 4 = false := kinds 3 k3 4 (by decide)
    have hk : (!iEq o.kind 3 && !iEq o.kind 4) = false := by rw [k3, k4]; rfl
    conv => whnf
    refine ⟨fun m1 => ?_, fun m1 => ?_⟩
    · have m1 : (traceF x o.place).2 = false := nott m1
      conv => whnf
      exact ⟨(), by unfold overF; rw [h1, hk, m1]; rfl, stle ⟨RepLe.refl _, trivial⟩ ⟨⟨_, rfl, BlkLe.anys rfl⟩, trivial⟩ rfl⟩
    have m1 : (traceF x o.place).2 = true := notf m1
    have c331 := f331 (goesOf x) o.place hgl
    conv => whnf
    refine CallK.go [] (f330 o ho) rfl rfl rfl rfl rfl ?_
    conv => whnf
    refine CallK.go [] (f51 x hx.ok) rfl rfl rfl rfl rfl ?_
    conv => whnf
    cases q : idxRef (goesOf x) o.place with
    | none =>
      rw [q] at c331
      refine CallK.lent (c331) rfl ?_
      conv => whnf
      refine ⟨rfl, ?_⟩
      conv => whnf
      refine ⟨fun r1 => ?_, fun r1 => ?_⟩
      · conv => whnf
        exact ⟨[], _, _, _, rfl, rfl, rfl, over_ret (by unfold overF; rw [h1, hk, m1, q]; rfl) (PLe.refl _) (PLe.bool _), trivial⟩
      · exact absurd (iLt_f.1 r1) (show ¬ (0 : Int) ≤ -1 by decide)
    | some i =>
      have hov := over_some h1 hk m1 q
      rw [q] at c331
      refine CallK.lent (c331) rfl ?_
      conv => whnf
      refine ⟨rfl, ?_⟩
      conv => whnf
      refine ⟨fun r1 => ?_, fun r1 => ?_⟩
      · exact absurd (iLt_t.1 r1) (show ¬ ((i : Nat) : Int) < 0 by omega)
      clear r1
      conv => whnf
      refine ⟨fun s1 => ?_, fun s1 => ?_⟩
      · have s1 : iEq (i : Int) 1 = true := s1
        rw [s1, k3, k4] at hov
        conv => whnf
        rcases kind_range h1 with k | k | k | k | k | k | k | k | k | k
        · have kk : iEq x.kind 1 = true := iEq_t.2 k
          have q1 : iEq x.kind 1 = true := kk
          have q2 : iEq x.kind 2 = false := kinds 1 kk 2 (by decide)
          have q3 : iEq x.kind 3 = false := kinds 1 kk 3 (by decide)
          have q4 : iEq x.kind 4 = false := kinds 1 kk 4 (by decide)
          have q5 : iEq x.kind 5 = false := kinds 1 kk 5 (by decide)
          have q6 : iEq x.kind 6 = false := kinds 1 kk 6 (by decide)
          have q7 : iEq x.kind 7 = false := kinds 1 kk 7 (by decide)
          have q8 : iEq x.kind 8 = false := kinds 1 kk 8 (by decide)
          have q9 : iEq x.kind 9 = false := kinds 1 kk 9 (by decide)
          have q10 : iEq x.kind 10 = false := kinds 1 kk 10 (by decide)
          rw [q6, q9, q7, q10, q8] at hov
          refine ⟨fun h => Bool.noConfusion (q6.symm.trans h), fun _ => ?_⟩
          conv => whnf
          refine ⟨fun h => Bool.noConfusion (q9.symm.trans h), fun _ => ?_⟩
          conv => whnf
          refine ⟨fun h => Bool.noConfusion (q7.symm.trans h), fun _ => ?_⟩
          conv => whnf
          refine ⟨fun h => Bool.noConfusion (q10.symm.trans h), fun _ => ?_⟩
          conv => whnf
          refine ⟨fun h => Bool.noConfusion (q8.symm.trans h), fun _ => ?_⟩
          conv => whnf
          exact ⟨[], _, _, _, rfl, rfl, rfl, over_ret (hov) (PLe.refl _) (PLe.bool _), trivial⟩
        · have kk : iEq x.kind 2 = true := iEq_t.2 k
          have q1 : iEq x.kind 1 = false := kinds 2 kk 1 (by decide)
          have q2 : iEq x.kind 2 = true := kk
          have q3 : iEq x.kind 3 = false := kinds 2 kk 3 (by decide)
          have q4 : iEq x.kind 4 = false := kinds 2 kk 4 (by decide)
          have q5 : iEq x.kind 5 = false := kinds 2 kk 5 (by decide)
          have q6 : iEq x.kind 6 = false := kinds 2 kk 6 (by decide)
          have q7 : iEq x.kind 7 = false := kinds 2 kk 7 (by decide)
          have q8 : iEq x.kind 8 = false := kinds 2 kk 8 (by decide)
          have q9 : iEq x.kind 9 = false := kinds 2 kk 9 (by decide)
          have q10 : iEq x.kind 10 = false := kinds 2 kk 10 (by decide)
          have : goesOf x = [] := by unfold goesOf; rw [h1, q2]; rfl
          rw [this] at q; cases q
        · have kk : iEq x.kind 3 = true := iEq_t.2 k
          have q1 : iEq x.kind 1 = false := kinds 3 kk 1 (by decide)
          have q2 : iEq x.kind 2 = false := kinds 3 kk 2 (by decide)
          have q3 : iEq x.kind 3 = true := kk
          have q4 : iEq x.kind 4 = false := kinds 3 kk 4 (by decide)
          have q5 : iEq x.kind 5 = false := kinds 3 kk 5 (by decide)
          have q6 : iEq x.kind 6 = false := kinds 3 kk 6 (by decide)
          have q7 : iEq x.kind 7 = false := kinds 3 kk 7 (by decide)
          have q8 : iEq x.kind 8 = false := kinds 3 kk 8 (by decide)
          have q9 : iEq x.kind 9 = false := kinds 3 kk 9 (by decide)
          have q10 : iEq x.kind 10 = false := kinds 3 kk 10 (by decide)
          have : (traceF x o.place).2 = false := by unfold traceF; rw [h1, q, comes_nil q3]; show (if iEq ((([] : List SRef).length : Nat) : Int) 0 = true then (noRef, false) else _).2 = false; rw [show iEq ((([] : List SRef).length : Nat) : Int) 0 = true from iEq_same 0]; rfl
          rw [m1] at this; cases this
        · have kk : iEq x.kind 4 = true := iEq_t.2 k
          have q1 : iEq x.kind 1 = false := kinds 4 kk 1 (by decide)
          have q2 : iEq x.kind 2 = false := kinds 4 kk 2 (by decide)
          have q3 : iEq x.kind 3 = false := kinds 4 kk 3 (by decide)
          have q4 : iEq x.kind 4 = true := kk
          have q5 : iEq x.kind 5 = false := kinds 4 kk 5 (by decide)
          have q6 : iEq x.kind 6 = false := kinds 4 kk 6 (by decide)
          have q7 : iEq x.kind 7 = false := kinds 4 kk 7 (by decide)
          have q8 : iEq x.kind 8 = false := kinds 4 kk 8 (by decide)
          have q9 : iEq x.kind 9 = false := kinds 4 kk 9 (by decide)
          have q10 : iEq x.kind 10 = false := kinds 4 kk 10 (by decide)
          rw [q6, q9, q7, q10, q8] at hov
          refine ⟨fun h => Bool.noConfusion (q6.symm.trans h), fun _ => ?_⟩
          conv => whnf
          refine ⟨fun h => Bool.noConfusion (q9.symm.trans h), fun _ => ?_⟩
          conv => whnf
          refine ⟨fun h => Bool.noConfusion (q7.symm.trans h), fun _ => ?_⟩
          conv => whnf
          refine ⟨fun h => Bool.noConfusion (q10.symm.trans h), fun _ => ?_⟩
          conv => whnf
          refine ⟨fun h => Bool.noConfusion (q8.symm.trans h), fun _ => ?_⟩
          conv => whnf
          exact ⟨[], _, _, _, rfl, rfl, rfl, over_ret (hov) (PLe.refl _) (PLe.bool _), trivial⟩
        · have kk : iEq x.kind 5 = true := iEq_t.2 k
          have q1 : iEq x.kind 1 = false := kinds 5 kk 1 (by decide)
          have q2 : iEq x.kind 2 = false := kinds 5 kk 2 (by decide)
          have q3 : iEq x.kind 3 = false := kinds 5 kk 3 (by decide)
          have q4 : iEq x.kind 4 = false := kinds 5 kk 4 (by decide)
          have q5 : iEq x.kind 5 = true := kk
          have q6 : iEq x.kind 6 = false := kinds 5 kk 6 (by decide)
          have q7 : iEq x.kind 7 = false := kinds 5 kk 7 (by decide)
          have q8 : iEq x.kind 8 = false := kinds 5 kk 8 (by decide)
          have q9 : iEq x.kind 9 = false := kinds 5 kk 9 (by decide)
          have q10 : iEq x.kind 10 = false := kinds 5 kk 10 (by decide)
          rw [q6, q9, q7, q10, q8] at hov
          refine ⟨fun h => Bool.noConfusion (q6.symm.trans h), fun _ => ?_⟩
          conv => whnf
          refine ⟨fun h => Bool.noConfusion (q9.symm.trans h), fun _ => ?_⟩
          conv => whnf
          refine ⟨fun h => Bool.noConfusion (q7.symm.trans h), fun _ => ?_⟩
          conv => whnf
          refine ⟨fun h => Bool.noConfusion (q10.symm.trans h), fun _ => ?_⟩
          conv => whnf
          refine ⟨fun h => Bool.noConfusion (q8.symm.trans h), fun _ => ?_⟩
          conv => whnf
          exact ⟨[], _, _, _, rfl, rfl, rfl, over_ret (hov) (PLe.refl _) (PLe.bool _), trivial⟩
        · have kk : iEq x.kind 6 = true := iEq_t.2 k
          have q1 : iEq x.kind 1 = false := kinds 6 kk 1 (by decide)
          have q2 : iEq x.kind 2 = false := kinds 6 kk 2 (by decide)
          have q3 : iEq x.kind 3 = false := kinds 6 kk 3 (by decide)
          have q4 : iEq x.kind 4 = false := kinds 6 kk 4 (by decide)
          have q5 : iEq x.kind 5 = false := kinds 6 kk 5 (by decide)
          have q6 : iEq x.kind 6 = true := kk
          have q7 : iEq x.kind 7 = false := kinds 6 kk 7 (by decide)
          have q8 : iEq x.kind 8 = false := kinds 6 kk 8 (by decide)
          have q9 : iEq x.kind 9 = false := kinds 6 kk 9 (by decide)
          have q10 : iEq x.kind 10 = false := kinds 6 kk 10 (by decide)
          rw [q6, q9, q7, q10, q8] at hov
          refine ⟨fun _ => ?_, fun h => Bool.noConfusion (q6.symm.trans h)⟩
          conv => whnf
          refine ⟨fun _ => ?_, fun h => Bool.noConfusion (q6.symm.trans h)⟩
          conv => whnf
          refine ⟨fun e1 => ?_, fun e1 => ?_⟩
          · rw [k3] at e1; cases e1
          clear e1
          conv => whnf
          obtain ⟨ff1, ff2⟩ := factor_facts h1 (.inl q6)
          have hw1 : whole o.delta := by unfold whole; omega
          have hw2 : whole (o.delta * x.factor) := by unfold whole; rw [Int.natAbs_mul]; exact Nat.le_trans (Nat.mul_le_mul hd (show x.factor.natAbs ≤ 1000 by omega)) (by decide)
          refine CallK.go [] (f332 (n := o.delta) (f := x.factor) hw1 ff1 ff2 hw2) rfl rfl rfl rfl rfl ?_
          conv => whnf
          refine ⟨fun e1 => ?_, fun e1 => ?_⟩
          · cases e1
          clear e1
          conv => whnf
          exact ⟨[], _, _, _, rfl, rfl, rfl, over_ret (hov) (PLe.refl _) (PLe.bool _), trivial⟩
        · have kk : iEq x.kind 7 = true := iEq_t.2 k
          have q1 : iEq x.kind 1 = false := kinds 7 kk 1 (by decide)
          have q2 : iEq x.kind 2 = false := kinds 7 kk 2 (by decide)
          have q3 : iEq x.kind 3 = false := kinds 7 kk 3 (by decide)
          have q4 : iEq x.kind 4 = false := kinds 7 kk 4 (by decide)
          have q5 : iEq x.kind 5 = false := kinds 7 kk 5 (by decide)
          have q6 : iEq x.kind 6 = false := kinds 7 kk 6 (by decide)
          have q7 : iEq x.kind 7 = true := kk
          have q8 : iEq x.kind 8 = false := kinds 7 kk 8 (by decide)
          have q9 : iEq x.kind 9 = false := kinds 7 kk 9 (by decide)
          have q10 : iEq x.kind 10 = false := kinds 7 kk 10 (by decide)
          rw [q6, q9, q7, q10, q8] at hov
          refine ⟨fun h => Bool.noConfusion (q6.symm.trans h), fun _ => ?_⟩
          conv => whnf
          refine ⟨fun h => Bool.noConfusion (q9.symm.trans h), fun _ => ?_⟩
          conv => whnf
          refine ⟨fun _ => ?_, fun h => Bool.noConfusion (q7.symm.trans h)⟩
          conv => whnf
          refine ⟨fun _ => ?_, fun h => Bool.noConfusion (q7.symm.trans h)⟩
          conv => whnf
          refine ⟨fun e1 => ?_, fun e1 => ?_⟩
          · conv => whnf
            exact ⟨(), hov, stle ⟨RepLe.refl _, trivial⟩ ⟨⟨_, rfl, BlkLe.anys rfl⟩, trivial⟩ rfl⟩
          · rw [k4] at e1; cases e1
        · have kk : iEq x.kind 8 = true := iEq_t.2 k
          have q1 : iEq x.kind 1 = false := kinds 8 kk 1 (by decide)
          have q2 : iEq x.kind 2 = false := kinds 8 kk 2 (by decide)
          have q3 : iEq x.kind 3 = false := kinds 8 kk 3 (by decide)
          have q4 : iEq x.kind 4 = false := kinds 8 kk 4 (by decide)
          have q5 : iEq x.kind 5 = false := kinds 8 kk 5 (by decide)
          have q6 : iEq x.kind 6 = false := kinds 8 kk 6 (by decide)
          have q7 : iEq x.kind 7 = false := kinds 8 kk 7 (by decide)
          have q8 : iEq x.kind 8 = true := kk
          have q9 : iEq x.kind 9 = false := kinds 8 kk 9 (by decide)
          have q10 : iEq x.kind 10 = false := kinds 8 kk 10 (by decide)
          rw [q6, q9, q7, q10, q8] at hov
          refine ⟨fun h => Bool.noConfusion (q6.symm.trans h), fun _ => ?_⟩
          conv => whnf
          refine ⟨fun h => Bool.noConfusion (q9.symm.trans h), fun _ => ?_⟩
          conv => whnf
          refine ⟨fun h => Bool.noConfusion (q7.symm.trans h), fun _ => ?_⟩
          conv => whnf
          refine ⟨fun h => Bool.noConfusion (q10.symm.trans h), fun _ => ?_⟩
          conv => whnf
          refine ⟨fun _ => ?_, fun h => Bool.noConfusion (q8.symm.trans h)⟩
          conv => whnf
          refine ⟨fun e1 => ?_, fun e1 => ?_⟩
          · conv => whnf
            exact ⟨(), hov, stle ⟨RepLe.refl _, trivial⟩ ⟨⟨_, rfl, BlkLe.anys rfl⟩, trivial⟩ rfl⟩
          · rw [k4] at e1; cases e1
        · have kk : iEq x.kind 9 = true := iEq_t.2 k
          have q1 : iEq x.kind 1 = false := kinds 9 kk 1 (by decide)
          have q2 : iEq x.kind 2 = false := kinds 9 kk 2 (by decide)
          have q3 : iEq x.kind 3 = false := kinds 9 kk 3 (by decide)
          have q4 : iEq x.kind 4 = false := kinds 9 kk 4 (by decide)
          have q5 : iEq x.kind 5 = false := kinds 9 kk 5 (by decide)
          have q6 : iEq x.kind 6 = false := kinds 9 kk 6 (by decide)
          have q7 : iEq x.kind 7 = false := kinds 9 kk 7 (by decide)
          have q8 : iEq x.kind 8 = false := kinds 9 kk 8 (by decide)
          have q9 : iEq x.kind 9 = true := kk
          have q10 : iEq x.kind 10 = false := kinds 9 kk 10 (by decide)
          rw [q6, q9, q7, q10, q8] at hov
          refine ⟨fun h => Bool.noConfusion (q6.symm.trans h), fun _ => ?_⟩
          conv => whnf
          refine ⟨fun _ => ?_, fun h => Bool.noConfusion (q9.symm.trans h)⟩
          conv => whnf
          refine ⟨fun e1 => ?_, fun e1 => ?_⟩
          · rw [k3] at e1; cases e1
          clear e1
          conv => whnf
          obtain ⟨ff1, ff2⟩ := factor_facts h1 (.inr q9)
          have hw1 : whole o.delta := by unfold whole; omega
          have hw2 : whole (o.delta * x.factor) := by unfold whole; rw [Int.natAbs_mul]; exact Nat.le_trans (Nat.mul_le_mul hd (show x.factor.natAbs ≤ 1000 by omega)) (by decide)
          refine CallK.go [] (f332 (n := o.delta) (f := x.factor) hw1 ff1 ff2 hw2) rfl rfl rfl rfl rfl ?_
          conv => whnf
          refine ⟨fun e1 => ?_, fun e1 => ?_⟩
          · cases e1
          clear e1
          conv => whnf
          exact ⟨[], _, _, _, rfl, rfl, rfl, over_ret (hov) (PLe.refl _) (PLe.bool _), trivial⟩
        · have kk : iEq x.kind 10 = true := iEq_t.2 k
          have q1 : iEq x.kind 1 = false := kinds 10 kk 1 (by decide)
          have q2 : iEq x.kind 2 = false := kinds 10 kk 2 (by decide)
          have q3 : iEq x.kind 3 = false := kinds 10 kk 3 (by decide)
          have q4 : iEq x.kind 4 = false := kinds 10 kk 4 (by decide)
          have q5 : iEq x.kind 5 = false := kinds 10 kk 5 (by decide)
          have q6 : iEq x.kind 6 = false := kinds 10 kk 6 (by decide)
          have q7 : iEq x.kind 7 = false := kinds 10 kk 7 (by decide)
          have q8 : iEq x.kind 8 = false := kinds 10 kk 8 (by decide)
          have q9 : iEq x.kind 9 = false := kinds 10 kk 9 (by decide)
          have q10 : iEq x.kind 10 = true := kk
          rw [q6, q9, q7, q10, q8] at hov
          refine ⟨fun h => Bool.noConfusion (q6.symm.trans h), fun _ => ?_⟩
          conv => whnf
          refine ⟨fun h => Bool.noConfusion (q9.symm.trans h), fun _ => ?_⟩
          conv => whnf
          refine ⟨fun h => Bool.noConfusion (q7.symm.trans h), fun _ => ?_⟩
          conv => whnf
          refine ⟨fun _ => ?_, fun h => Bool.noConfusion (q10.symm.trans h)⟩
          conv => whnf
          refine ⟨fun _ => ?_, fun h => Bool.noConfusion (q10.symm.trans h)⟩
          conv => whnf
          refine ⟨fun e1 => ?_, fun e1 => ?_⟩
          · conv => whnf
            exact ⟨(), hov, stle ⟨RepLe.refl _, trivial⟩ ⟨⟨_, rfl, BlkLe.anys rfl⟩, trivial⟩ rfl⟩
          · rw [k4] at e1; cases e1
      · have s1 : iEq (i : Int) 1 = false := s1
        rw [s1, k3, k4] at hov
        conv => whnf
        rcases kind_range h1 with k | k | k | k | k | k | k | k | k | k
        · have kk : iEq x.kind 1 = true := iEq_t.2 k
          have q1 : iEq x.kind 1 = true := kk
          have q2 : iEq x.kind 2 = false := kinds 1 kk 2 (by decide)
          have q3 : iEq x.kind 3 = false := kinds 1 kk 3 (by decide)
          have q4 : iEq x.kind 4 = false := kinds 1 kk 4 (by decide)
          have q5 : iEq x.kind 5 = false := kinds 1 kk 5 (by decide)
          have q6 : iEq x.kind 6 = false := kinds 1 kk 6 (by decide)
          have q7 : iEq x.kind 7 = false := kinds 1 kk 7 (by decide)
          have q8 : iEq x.kind 8 = false := kinds 1 kk 8 (by decide)
          have q9 : iEq x.kind 9 = false := kinds 1 kk 9 (by decide)
          have q10 : iEq x.kind 10 = false := kinds 1 kk 10 (by decide)
          rw [q6, q9, q7, q10, q8] at hov
          refine ⟨fun h => Bool.noConfusion (q6.symm.trans h), fun _ => ?_⟩
          conv => whnf
          refine ⟨fun h => Bool.noConfusion (q9.symm.trans h), fun _ => ?_⟩
          conv => whnf
          refine ⟨fun h => Bool.noConfusion (q7.symm.trans h), fun _ => ?_⟩
          conv => whnf
          refine ⟨fun h => Bool.noConfusion (q10.symm.trans h), fun _ => ?_⟩
          conv => whnf
          refine ⟨fun h => Bool.noConfusion (q8.symm.trans h), fun _ => ?_⟩
          conv => whnf
          exact ⟨[], _, _, _, rfl, rfl, rfl, over_ret (hov) (PLe.refl _) (PLe.bool _), trivial⟩
        · have kk : iEq x.kind 2 = true := iEq_t.2 k
          have q1 : iEq x.kind 1 = false := kinds 2 kk 1 (by decide)
          have q2 : iEq x.kind 2 = true := kk
          have q3 : iEq x.kind 3 = false := kinds 2 kk 3 (by decide)
          have q4 : iEq x.kind 4 = false := kinds 2 kk 4 (by decide)
          have q5 : iEq x.kind 5 = false := kinds 2 kk 5 (by decide)
          have q6 : iEq x.kind 6 = false := kinds 2 kk 6 (by decide)
          have q7 : iEq x.kind 7 = false := kinds 2 kk 7 (by decide)
          have q8 : iEq x.kind 8 = false := kinds 2 kk 8 (by decide)
          have q9 : iEq x.kind 9 = false := kinds 2 kk 9 (by decide)
          have q10 : iEq x.kind 10 = false := kinds 2 kk 10 (by decide)
          have : goesOf x = [] := by unfold goesOf; rw [h1, q2]; rfl
          rw [this] at q; cases q
        · have kk : iEq x.kind 3 = true := iEq_t.2 k
          have q1 : iEq x.kind 1 = false := kinds 3 kk 1 (by decide)
          have q2 : iEq x.kind 2 = false := kinds 3 kk 2 (by decide)
          have q3 : iEq x.kind 3 = true := kk
          have q4 : iEq x.kind 4 = false := kinds 3 kk 4 (by decide)
          have q5 : iEq x.kind 5 = false := kinds 3 kk 5 (by decide)
          have q6 : iEq x.kind 6 = false := kinds 3 kk 6 (by decide)
          have q7 : iEq x.kind 7 = false := kinds 3 kk 7 (by decide)
          have q8 : iEq x.kind 8 = false := kinds 3 kk 8 (by decide)
          have q9 : iEq x.kind 9 = false := kinds 3 kk 9 (by decide)
          have q10 : iEq x.kind 10 = false := kinds 3 kk 10 (by decide)
          have : (traceF x o.place).2 = false := by unfold traceF; rw [h1, q, comes_nil q3]; show (if iEq ((([] : List SRef).length : Nat) : Int) 0 = true then (noRef, false) else _).2 = false; rw [show iEq ((([] : List SRef).length : Nat) : Int) 0 = true from iEq_same 0]; rfl
          rw [m1] at this; cases this
        · have kk : iEq x.kind 4 = true := iEq_t.2 k
          have q1 : iEq x.kind 1 = false := kinds 4 kk 1 (by decide)
          have q2 : iEq x.kind 2 = false := kinds 4 kk 2 (by decide)
          have q3 : iEq x.kind 3 = false := kinds 4 kk 3 (by decide)
          have q4 : iEq x.kind 4 = true := kk
          have q5 : iEq x.kind 5 = false := kinds 4 kk 5 (by decide)
          have q6 : iEq x.kind 6 = false := kinds 4 kk 6 (by decide)
          have q7 : iEq x.kind 7 = false := kinds 4 kk 7 (by decide)
          have q8 : iEq x.kind 8 = false := kinds 4 kk 8 (by decide)
          have q9 : iEq x.kind 9 = false := kinds 4 kk 9 (by decide)
          have q10 : iEq x.kind 10 = false := kinds 4 kk 10 (by decide)
          rw [q6, q9, q7, q10, q8] at hov
          refine ⟨fun h => Bool.noConfusion (q6.symm.trans h), fun _ => ?_⟩
          conv => whnf
          refine ⟨fun h => Bool.noConfusion (q9.symm.trans h), fun _ => ?_⟩
          conv => whnf
          refine ⟨fun h => Bool.noConfusion (q7.symm.trans h), fun _ => ?_⟩
          conv => whnf
          refine ⟨fun h => Bool.noConfusion (q10.symm.trans h), fun _ => ?_⟩
          conv => whnf
          refine ⟨fun h => Bool.noConfusion (q8.symm.trans h), fun _ => ?_⟩
          conv => whnf
          exact ⟨[], _, _, _, rfl, rfl, rfl, over_ret (hov) (PLe.refl _) (PLe.bool _), trivial⟩
        · have kk : iEq x.kind 5 = true := iEq_t.2 k
          have q1 : iEq x.kind 1 = false := kinds 5 kk 1 (by decide)
          have q2 : iEq x.kind 2 = false := kinds 5 kk 2 (by decide)
          have q3 : iEq x.kind 3 = false := kinds 5 kk 3 (by decide)
          have q4 : iEq x.kind 4 = false := kinds 5 kk 4 (by decide)
          have q5 : iEq x.kind 5 = true := kk
          have q6 : iEq x.kind 6 = false := kinds 5 kk 6 (by decide)
          have q7 : iEq x.kind 7 = false := kinds 5 kk 7 (by decide)
          have q8 : iEq x.kind 8 = false := kinds 5 kk 8 (by decide)
          have q9 : iEq x.kind 9 = false := kinds 5 kk 9 (by decide)
          have q10 : iEq x.kind 10 = false := kinds 5 kk 10 (by decide)
          rw [q6, q9, q7, q10, q8] at hov
          refine ⟨fun h => Bool.noConfusion (q6.symm.trans h), fun _ => ?_⟩
          conv => whnf
          refine ⟨fun h => Bool.noConfusion (q9.symm.trans h), fun _ => ?_⟩
          conv => whnf
          refine ⟨fun h => Bool.noConfusion (q7.symm.trans h), fun _ => ?_⟩
          conv => whnf
          refine ⟨fun h => Bool.noConfusion (q10.symm.trans h), fun _ => ?_⟩
          conv => whnf
          refine ⟨fun h => Bool.noConfusion (q8.symm.trans h), fun _ => ?_⟩
          conv => whnf
          exact ⟨[], _, _, _, rfl, rfl, rfl, over_ret (hov) (PLe.refl _) (PLe.bool _), trivial⟩
        · have kk : iEq x.kind 6 = true := iEq_t.2 k
          have q1 : iEq x.kind 1 = false := kinds 6 kk 1 (by decide)
          have q2 : iEq x.kind 2 = false := kinds 6 kk 2 (by decide)
          have q3 : iEq x.kind 3 = false := kinds 6 kk 3 (by decide)
          have q4 : iEq x.kind 4 = false := kinds 6 kk 4 (by decide)
          have q5 : iEq x.kind 5 = false := kinds 6 kk 5 (by decide)
          have q6 : iEq x.kind 6 = true := kk
          have q7 : iEq x.kind 7 = false := kinds 6 kk 7 (by decide)
          have q8 : iEq x.kind 8 = false := kinds 6 kk 8 (by decide)
          have q9 : iEq x.kind 9 = false := kinds 6 kk 9 (by decide)
          have q10 : iEq x.kind 10 = false := kinds 6 kk 10 (by decide)
          rw [q6, q9, q7, q10, q8] at hov
          refine ⟨fun _ => ?_, fun h => Bool.noConfusion (q6.symm.trans h)⟩
          conv => whnf
          refine ⟨fun _ => ?_, fun h => Bool.noConfusion (q6.symm.trans h)⟩
          conv => whnf
          refine ⟨fun e1 => ?_, fun e1 => ?_⟩
          · rw [k3] at e1; cases e1
          clear e1
          conv => whnf
          exact ⟨[], _, _, _, rfl, rfl, rfl, over_ret (hov) (PLe.refl _) (PLe.bool _), trivial⟩
        · have kk : iEq x.kind 7 = true := iEq_t.2 k
          have q1 : iEq x.kind 1 = false := kinds 7 kk 1 (by decide)
          have q2 : iEq x.kind 2 = false := kinds 7 kk 2 (by decide)
          have q3 : iEq x.kind 3 = false := kinds 7 kk 3 (by decide)
          have q4 : iEq x.kind 4 = false := kinds 7 kk 4 (by decide)
          have q5 : iEq x.kind 5 = false := kinds 7 kk 5 (by decide)
          have q6 : iEq x.kind 6 = false := kinds 7 kk 6 (by decide)
          have q7 : iEq x.kind 7 = true := kk
          have q8 : iEq x.kind 8 = false := kinds 7 kk 8 (by decide)
          have q9 : iEq x.kind 9 = false := kinds 7 kk 9 (by decide)
          have q10 : iEq x.kind 10 = false := kinds 7 kk 10 (by decide)
          rw [q6, q9, q7, q10, q8] at hov
          refine ⟨fun h => Bool.noConfusion (q6.symm.trans h), fun _ => ?_⟩
          conv => whnf
          refine ⟨fun h => Bool.noConfusion (q9.symm.trans h), fun _ => ?_⟩
          conv => whnf
          refine ⟨fun _ => ?_, fun h => Bool.noConfusion (q7.symm.trans h)⟩
          conv => whnf
          refine ⟨fun _ => ?_, fun h => Bool.noConfusion (q7.symm.trans h)⟩
          conv => whnf
          refine ⟨fun e1 => ?_, fun e1 => ?_⟩
          · conv => whnf
            exact ⟨(), hov, stle ⟨RepLe.refl _, trivial⟩ ⟨⟨_, rfl, BlkLe.anys rfl⟩, trivial⟩ rfl⟩
          · rw [k4] at e1; cases e1
        · have kk : iEq x.kind 8 = true := iEq_t.2 k
          have q1 : iEq x.kind 1 = false := kinds 8 kk 1 (by decide)
          have q2 : iEq x.kind 2 = false := kinds 8 kk 2 (by decide)
          have q3 : iEq x.kind 3 = false := kinds 8 kk 3 (by decide)
          have q4 : iEq x.kind 4 = false := kinds 8 kk 4 (by decide)
          have q5 : iEq x.kind 5 = false := kinds 8 kk 5 (by decide)
          have q6 : iEq x.kind 6 = false := kinds 8 kk 6 (by decide)
          have q7 : iEq x.kind 7 = false := kinds 8 kk 7 (by decide)
          have q8 : iEq x.kind 8 = true := kk
          have q9 : iEq x.kind 9 = false := kinds 8 kk 9 (by decide)
          have q10 : iEq x.kind 10 = false := kinds 8 kk 10 (by decide)
          rw [q6, q9, q7, q10, q8] at hov
          refine ⟨fun h => Bool.noConfusion (q6.symm.trans h), fun _ => ?_⟩
          conv => whnf
          refine ⟨fun h => Bool.noConfusion (q9.symm.trans h), fun _ => ?_⟩
          conv => whnf
          refine ⟨fun h => Bool.noConfusion (q7.symm.trans h), fun _ => ?_⟩
          conv => whnf
          refine ⟨fun h => Bool.noConfusion (q10.symm.trans h), fun _ => ?_⟩
          conv => whnf
          refine ⟨fun _ => ?_, fun h => Bool.noConfusion (q8.symm.trans h)⟩
          conv => whnf
          refine ⟨fun e1 => ?_, fun e1 => ?_⟩
          · conv => whnf
            exact ⟨(), hov, stle ⟨RepLe.refl _, trivial⟩ ⟨⟨_, rfl, BlkLe.anys rfl⟩, trivial⟩ rfl⟩
          · rw [k4] at e1; cases e1
        · have kk : iEq x.kind 9 = true := iEq_t.2 k
          have q1 : iEq x.kind 1 = false := kinds 9 kk 1 (by decide)
          have q2 : iEq x.kind 2 = false := kinds 9 kk 2 (by decide)
          have q3 : iEq x.kind 3 = false := kinds 9 kk 3 (by decide)
          have q4 : iEq x.kind 4 = false := kinds 9 kk 4 (by decide)
          have q5 : iEq x.kind 5 = false := kinds 9 kk 5 (by decide)
          have q6 : iEq x.kind 6 = false := kinds 9 kk 6 (by decide)
          have q7 : iEq x.kind 7 = false := kinds 9 kk 7 (by decide)
          have q8 : iEq x.kind 8 = false := kinds 9 kk 8 (by decide)
          have q9 : iEq x.kind 9 = true := kk
          have q10 : iEq x.kind 10 = false := kinds 9 kk 10 (by decide)
          rw [q6, q9, q7, q10, q8] at hov
          refine ⟨fun h => Bool.noConfusion (q6.symm.trans h), fun _ => ?_⟩
          conv => whnf
          refine ⟨fun _ => ?_, fun h => Bool.noConfusion (q9.symm.trans h)⟩
          conv => whnf
          refine ⟨fun e1 => ?_, fun e1 => ?_⟩
          · rw [k3] at e1; cases e1
          clear e1
          conv => whnf
          exact ⟨[], _, _, _, rfl, rfl, rfl, over_ret (hov) (PLe.refl _) (PLe.bool _), trivial⟩
        · have kk : iEq x.kind 10 = true := iEq_t.2 k
          have q1 : iEq x.kind 1 = false := kinds 10 kk 1 (by decide)
          have q2 : iEq x.kind 2 = false := kinds 10 kk 2 (by decide)
          have q3 : iEq x.kind 3 = false := kinds 10 kk 3 (by decide)
          have q4 : iEq x.kind 4 = false := kinds 10 kk 4 (by decide)
          have q5 : iEq x.kind 5 = false := kinds 10 kk 5 (by decide)
          have q6 : iEq x.kind 6 = false := kinds 10 kk 6 (by decide)
          have q7 : iEq x.kind 7 = false := kinds 10 kk 7 (by decide)
          have q8 : iEq x.kind 8 = false := kinds 10 kk 8 (by decide)
          have q9 : iEq x.kind 9 = false := kinds 10 kk 9 (by decide)
          have q10 : iEq x.kind 10 = true := kk
          rw [q6, q9, q7, q10, q8] at hov
          refine ⟨fun h => Bool.noConfusion (q6.symm.trans h), fun _ => ?_⟩
          conv => whnf
          refine ⟨fun h => Bool.noConfusion (q9.symm.trans h), fun _ => ?_⟩
          conv => whnf
          refine ⟨fun h => Bool.noConfusion (q7.symm.trans h), fun _ => ?_⟩
          conv => whnf
          refine ⟨fun _ => ?_, fun h => Bool.noConfusion (q10.symm.trans h)⟩
          conv => whnf
          refine ⟨fun _ => ?_, fun h => Bool.noConfusion (q10.symm.trans h)⟩
          conv => whnf
          refine ⟨fun e1 => ?_, fun e1 => ?_⟩
          · conv => whnf
            exact ⟨(), hov, stle ⟨RepLe.refl _, trivial⟩ ⟨⟨_, rfl, BlkLe.anys rfl⟩, trivial⟩ rfl⟩
          · rw [k4] at e1; cases e1
  · rintro ⟨⟩ hno
    refine codeK_aw hT hM _ _ _ ?_
    conv => whnf
    exact ⟨[], _, _, _, rfl, rfl, rfl, over_ret hno (PLe.agg (by repeat' (first | refine PLes.cons ?_ ?_ | exact PLe.refl _ | exact PLe.nil | exact PLe.bool _ | exact PLes.end))) (PLe.bool _), trivial⟩
end Go.Proofs.YtalpbdabeffnlaaGreat
