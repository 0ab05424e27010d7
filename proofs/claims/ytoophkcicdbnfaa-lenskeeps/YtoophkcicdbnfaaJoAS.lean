import Derived.Test.YtoophkcicdbnfaaJoBE
import Derived.Test.YtoophkcicdbnfaaJoBK
import Derived.Test.YtoophkcicdbnfaaJoAR
/- The reference: where a lens leads. -/
set_option linter.unusedVariables false
set_option linter.unusedSimpArgs false
namespace Go.Proofs.Ytoophkcicdbnfaa
open Go Go.Av
set_option maxRecDepth 100000
set_option maxHeartbeats 4000000

theorem nott {b : Bool} (h : (!b) = true) : b = false := by cases b; rfl; cases h
theorem notf {b : Bool} (h : (!b) = false) : b = true := by cases b; cases h; rfl
theorem allLe3 {a b c d e f : AV} (h1 : RepLe a d) (h2 : RepLe b e) (h3 : RepLe c f) : allLe [a, b, c] [d, e, f] := ⟨h1, h2, h3, trivial⟩
def rp (l : List SField) (x : SLens) (p : Nat × List SField × List SField) : St :=
  told 283 [(0, .p (encFields l)), (3, .pt 0 0), (6, .p (encFields p.2.1)), (7, .sl 16384), (8, .p (encRefs (goesOf x))), (9, vI .i64 (p.1 : Int))] [(0, some (.box 33 ((lensCells x).map .p))), (16384, rowFields p.2.2)] [0, 16384]
theorem f50 (l : List SField) (x : SLens) (hl : fitFields l) (hx : fitLens x) : PCall Try.prog 50 [encFields l, encLens x] (encTake (applyF l x)) [] := by
  have hlen := hl.1
  refine gcode hT hM Try.func50 rfl rfl (rv := [(4, none), (5, none)]) rfl rfl rfl fun G hG => ?_
  conv => whnf
  refine CallK.lent (f34 l hl.ok) rfl ?_
  conv => whnf
  refine ⟨fun h1 => ?_, fun h1 => ?_⟩
  · have h1 : rightFields l = false := by simpa using h1
    conv => whnf
    exact ⟨[], _, _, _, rfl, rfl, rfl, by unfold applyF; rw [h1]; exact nil_take, trivial⟩
  have h1 : rightFields l = true := by simpa using h1
  conv => whnf
  refine CallK.lent (f56 x hx) rfl ?_
  conv => whnf
  refine ⟨fun h2 => ?_, fun h2 => ?_⟩
  · have h2 : lensOk x = false := by simpa using h2
    conv => whnf
    exact ⟨[], _, _, _, rfl, rfl, rfl, by unfold applyF; rw [h1, h2]; exact nil_take, trivial⟩
  have h2 : lensOk x = true := by simpa using h2
  conv => whnf
  have c59 := f59 x
  rw [goes2_eq h2] at c59
  refine CallK.go [] (c59) rfl rfl rfl rfl rfl ?_
  conv => whnf
  have hgl : (goesOf x).length ≤ 2 := by rw [goes_len h2]; cases iEq x.kind 2 <;> cases iEq x.kind 3 <;> cases iEq x.kind 9 <;> decide
  refine AW.loop (X := Nat × List SField × List SField) (rp l x) (fun p => p.1 ≤ (goesOf x).length ∧ p.2.2.length = p.1 ∧ fitFields p.2.1 ∧ (∀ y ∈ p.2.2, y ∈ l) ∧ takeAll l (goesOf x) l [] = takeAll l ((goesOf x).drop p.1) p.2.1 p.2.2) (fun p => (goesOf x).length - p.1) (used0 hG _) (0, l, []) ⟨Nat.zero_le _, rfl, hl, fun y hy => by simp at hy, rfl⟩
    (show StLe _ (rp l x (0, l, [])) from stle ⟨RepLe.refl _, RepLe.refl _, RepLe.refl _, RepLe.refl _, RepLe.refl _, RepLe.refl _, trivial⟩ ⟨⟨_, rfl, BlkLe.refl _⟩, ⟨_, rfl, BlkLe.rowLe rfl fun a b ha hb => absurd ha (Nat.not_lt_zero _)⟩, trivial⟩ rfl) ?_
  rintro ⟨i, rest, was⟩ ⟨hi, hwl, hfr, hwf, hr⟩
  have hi : i ≤ (goesOf x).length := hi
  have hwl : was.length = i := hwl
  have hfr : fitFields rest := hfr
  have hwf : ∀ y ∈ was, y ∈ l := hwf
  have hr : takeAll l (goesOf x) l [] = takeAll l ((goesOf x).drop i) rest was := hr
  refine codeK_aw hT hM _ _ _ ?_
  conv => whnf
  refine ⟨fun h4 => ?_, fun h4 => ?_⟩
  · have hlt : i < (goesOf x).length := by rw [iLt_t] at h4; omega
    rw [take_step l (goesOf x) rest was hlt] at hr
    have c31 := f31 l ((goesOf x).getD i noRef) hl.ok
    conv => whnf
    refine ⟨by omega, ?_⟩
    conv => whnf
    cases q : placeIn l ((goesOf x).getD i noRef) with
    | none =>
      rw [q] at hr c31
      have ha : applyF l x = ([], 16) := by unfold applyF; rw [h1, h2, hr]; rfl
      refine CallK.go [] (c31) rfl rfl rfl rfl rfl ?_
      conv => whnf
      refine ⟨fun e1 => ?_, fun e1 => ?_⟩
      · conv => whnf
        exact ⟨[], _, _, _, rfl, rfl, rfl, by rw [ha]; exact nil_take, trivial⟩
      · rw [iLt_f] at e1
        exact absurd e1 (show ¬ (0 : Int) ≤ -1 by decide)
    | some j =>
      rw [q] at hr c31
      have hr : takeAll l (goesOf x) l [] = takeAll l ((goesOf x).drop (i + 1)) (withoutF rest ((goesOf x).getD i noRef)).1 (was ++ [l.getD j noField]) := hr
      have hj := place_lt q
      refine CallK.go [] (c31) rfl rfl rfl rfl rfl ?_
      conv => whnf
      refine ⟨fun e1 => ?_, fun e1 => ?_⟩
      · rw [iLt_t] at e1
        exact absurd e1 (show ¬ ((j : Nat) : Int) < 0 by omega)
      conv => whnf
      refine ⟨⟨Int.natCast_nonneg _, Int.ofNat_lt.2 hj⟩, ?_⟩
      conv => whnf
      refine ⟨⟨show was.length + 1 ≤ 9223372036854775807 by omega, show (was.length + 1) * 96 ≤ 140737488355328 by omega⟩, ?_⟩
      conv => whnf
      refine ⟨by omega, ?_⟩
      conv => whnf
      refine CallK.go [] (f47 rest ((goesOf x).getD i noRef) hfr) rfl rfl rfl rfl rfl ?_
      conv => whnf
      intro z hz
      have hy := wrap64_eq hz (by omega) (by omega)
      clear hz
      subst hy
      conv => whnf
      refine ⟨(i + 1, (withoutF rest ((goesOf x).getD i noRef)).1, was ++ [l.getD j noField]), ⟨by omega, by simp [hwl], without_fit hfr, fun y hy => by
          rcases List.mem_append.1 hy with h | h
          · exact hwf y h
          · rw [List.mem_singleton.1 h]; exact at_mem hj, hr⟩, by show (goesOf x).length - (i + 1) < (goesOf x).length - i; omega,
        (show StLe _ (rp l x (i + 1, (withoutF rest ((goesOf x).getD i noRef)).1, was ++ [l.getD j noField])) from stleR [(16384, 49200)] ⟨RepLe.refl _, RepLe.refl _, RepLe.refl _, RepLe.refl _, RepLe.refl _, RepLe.of rfl, trivial⟩ ⟨⟨_, rfl, BlkLe.refl _⟩, ⟨_, rfl, rowSnoc _ _ (seven (PLe.refl _) (PLe.refl _) (PLe.refl _) (PLe.refl _) (PLe.refl _) (PLe.refl _) (PLe.refl _))⟩, trivial⟩ rfl)⟩
  have hge : i = (goesOf x).length := by rw [iLt_f] at h4; omega
  rw [hge, List.drop_length] at hr
  have ht : takeAll l (goesOf x) l [] = some (rest, was) := hr
  have hwn : was.length = (goesOf x).length := hwl.trans hge
  have hwl2 : was.length ≤ 2 := by omega
  have hwp : iEq x.kind 2 = false → 0 < was.length := fun h => by rw [hwn, goes_len h2, h]; cases iEq x.kind 3 <;> cases iEq x.kind 9 <;> decide
  have hwo : 0 < was.length → fieldOk (was.getD 0 noField) = true := fun h => by
    obtain ⟨j, hj, e⟩ := getD_mem (hwf _ (at_mem h))
    rw [← e]; exact (right_step h1 hj).1
  have hwa : ∀ k, fitField (was.getD k noField) := was_at fun y hy => hl.2 y (hwf y hy)
  have c60 := f60 x
  rw [comes2_eq h2] at c60
  clear h4 hr hi hwl hge c59
  conv => whnf
  refine CallK.go [] (c60) rfl rfl rfl rfl rfl ?_
  conv => whnf
  rcases kind_range h2 with k | k | k | k | k | k | k | k | k | k
  · have kk : iEq x.kind 1 = true := iEq_t.2 k
    have q1 : iEq x.kind 1 = true := kk
    have q2 : iEq x.kind 2 = false := kinds 1 kk 2 (by decide)
    have q3 : iEq x.kind 3 = false := kinds 1 kk 3 (by decide)
    have q4 : iEq x.kind 4 = false := kinds 1 kk 4 (by decide)
    have q5 : iEq x.kind 5 = false := kinds 1 kk 5 (by decide)
    have q6 : iEq x.kind 6 = false := kinds 1 kk 6 (by decide)
    have q7 : iEq x.kind 7 = false := kinds 1 kk 7 (by decide)
    have q8 : iEq x.kind 8 = false := kinds 1 kk 8 (by decide)
    have q9 : iEq x.kind 9 = false := kinds 1 kk 9 (by decide)
    have q10 : iEq x.kind 10 = false := kinds 1 kk 10 (by decide)
    have hw := hwp q2
    have hc := comes_one h2 q3 q6
    refine ⟨fun _ => ?_, fun h => Bool.noConfusion (q1.symm.trans h)⟩
    conv => whnf
    refine ⟨(show (0 : Int) ≤ 0 ∧ (0 : Int) < (was.length : Int) by omega), ?_⟩
    conv => whnf
    refine ⟨(show 0 < was.length by omega), ?_⟩
    conv => whnf
    refine ⟨by omega, ?_⟩
    conv => whnf
    refine CallK.go [] (f101 (was.getD 0 noField) ((comesOf x).getD 0 noRef)) rfl rfl rfl rfl rfl ?_
    conv => whnf
    refine CallK.go [] (GCall.args (f100 rest { was.getD 0 noField with place := (comesOf x).getD 0 noRef } true hfr (hwa 0)) ?hh) rfl rfl rfl rfl rfl ?_
    case hh => exact allLe3 (RepLe.refl _) (PLe.rep (PLe.agg (by repeat' (first | refine PLes.cons ?_ ?_ | exact PLe.refl _ | exact PLe.nil | exact PLes.end)))) (by first | exact RepLe.bl rfl | exact RepLe.refl _)
    conv => whnf
    refine ⟨rfl, ?_⟩
    conv => whnf
    refine ⟨fun h => Bool.noConfusion (q2.symm.trans h), fun _ => ?_⟩
    conv => whnf
    refine ⟨fun h => Bool.noConfusion (q3.symm.trans h), fun _ => ?_⟩
    conv => whnf
    refine ⟨fun h => Bool.noConfusion (q6.symm.trans h), fun _ => ?_⟩
    conv => whnf
    refine ⟨fun h => Bool.noConfusion (q7.symm.trans h), fun _ => ?_⟩
    conv => whnf
    refine ⟨fun h => Bool.noConfusion (q8.symm.trans h), fun _ => ?_⟩
    conv => whnf
    refine ⟨fun h => Bool.noConfusion (q9.symm.trans h), fun _ => ?_⟩
    conv => whnf
    refine ⟨fun h => Bool.noConfusion (q10.symm.trans h), fun _ => ?_⟩
    conv => whnf
    refine ⟨fun e1 => ?_, fun e1 => ?_⟩
    · have e1 : (true && iEq (withF rest { was.getD 0 noField with place := (comesOf x).getD 0 noRef }).2 0) = false := nott e1
      have ha := fin_moved h1 h2 ht 1 kk (by omega) rfl
      rw [e1] at ha
      conv => whnf
      exact ⟨[], _, _, _, rfl, rfl, rfl, by rw [ha]; exact nil_take, trivial⟩
    have e1 : (true && iEq (withF rest { was.getD 0 noField with place := (comesOf x).getD 0 noRef }).2 0) = true := notf e1
    have ha := fin_moved h1 h2 ht 1 kk (by omega) rfl
    rw [e1] at ha
    conv => whnf
    exact ⟨[], _, _, _, rfl, rfl, rfl, by rw [ha]; exact RepLe.refl _, trivial⟩
  · have kk : iEq x.kind 2 = true := iEq_t.2 k
    have q1 : iEq x.kind 1 = false := kinds 2 kk 1 (by decide)
    have q2 : iEq x.kind 2 = true := kk
    have q3 : iEq x.kind 3 = false := kinds 2 kk 3 (by decide)
    have q4 : iEq x.kind 4 = false := kinds 2 kk 4 (by decide)
    have q5 : iEq x.kind 5 = false := kinds 2 kk 5 (by decide)
    have q6 : iEq x.kind 6 = false := kinds 2 kk 6 (by decide)
    have q7 : iEq x.kind 7 = false := kinds 2 kk 7 (by decide)
    have q8 : iEq x.kind 8 = false := kinds 2 kk 8 (by decide)
    have q9 : iEq x.kind 9 = false := kinds 2 kk 9 (by decide)
    have q10 : iEq x.kind 10 = false := kinds 2 kk 10 (by decide)
    have hc := comes_one h2 q3 q6
    refine ⟨fun h => Bool.noConfusion (q1.symm.trans h), fun _ => ?_⟩
    conv => whnf
    refine ⟨fun h => Bool.noConfusion (q4.symm.trans h), fun _ => ?_⟩
    conv => whnf
    refine ⟨fun h => Bool.noConfusion (q5.symm.trans h), fun _ => ?_⟩
    conv => whnf
    refine ⟨fun _ => ?_, fun h => Bool.noConfusion (q2.symm.trans h)⟩
    conv => whnf
    refine CallK.go [] (GCall.args (f100 rest x.field true hfr hx.1) ?hh) rfl rfl rfl rfl rfl ?_
    case hh => exact allLe3 (RepLe.refl _) (PLe.rep (PLe.agg (by repeat' (first | refine PLes.cons ?_ ?_ | exact PLe.refl _ | exact PLe.nil | exact PLes.end)))) (by first | exact RepLe.bl rfl | exact RepLe.refl _)
    conv => whnf
    refine ⟨fun h => Bool.noConfusion (q3.symm.trans h), fun _ => ?_⟩
    conv => whnf
    refine ⟨fun h => Bool.noConfusion (q6.symm.trans h), fun _ => ?_⟩
    conv => whnf
    refine ⟨fun h => Bool.noConfusion (q7.symm.trans h), fun _ => ?_⟩
    conv => whnf
    refine ⟨fun h => Bool.noConfusion (q8.symm.trans h), fun _ => ?_⟩
    conv => whnf
    refine ⟨fun h => Bool.noConfusion (q9.symm.trans h), fun _ => ?_⟩
    conv => whnf
    refine ⟨fun h => Bool.noConfusion (q10.symm.trans h), fun _ => ?_⟩
    conv => whnf
    refine ⟨fun e1 => ?_, fun e1 => ?_⟩
    · have e1 : (true && iEq (withF rest x.field).2 0) = false := nott e1
      have ha := fin_added h1 h2 ht kk rfl
      rw [e1] at ha
      conv => whnf
      exact ⟨[], _, _, _, rfl, rfl, rfl, by rw [ha]; exact nil_take, trivial⟩
    have e1 : (true && iEq (withF rest x.field).2 0) = true := notf e1
    have ha := fin_added h1 h2 ht kk rfl
    rw [e1] at ha
    conv => whnf
    exact ⟨[], _, _, _, rfl, rfl, rfl, by rw [ha]; exact RepLe.refl _, trivial⟩
  · have kk : iEq x.kind 3 = true := iEq_t.2 k
    have q1 : iEq x.kind 1 = false := kinds 3 kk 1 (by decide)
    have q2 : iEq x.kind 2 = false := kinds 3 kk 2 (by decide)
    have q3 : iEq x.kind 3 = true := kk
    have q4 : iEq x.kind 4 = false := kinds 3 kk 4 (by decide)
    have q5 : iEq x.kind 5 = false := kinds 3 kk 5 (by decide)
    have q6 : iEq x.kind 6 = false := kinds 3 kk 6 (by decide)
    have q7 : iEq x.kind 7 = false := kinds 3 kk 7 (by decide)
    have q8 : iEq x.kind 8 = false := kinds 3 kk 8 (by decide)
    have q9 : iEq x.kind 9 = false := kinds 3 kk 9 (by decide)
    have q10 : iEq x.kind 10 = false := kinds 3 kk 10 (by decide)
    have hw := hwp q2
    refine ⟨fun h => Bool.noConfusion (q1.symm.trans h), fun _ => ?_⟩
    conv => whnf
    refine ⟨fun h => Bool.noConfusion (q4.symm.trans h), fun _ => ?_⟩
    conv => whnf
    refine ⟨fun h => Bool.noConfusion (q5.symm.trans h), fun _ => ?_⟩
    conv => whnf
    refine ⟨fun h => Bool.noConfusion (q2.symm.trans h), fun _ => ?_⟩
    conv => whnf
    refine ⟨fun _ => ?_, fun h => Bool.noConfusion (q3.symm.trans h)⟩
    conv => whnf
    refine ⟨(show (0 : Int) ≤ 0 ∧ (0 : Int) < (was.length : Int) by omega), ?_⟩
    conv => whnf
    refine ⟨(show 0 < was.length by omega), ?_⟩
    conv => whnf
    refine CallK.lent (f32 (was.getD 0 noField) x.field (hwa 0).ok) rfl ?_
    conv => whnf
    refine ⟨rfl, ?_⟩
    conv => whnf
    refine ⟨fun h => Bool.noConfusion (q6.symm.trans h), fun _ => ?_⟩
    conv => whnf
    refine ⟨fun h => Bool.noConfusion (q7.symm.trans h), fun _ => ?_⟩
    conv => whnf
    refine ⟨fun h => Bool.noConfusion (q8.symm.trans h), fun _ => ?_⟩
    conv => whnf
    refine ⟨fun h => Bool.noConfusion (q9.symm.trans h), fun _ => ?_⟩
    conv => whnf
    refine ⟨fun h => Bool.noConfusion (q10.symm.trans h), fun _ => ?_⟩
    conv => whnf
    refine ⟨fun e1 => ?_, fun e1 => ?_⟩
    · have e1 : sameField (was.getD 0 noField) x.field = false := nott e1
      have ha := fin_gone h1 h2 ht kk rfl
      rw [e1] at ha
      conv => whnf
      exact ⟨[], _, _, _, rfl, rfl, rfl, by rw [ha]; exact nil_take, trivial⟩
    have e1 : sameField (was.getD 0 noField) x.field = true := notf e1
    have ha := fin_gone h1 h2 ht kk rfl
    rw [e1] at ha
    conv => whnf
    exact ⟨[], _, _, _, rfl, rfl, rfl, by rw [ha]; exact RepLe.refl _, trivial⟩
  · have kk : iEq x.kind 4 = true := iEq_t.2 k
    have q1 : iEq x.kind 1 = false := kinds 4 kk 1 (by decide)
    have q2 : iEq x.kind 2 = false := kinds 4 kk 2 (by decide)
    have q3 : iEq x.kind 3 = false := kinds 4 kk 3 (by decide)
    have q4 : iEq x.kind 4 = true := kk
    have q5 : iEq x.kind 5 = false := kinds 4 kk 5 (by decide)
    have q6 : iEq x.kind 6 = false := kinds 4 kk 6 (by decide)
    have q7 : iEq x.kind 7 = false := kinds 4 kk 7 (by decide)
    have q8 : iEq x.kind 8 = false := kinds 4 kk 8 (by decide)
    have q9 : iEq x.kind 9 = false := kinds 4 kk 9 (by decide)
    have q10 : iEq x.kind 10 = false := kinds 4 kk 10 (by decide)
    have hw := hwp q2
    have hc := comes_one h2 q3 q6
    refine ⟨fun h => Bool.noConfusion (q1.symm.trans h), fun _ => ?_⟩
    conv => whnf
    refine ⟨fun _ => ?_, fun h => Bool.noConfusion (q4.symm.trans h)⟩
    conv => whnf
    refine ⟨(show (0 : Int) ≤ 0 ∧ (0 : Int) < (was.length : Int) by omega), ?_⟩
    conv => whnf
    refine ⟨(show 0 < was.length by omega), ?_⟩
    conv => whnf
    refine ⟨by omega, ?_⟩
    conv => whnf
    refine CallK.go [] (f101 (was.getD 0 noField) ((comesOf x).getD 0 noRef)) rfl rfl rfl rfl rfl ?_
    conv => whnf
    refine CallK.go [] (GCall.args (f100 rest { was.getD 0 noField with place := (comesOf x).getD 0 noRef } true hfr (hwa 0)) ?hh) rfl rfl rfl rfl rfl ?_
    case hh => exact allLe3 (RepLe.refl _) (PLe.rep (PLe.agg (by repeat' (first | refine PLes.cons ?_ ?_ | exact PLe.refl _ | exact PLe.nil | exact PLes.end)))) (by first | exact RepLe.bl rfl | exact RepLe.refl _)
    conv => whnf
    refine ⟨rfl, ?_⟩
    conv => whnf
    refine ⟨fun h => Bool.noConfusion (q2.symm.trans h), fun _ => ?_⟩
    conv => whnf
    refine ⟨fun h => Bool.noConfusion (q3.symm.trans h), fun _ => ?_⟩
    conv => whnf
    refine ⟨fun h => Bool.noConfusion (q6.symm.trans h), fun _ => ?_⟩
    conv => whnf
    refine ⟨fun h => Bool.noConfusion (q7.symm.trans h), fun _ => ?_⟩
    conv => whnf
    refine ⟨fun h => Bool.noConfusion (q8.symm.trans h), fun _ => ?_⟩
    conv => whnf
    refine ⟨fun h => Bool.noConfusion (q9.symm.trans h), fun _ => ?_⟩
    conv => whnf
    refine ⟨fun h => Bool.noConfusion (q10.symm.trans h), fun _ => ?_⟩
    conv => whnf
    refine ⟨fun e1 => ?_, fun e1 => ?_⟩
    · have e1 : (true && iEq (withF rest { was.getD 0 noField with place := (comesOf x).getD 0 noRef }).2 0) = false := nott e1
      have ha := fin_moved h1 h2 ht 4 kk (by omega) rfl
      rw [e1] at ha
      conv => whnf
      exact ⟨[], _, _, _, rfl, rfl, rfl, by rw [ha]; exact nil_take, trivial⟩
    have e1 : (true && iEq (withF rest { was.getD 0 noField with place := (comesOf x).getD 0 noRef }).2 0) = true := notf e1
    have ha := fin_moved h1 h2 ht 4 kk (by omega) rfl
    rw [e1] at ha
    conv => whnf
    exact ⟨[], _, _, _, rfl, rfl, rfl, by rw [ha]; exact RepLe.refl _, trivial⟩
  · have kk : iEq x.kind 5 = true := iEq_t.2 k
    have q1 : iEq x.kind 1 = false := kinds 5 kk 1 (by decide)
    have q2 : iEq x.kind 2 = false := kinds 5 kk 2 (by decide)
    have q3 : iEq x.kind 3 = false := kinds 5 kk 3 (by decide)
    have q4 : iEq x.kind 4 = false := kinds 5 kk 4 (by decide)
    have q5 : iEq x.kind 5 = true := kk
    have q6 : iEq x.kind 6 = false := kinds 5 kk 6 (by decide)
    have q7 : iEq x.kind 7 = false := kinds 5 kk 7 (by decide)
    have q8 : iEq x.kind 8 = false := kinds 5 kk 8 (by decide)
    have q9 : iEq x.kind 9 = false := kinds 5 kk 9 (by decide)
    have q10 : iEq x.kind 10 = false := kinds 5 kk 10 (by decide)
    have hw := hwp q2
    have hc := comes_one h2 q3 q6
    refine ⟨fun h => Bool.noConfusion (q1.symm.trans h), fun _ => ?_⟩
    conv => whnf
    refine ⟨fun h => Bool.noConfusion (q4.symm.trans h), fun _ => ?_⟩
    conv => whnf
    refine ⟨fun _ => ?_, fun h => Bool.noConfusion (q5.symm.trans h)⟩
    conv => whnf
    refine ⟨(show (0 : Int) ≤ 0 ∧ (0 : Int) < (was.length : Int) by omega), ?_⟩
    conv => whnf
    refine ⟨(show 0 < was.length by omega), ?_⟩
    conv => whnf
    refine ⟨by omega, ?_⟩
    conv => whnf
    refine CallK.go [] (f101 (was.getD 0 noField) ((comesOf x).getD 0 noRef)) rfl rfl rfl rfl rfl ?_
    conv => whnf
    refine CallK.go [] (GCall.args (f100 rest { was.getD 0 noField with place := (comesOf x).getD 0 noRef } true hfr (hwa 0)) ?hh) rfl rfl rfl rfl rfl ?_
    case hh => exact allLe3 (RepLe.refl _) (PLe.rep (PLe.agg (by repeat' (first | refine PLes.cons ?_ ?_ | exact PLe.refl _ | exact PLe.nil | exact PLes.end)))) (by first | exact RepLe.bl rfl | exact RepLe.refl _)
    conv => whnf
    refine ⟨rfl, ?_⟩
    conv => whnf
    refine ⟨fun h => Bool.noConfusion (q2.symm.trans h), fun _ => ?_⟩
    conv => whnf
    refine ⟨fun h => Bool.noConfusion (q3.symm.trans h), fun _ => ?_⟩
    conv => whnf
    refine ⟨fun h => Bool.noConfusion (q6.symm.trans h), fun _ => ?_⟩
    conv => whnf
    refine ⟨fun h => Bool.noConfusion (q7.symm.trans h), fun _ => ?_⟩
    conv => whnf
    refine ⟨fun h => Bool.noConfusion (q8.symm.trans h), fun _ => ?_⟩
    conv => whnf
    refine ⟨fun h => Bool.noConfusion (q9.symm.trans h), fun _ => ?_⟩
    conv => whnf
    refine ⟨fun h => Bool.noConfusion (q10.symm.trans h), fun _ => ?_⟩
    conv => whnf
    refine ⟨fun e1 => ?_, fun e1 => ?_⟩
    · have e1 : (true && iEq (withF rest { was.getD 0 noField with place := (comesOf x).getD 0 noRef }).2 0) = false := nott e1
      have ha := fin_moved h1 h2 ht 5 kk (by omega) rfl
      rw [e1] at ha
      conv => whnf
      exact ⟨[], _, _, _, rfl, rfl, rfl, by rw [ha]; exact nil_take, trivial⟩
    have e1 : (true && iEq (withF rest { was.getD 0 noField with place := (comesOf x).getD 0 noRef }).2 0) = true := notf e1
    have ha := fin_moved h1 h2 ht 5 kk (by omega) rfl
    rw [e1] at ha
    conv => whnf
    exact ⟨[], _, _, _, rfl, rfl, rfl, by rw [ha]; exact RepLe.refl _, trivial⟩
  · have kk : iEq x.kind 6 = true := iEq_t.2 k
    have q1 : iEq x.kind 1 = false := kinds 6 kk 1 (by decide)
    have q2 : iEq x.kind 2 = false := kinds 6 kk 2 (by decide)
    have q3 : iEq x.kind 3 = false := kinds 6 kk 3 (by decide)
    have q4 : iEq x.kind 4 = false := kinds 6 kk 4 (by decide)
    have q5 : iEq x.kind 5 = false := kinds 6 kk 5 (by decide)
    have q6 : iEq x.kind 6 = true := kk
    have q7 : iEq x.kind 7 = false := kinds 6 kk 7 (by decide)
    have q8 : iEq x.kind 8 = false := kinds 6 kk 8 (by decide)
    have q9 : iEq x.kind 9 = false := kinds 6 kk 9 (by decide)
    have q10 : iEq x.kind 10 = false := kinds 6 kk 10 (by decide)
    have hw := hwp q2
    have hc := comes_two h2 q6
    refine ⟨fun h => Bool.noConfusion (q1.symm.trans h), fun _ => ?_⟩
    conv => whnf
    refine ⟨fun h => Bool.noConfusion (q4.symm.trans h), fun _ => ?_⟩
    conv => whnf
    refine ⟨fun h => Bool.noConfusion (q5.symm.trans h), fun _ => ?_⟩
    conv => whnf
    refine ⟨fun h => Bool.noConfusion (q2.symm.trans h), fun _ => ?_⟩
    conv => whnf
    refine ⟨fun h => Bool.noConfusion (q3.symm.trans h), fun _ => ?_⟩
    conv => whnf
    refine ⟨fun _ => ?_, fun h => Bool.noConfusion (q6.symm.trans h)⟩
    conv => whnf
    refine ⟨(show (0 : Int) ≤ 0 ∧ (0 : Int) < (was.length : Int) by omega), ?_⟩
    conv => whnf
    refine ⟨(show 0 < was.length by omega), ?_⟩
    conv => whnf
    intro z hz
    subst hz
    conv => whnf
    refine ⟨rfl, ?_⟩
    conv => whnf
    refine ⟨(show (0 : Int) ≤ 0 ∧ (0 : Int) < (was.length : Int) by omega), ?_⟩
    conv => whnf
    refine ⟨(show 0 < was.length by omega), ?_⟩
    conv => whnf
    refine ⟨fun g1 => ?_, fun g1 => ?_⟩
    · have g1 : iEq (was.getD 0 noField).kind 1 = true := g1
      conv => whnf
      refine ⟨by omega, ?_⟩
      conv => whnf
      refine ⟨(show (0 : Int) ≤ 0 ∧ (0 : Int) < (was.length : Int) by omega), ?_⟩
      conv => whnf
      refine ⟨(show 0 < was.length by omega), ?_⟩
      conv => whnf
      refine CallK.go [] (GCall.args (f100 rest { noField with place := (comesOf x).getD 0 noRef, kind := 1, worth := (was.getD 0 noField).worth } (iLt (wrapO .i64 ((was.getD 0 noField).worth * x.factor)) 1048577) hfr (show fitField _ from Nat.zero_le _)) ?hh) rfl rfl rfl rfl rfl ?_
      case hh => exact allLe3 (RepLe.refl _) (PLe.rep (PLe.agg (by repeat' (first | refine PLes.cons ?_ ?_ | exact PLe.refl _ | exact PLe.nil | exact PLes.end)))) (by first | exact RepLe.bl rfl | exact RepLe.refl _)
      conv => whnf
      refine ⟨rfl, ?_⟩
      conv => whnf
      refine ⟨by omega, ?_⟩
      conv => whnf
      refine CallK.go [] (GCall.args (f100 (withF rest { noField with place := (comesOf x).getD 0 noRef, kind := 1, worth := (was.getD 0 noField).worth }).1 { noField with place := (comesOf x).getD 1 noRef, kind := 1, worth := (wrapO .i64 ((was.getD 0 noField).worth * x.factor)) } ((iLt (wrapO .i64 ((was.getD 0 noField).worth * x.factor)) 1048577) && iEq (withF rest { noField with place := (comesOf x).getD 0 noRef, kind := 1, worth := (was.getD 0 noField).worth }).2 0) (with_fit hfr (show fitField _ from Nat.zero_le _)) (show fitField _ from Nat.zero_le _)) ?hh) rfl rfl rfl rfl rfl ?_
      case hh => exact allLe3 (RepLe.refl _) (PLe.rep (PLe.agg (by repeat' (first | refine PLes.cons ?_ ?_ | exact PLe.refl _ | exact PLe.nil | exact PLes.end)))) (by first | exact RepLe.bl rfl | exact RepLe.refl _)
      conv => whnf
      refine ⟨fun h => Bool.noConfusion (q7.symm.trans h), fun _ => ?_⟩
      conv => whnf
      refine ⟨fun h => Bool.noConfusion (q8.symm.trans h), fun _ => ?_⟩
      conv => whnf
      refine ⟨fun h => Bool.noConfusion (q9.symm.trans h), fun _ => ?_⟩
      conv => whnf
      refine ⟨fun h => Bool.noConfusion (q10.symm.trans h), fun _ => ?_⟩
      conv => whnf
      refine ⟨fun e1 => ?_, fun e1 => ?_⟩
      · have e1 : (((iLt (wrapO .i64 ((was.getD 0 noField).worth * x.factor)) 1048577) && iEq (withF rest { noField with place := (comesOf x).getD 0 noRef, kind := 1, worth := (was.getD 0 noField).worth }).2 0) && iEq (withF (withF rest { noField with place := (comesOf x).getD 0 noRef, kind := 1, worth := (was.getD 0 noField).worth }).1 { noField with place := (comesOf x).getD 1 noRef, kind := 1, worth := (wrapO .i64 ((was.getD 0 noField).worth * x.factor)) }).2 0) = false := nott e1
        have ha := fin_spread h1 h2 ht kk (hwo hw) (b := iLt (wrapO .i64 ((was.getD 0 noField).worth * x.factor)) 1048577) (by rw [g1]; rfl) rfl rfl rfl
        rw [e1] at ha
        conv => whnf
        exact ⟨[], _, _, _, rfl, rfl, rfl, by rw [ha]; exact nil_take, trivial⟩
      have e1 : (((iLt (wrapO .i64 ((was.getD 0 noField).worth * x.factor)) 1048577) && iEq (withF rest { noField with place := (comesOf x).getD 0 noRef, kind := 1, worth := (was.getD 0 noField).worth }).2 0) && iEq (withF (withF rest { noField with place := (comesOf x).getD 0 noRef, kind := 1, worth := (was.getD 0 noField).worth }).1 { noField with place := (comesOf x).getD 1 noRef, kind := 1, worth := (wrapO .i64 ((was.getD 0 noField).worth * x.factor)) }).2 0) = true := notf e1
      have ha := fin_spread h1 h2 ht kk (hwo hw) (b := iLt (wrapO .i64 ((was.getD 0 noField).worth * x.factor)) 1048577) (by rw [g1]; rfl) rfl rfl rfl
      rw [e1] at ha
      conv => whnf
      exact ⟨[], _, _, _, rfl, rfl, rfl, by rw [ha]; exact RepLe.refl _, trivial⟩
    · have g1 : iEq (was.getD 0 noField).kind 1 = false := g1
      conv => whnf
      refine ⟨by omega, ?_⟩
      conv => whnf
      refine ⟨(show (0 : Int) ≤ 0 ∧ (0 : Int) < (was.length : Int) by omega), ?_⟩
      conv => whnf
      refine ⟨(show 0 < was.length by omega), ?_⟩
      conv => whnf
      refine CallK.go [] (GCall.args (f100 rest { noField with place := (comesOf x).getD 0 noRef, kind := 1, worth := (was.getD 0 noField).worth } false hfr (show fitField _ from Nat.zero_le _)) ?hh) rfl rfl rfl rfl rfl ?_
      case hh => exact allLe3 (RepLe.refl _) (PLe.rep (PLe.agg (by repeat' (first | refine PLes.cons ?_ ?_ | exact PLe.refl _ | exact PLe.nil | exact PLes.end)))) (by first | exact RepLe.bl rfl | exact RepLe.refl _)
      conv => whnf
      refine ⟨rfl, ?_⟩
      conv => whnf
      refine ⟨by omega, ?_⟩
      conv => whnf
      refine CallK.go [] (GCall.args (f100 (withF rest { noField with place := (comesOf x).getD 0 noRef, kind := 1, worth := (was.getD 0 noField).worth }).1 { noField with place := (comesOf x).getD 1 noRef, kind := 1, worth := (wrapO .i64 ((was.getD 0 noField).worth * x.factor)) } (false && iEq (withF rest { noField with place := (comesOf x).getD 0 noRef, kind := 1, worth := (was.getD 0 noField).worth }).2 0) (with_fit hfr (show fitField _ from Nat.zero_le _)) (show fitField _ from Nat.zero_le _)) ?hh) rfl rfl rfl rfl rfl ?_
      case hh => exact allLe3 (RepLe.refl _) (PLe.rep (PLe.agg (by repeat' (first | refine PLes.cons ?_ ?_ | exact PLe.refl _ | exact PLe.nil | exact PLes.end)))) (by first | exact RepLe.bl rfl | exact RepLe.refl _)
      conv => whnf
      refine ⟨fun h => Bool.noConfusion (q7.symm.trans h), fun _ => ?_⟩
      conv => whnf
      refine ⟨fun h => Bool.noConfusion (q8.symm.trans h), fun _ => ?_⟩
      conv => whnf
      refine ⟨fun h => Bool.noConfusion (q9.symm.trans h), fun _ => ?_⟩
      conv => whnf
      refine ⟨fun h => Bool.noConfusion (q10.symm.trans h), fun _ => ?_⟩
      conv => whnf
      refine ⟨fun e1 => ?_, fun e1 => ?_⟩
      · have e1 : ((false && iEq (withF rest { noField with place := (comesOf x).getD 0 noRef, kind := 1, worth := (was.getD 0 noField).worth }).2 0) && iEq (withF (withF rest { noField with place := (comesOf x).getD 0 noRef, kind := 1, worth := (was.getD 0 noField).worth }).1 { noField with place := (comesOf x).getD 1 noRef, kind := 1, worth := (wrapO .i64 ((was.getD 0 noField).worth * x.factor)) }).2 0) = false := nott e1
        have ha := fin_spread h1 h2 ht kk (hwo hw) (b := false) (by rw [g1]; rfl) rfl rfl rfl
        rw [e1] at ha
        conv => whnf
        exact ⟨[], _, _, _, rfl, rfl, rfl, by rw [ha]; exact nil_take, trivial⟩
      have e1 : ((false && iEq (withF rest { noField with place := (comesOf x).getD 0 noRef, kind := 1, worth := (was.getD 0 noField).worth }).2 0) && iEq (withF (withF rest { noField with place := (comesOf x).getD 0 noRef, kind := 1, worth := (was.getD 0 noField).worth }).1 { noField with place := (comesOf x).getD 1 noRef, kind := 1, worth := (wrapO .i64 ((was.getD 0 noField).worth * x.factor)) }).2 0) = true := notf e1
      have ha := fin_spread h1 h2 ht kk (hwo hw) (b := false) (by rw [g1]; rfl) rfl rfl rfl
      rw [e1] at ha
      conv => whnf
      exact ⟨[], _, _, _, rfl, rfl, rfl, by rw [ha]; exact RepLe.refl _, trivial⟩
  · have kk : iEq x.kind 7 = true := iEq_t.2 k
    have q1 : iEq x.kind 1 = false := kinds 7 kk 1 (by decide)
    have q2 : iEq x.kind 2 = false := kinds 7 kk 2 (by decide)
    have q3 : iEq x.kind 3 = false := kinds 7 kk 3 (by decide)
    have q4 : iEq x.kind 4 = false := kinds 7 kk 4 (by decide)
    have q5 : iEq x.kind 5 = false := kinds 7 kk 5 (by decide)
    have q6 : iEq x.kind 6 = false := kinds 7 kk 6 (by decide)
    have q7 : iEq x.kind 7 = true := kk
    have q8 : iEq x.kind 8 = false := kinds 7 kk 8 (by decide)
    have q9 : iEq x.kind 9 = false := kinds 7 kk 9 (by decide)
    have q10 : iEq x.kind 10 = false := kinds 7 kk 10 (by decide)
    have hw := hwp q2
    have hc := comes_one h2 q3 q6
    refine ⟨fun h => Bool.noConfusion (q1.symm.trans h), fun _ => ?_⟩
    conv => whnf
    refine ⟨fun h => Bool.noConfusion (q4.symm.trans h), fun _ => ?_⟩
    conv => whnf
    refine ⟨fun h => Bool.noConfusion (q5.symm.trans h), fun _ => ?_⟩
    conv => whnf
    refine ⟨fun h => Bool.noConfusion (q2.symm.trans h), fun _ => ?_⟩
    conv => whnf
    refine ⟨fun h => Bool.noConfusion (q3.symm.trans h), fun _ => ?_⟩
    conv => whnf
    refine ⟨fun h => Bool.noConfusion (q6.symm.trans h), fun _ => ?_⟩
    conv => whnf
    refine ⟨fun _ => ?_, fun h => Bool.noConfusion (q7.symm.trans h)⟩
    conv => whnf
    refine ⟨(show (0 : Int) ≤ 0 ∧ (0 : Int) < (was.length : Int) by omega), ?_⟩
    conv => whnf
    refine ⟨(show 0 < was.length by omega), ?_⟩
    conv => whnf
    refine ⟨fun g1 => ?_, fun g1 => ?_⟩
    · have g1 : iEq (was.getD 0 noField).kind 2 = true := g1
      conv => whnf
      refine ⟨(show (0 : Int) ≤ 0 ∧ (0 : Int) < (was.length : Int) by omega), ?_⟩
      conv => whnf
      refine ⟨(show 0 < was.length by omega), ?_⟩
      conv => whnf
      refine ⟨rfl, ?_⟩
      conv => whnf
      refine ⟨by omega, ?_⟩
      conv => whnf
      refine CallK.go [] (GCall.args (f100 rest { noField with place := (comesOf x).getD 0 noRef, kind := 4 } (sEq (was.getD 0 noField).dflt x.other) hfr (show fitField _ from Nat.zero_le _)) ?hh) rfl rfl rfl rfl rfl ?_
      case hh => exact allLe3 (RepLe.refl _) (PLe.rep (PLe.agg (by repeat' (first | refine PLes.cons ?_ ?_ | exact PLe.refl _ | exact PLe.nil | exact PLes.end)))) (by first | exact RepLe.bl rfl | exact RepLe.refl _)
      conv => whnf
      refine ⟨fun h => Bool.noConfusion (q8.symm.trans h), fun _ => ?_⟩
      conv => whnf
      refine ⟨fun h => Bool.noConfusion (q9.symm.trans h), fun _ => ?_⟩
      conv => whnf
      refine ⟨fun h => Bool.noConfusion (q10.symm.trans h), fun _ => ?_⟩
      conv => whnf
      refine ⟨fun e1 => ?_, fun e1 => ?_⟩
      · have e1 : ((sEq (was.getD 0 noField).dflt x.other) && iEq (withF rest { noField with place := (comesOf x).getD 0 noRef, kind := 4 }).2 0) = false := nott e1
        have ha := fin_opened h1 h2 ht kk (b := sEq (was.getD 0 noField).dflt x.other) (by rw [g1]; rfl) rfl rfl
        rw [e1] at ha
        conv => whnf
        exact ⟨[], _, _, _, rfl, rfl, rfl, by rw [ha]; exact nil_take, trivial⟩
      have e1 : ((sEq (was.getD 0 noField).dflt x.other) && iEq (withF rest { noField with place := (comesOf x).getD 0 noRef, kind := 4 }).2 0) = true := notf e1
      have ha := fin_opened h1 h2 ht kk (b := sEq (was.getD 0 noField).dflt x.other) (by rw [g1]; rfl) rfl rfl
      rw [e1] at ha
      conv => whnf
      exact ⟨[], _, _, _, rfl, rfl, rfl, by rw [ha]; exact RepLe.refl _, trivial⟩
    · have g1 : iEq (was.getD 0 noField).kind 2 = false := g1
      conv => whnf
      refine ⟨rfl, ?_⟩
      conv => whnf
      refine ⟨by omega, ?_⟩
      conv => whnf
      refine CallK.go [] (GCall.args (f100 rest { noField with place := (comesOf x).getD 0 noRef, kind := 4 } false hfr (show fitField _ from Nat.zero_le _)) ?hh) rfl rfl rfl rfl rfl ?_
      case hh => exact allLe3 (RepLe.refl _) (PLe.rep (PLe.agg (by repeat' (first | refine PLes.cons ?_ ?_ | exact PLe.refl _ | exact PLe.nil | exact PLes.end)))) (by first | exact RepLe.bl rfl | exact RepLe.refl _)
      conv => whnf
      refine ⟨fun h => Bool.noConfusion (q8.symm.trans h), fun _ => ?_⟩
      conv => whnf
      refine ⟨fun h => Bool.noConfusion (q9.symm.trans h), fun _ => ?_⟩
      conv => whnf
      refine ⟨fun h => Bool.noConfusion (q10.symm.trans h), fun _ => ?_⟩
      conv => whnf
      refine ⟨fun e1 => ?_, fun e1 => ?_⟩
      · have e1 : (false && iEq (withF rest { noField with place := (comesOf x).getD 0 noRef, kind := 4 }).2 0) = false := nott e1
        have ha := fin_opened h1 h2 ht kk (b := false) (by rw [g1]; rfl) rfl rfl
        rw [e1] at ha
        conv => whnf
        exact ⟨[], _, _, _, rfl, rfl, rfl, by rw [ha]; exact nil_take, trivial⟩
      have e1 : (false && iEq (withF rest { noField with place := (comesOf x).getD 0 noRef, kind := 4 }).2 0) = true := notf e1
      have ha := fin_opened h1 h2 ht kk (b := false) (by rw [g1]; rfl) rfl rfl
      rw [e1] at ha
      conv => whnf
      exact ⟨[], _, _, _, rfl, rfl, rfl, by rw [ha]; exact RepLe.refl _, trivial⟩
  · have kk : iEq x.kind 8 = true := iEq_t.2 k
    have q1 : iEq x.kind 1 = false := kinds 8 kk 1 (by decide)
    have q2 : iEq x.kind 2 = false := kinds 8 kk 2 (by decide)
    have q3 : iEq x.kind 3 = false := kinds 8 kk 3 (by decide)
    have q4 : iEq x.kind 4 = false := kinds 8 kk 4 (by decide)
    have q5 : iEq x.kind 5 = false := kinds 8 kk 5 (by decide)
    have q6 : iEq x.kind 6 = false := kinds 8 kk 6 (by decide)
    have q7 : iEq x.kind 7 = false := kinds 8 kk 7 (by decide)
    have q8 : iEq x.kind 8 = true := kk
    have q9 : iEq x.kind 9 = false := kinds 8 kk 9 (by decide)
    have q10 : iEq x.kind 10 = false := kinds 8 kk 10 (by decide)
    have hw := hwp q2
    have hc := comes_one h2 q3 q6
    refine ⟨fun h => Bool.noConfusion (q1.symm.trans h), fun _ => ?_⟩
    conv => whnf
    refine ⟨fun h => Bool.noConfusion (q4.symm.trans h), fun _ => ?_⟩
    conv => whnf
    refine ⟨fun h => Bool.noConfusion (q5.symm.trans h), fun _ => ?_⟩
    conv => whnf
    refine ⟨fun h => Bool.noConfusion (q2.symm.trans h), fun _ => ?_⟩
    conv => whnf
    refine ⟨fun h => Bool.noConfusion (q3.symm.trans h), fun _ => ?_⟩
    conv => whnf
    refine ⟨fun h => Bool.noConfusion (q6.symm.trans h), fun _ => ?_⟩
    conv => whnf
    refine ⟨fun h => Bool.noConfusion (q7.symm.trans h), fun _ => ?_⟩
    conv => whnf
    refine ⟨fun _ => ?_, fun h => Bool.noConfusion (q8.symm.trans h)⟩
    conv => whnf
    refine ⟨(show (0 : Int) ≤ 0 ∧ (0 : Int) < (was.length : Int) by omega), ?_⟩
    conv => whnf
    refine ⟨(show 0 < was.length by omega), ?_⟩
    conv => whnf
    refine ⟨fun g1 => ?_, fun g1 => ?_⟩
    · have g1 : iEq (was.getD 0 noField).kind 3 = true := g1
      conv => whnf
      refine ⟨(show (0 : Int) ≤ 0 ∧ (0 : Int) < (was.length : Int) by omega), ?_⟩
      conv => whnf
      refine ⟨(show 0 < was.length by omega), ?_⟩
      conv => whnf
      refine ⟨fun g2 => ?_, fun g2 => ?_⟩
      · have g2 : sEq (was.getD 0 noField).dflt x.name = true := g2
        conv => whnf
        refine ⟨(show (0 : Int) ≤ 0 ∧ (0 : Int) < (was.length : Int) by omega), ?_⟩
        conv => whnf
        refine ⟨(show 0 < was.length by omega), ?_⟩
        conv => whnf
        refine CallK.go [] (f103 x.forth hx.2.1) rfl rfl rfl rfl rfl ?_
        conv => whnf
        refine CallK.lent (f102 (was.getD 0 noField).cases (fromsOf x.forth) (hwa 0).ok) rfl ?_
        conv => whnf
        refine ⟨rfl, ?_⟩
        conv => whnf
        refine ⟨by omega, ?_⟩
        conv => whnf
        refine CallK.go [] (f103 x.back hx.2.2) rfl rfl rfl rfl rfl ?_
        conv => whnf
        refine CallK.go [] (GCall.args (f100 rest { noField with place := (comesOf x).getD 0 noRef, kind := 3, dflt := x.other, cases := fromsOf x.back } (sameStrs (was.getD 0 noField).cases (fromsOf x.forth)) hfr (show fitField _ from (by show (fromsOf x.back).length ≤ 8796093022208; rw [froms_len]; exact Nat.le_trans hx.2.2 (by decide)))) ?hh) rfl rfl rfl rfl rfl ?_
        case hh => exact allLe3 (RepLe.refl _) (PLe.rep (PLe.agg (by repeat' (first | refine PLes.cons ?_ ?_ | exact PLe.refl _ | exact PLe.nil | exact PLes.end)))) (by first | exact RepLe.bl rfl | exact RepLe.refl _)
        conv => whnf
        refine ⟨rfl, ?_⟩
        conv => whnf
        refine ⟨fun h => Bool.noConfusion (q9.symm.trans h), fun _ => ?_⟩
        conv => whnf
        refine ⟨fun h => Bool.noConfusion (q10.symm.trans h), fun _ => ?_⟩
        conv => whnf
        refine ⟨fun e1 => ?_, fun e1 => ?_⟩
        · have e1 : ((sameStrs (was.getD 0 noField).cases (fromsOf x.forth)) && iEq (withF rest { noField with place := (comesOf x).getD 0 noRef, kind := 3, dflt := x.other, cases := fromsOf x.back }).2 0) = false := nott e1
          have ha := fin_cased h1 h2 ht kk (b := sameStrs (was.getD 0 noField).cases (fromsOf x.forth)) (by rw [g1, g2]; rfl) rfl rfl
          rw [e1] at ha
          conv => whnf
          exact ⟨[], _, _, _, rfl, rfl, rfl, by rw [ha]; exact nil_take, trivial⟩
        have e1 : ((sameStrs (was.getD 0 noField).cases (fromsOf x.forth)) && iEq (withF rest { noField with place := (comesOf x).getD 0 noRef, kind := 3, dflt := x.other, cases := fromsOf x.back }).2 0) = true := notf e1
        have ha := fin_cased h1 h2 ht kk (b := sameStrs (was.getD 0 noField).cases (fromsOf x.forth)) (by rw [g1, g2]; rfl) rfl rfl
        rw [e1] at ha
        conv => whnf
        exact ⟨[], _, _, _, rfl, rfl, rfl, by rw [ha]; exact RepLe.refl _, trivial⟩
      · have g2 : sEq (was.getD 0 noField).dflt x.name = false := g2
        conv => whnf
        refine ⟨rfl, ?_⟩
        conv => whnf
        refine ⟨by omega, ?_⟩
        conv => whnf
        refine CallK.go [] (f103 x.back hx.2.2) rfl rfl rfl rfl rfl ?_
        conv => whnf
        refine CallK.go [] (GCall.args (f100 rest { noField with place := (comesOf x).getD 0 noRef, kind := 3, dflt := x.other, cases := fromsOf x.back } false hfr (show fitField _ from (by show (fromsOf x.back).length ≤ 8796093022208; rw [froms_len]; exact Nat.le_trans hx.2.2 (by decide)))) ?hh) rfl rfl rfl rfl rfl ?_
        case hh => exact allLe3 (RepLe.refl _) (PLe.rep (PLe.agg (by repeat' (first | refine PLes.cons ?_ ?_ | exact PLe.refl _ | exact PLe.nil | exact PLes.end)))) (by first | exact RepLe.bl rfl | exact RepLe.refl _)
        conv => whnf
        refine ⟨rfl, ?_⟩
        conv => whnf
        refine ⟨fun h => Bool.noConfusion (q9.symm.trans h), fun _ => ?_⟩
        conv => whnf
        refine ⟨fun h => Bool.noConfusion (q10.symm.trans h), fun _ => ?_⟩
        conv => whnf
        refine ⟨fun e1 => ?_, fun e1 => ?_⟩
        · have e1 : (false && iEq (withF rest { noField with place := (comesOf x).getD 0 noRef, kind := 3, dflt := x.other, cases := fromsOf x.back }).2 0) = false := nott e1
          have ha := fin_cased h1 h2 ht kk (b := false) (by rw [g1, g2]; rfl) rfl rfl
          rw [e1] at ha
          conv => whnf
          exact ⟨[], _, _, _, rfl, rfl, rfl, by rw [ha]; exact nil_take, trivial⟩
        have e1 : (false && iEq (withF rest { noField with place := (comesOf x).getD 0 noRef, kind := 3, dflt := x.other, cases := fromsOf x.back }).2 0) = true := notf e1
        have ha := fin_cased h1 h2 ht kk (b := false) (by rw [g1, g2]; rfl) rfl rfl
        rw [e1] at ha
        conv => whnf
        exact ⟨[], _, _, _, rfl, rfl, rfl, by rw [ha]; exact RepLe.refl _, trivial⟩
    · have g1 : iEq (was.getD 0 noField).kind 3 = false := g1
      conv => whnf
      refine ⟨rfl, ?_⟩
      conv => whnf
      refine ⟨by omega, ?_⟩
      conv => whnf
      refine CallK.go [] (f103 x.back hx.2.2) rfl rfl rfl rfl rfl ?_
      conv => whnf
      refine CallK.go [] (GCall.args (f100 rest { noField with place := (comesOf x).getD 0 noRef, kind := 3, dflt := x.other, cases := fromsOf x.back } false hfr (show fitField _ from (by show (fromsOf x.back).length ≤ 8796093022208; rw [froms_len]; exact Nat.le_trans hx.2.2 (by decide)))) ?hh) rfl rfl rfl rfl rfl ?_
      case hh => exact allLe3 (RepLe.refl _) (PLe.rep (PLe.agg (by repeat' (first | refine PLes.cons ?_ ?_ | exact PLe.refl _ | exact PLe.nil | exact PLes.end)))) (by first | exact RepLe.bl rfl | exact RepLe.refl _)
      conv => whnf
      refine ⟨rfl, ?_⟩
      conv => whnf
      refine ⟨fun h => Bool.noConfusion (q9.symm.trans h), fun _ => ?_⟩
      conv => whnf
      refine ⟨fun h => Bool.noConfusion (q10.symm.trans h), fun _ => ?_⟩
      conv => whnf
      refine ⟨fun e1 => ?_, fun e1 => ?_⟩
      · have e1 : (false && iEq (withF rest { noField with place := (comesOf x).getD 0 noRef, kind := 3, dflt := x.other, cases := fromsOf x.back }).2 0) = false := nott e1
        have ha := fin_cased h1 h2 ht kk (b := false) (by rw [g1]; rfl) rfl rfl
        rw [e1] at ha
        conv => whnf
        exact ⟨[], _, _, _, rfl, rfl, rfl, by rw [ha]; exact nil_take, trivial⟩
      have e1 : (false && iEq (withF rest { noField with place := (comesOf x).getD 0 noRef, kind := 3, dflt := x.other, cases := fromsOf x.back }).2 0) = true := notf e1
      have ha := fin_cased h1 h2 ht kk (b := false) (by rw [g1]; rfl) rfl rfl
      rw [e1] at ha
      conv => whnf
      exact ⟨[], _, _, _, rfl, rfl, rfl, by rw [ha]; exact RepLe.refl _, trivial⟩
  · have kk : iEq x.kind 9 = true := iEq_t.2 k
    have q1 : iEq x.kind 1 = false := kinds 9 kk 1 (by decide)
    have q2 : iEq x.kind 2 = false := kinds 9 kk 2 (by decide)
    have q3 : iEq x.kind 3 = false := kinds 9 kk 3 (by decide)
    have q4 : iEq x.kind 4 = false := kinds 9 kk 4 (by decide)
    have q5 : iEq x.kind 5 = false := kinds 9 kk 5 (by decide)
    have q6 : iEq x.kind 6 = false := kinds 9 kk 6 (by decide)
    have q7 : iEq x.kind 7 = false := kinds 9 kk 7 (by decide)
    have q8 : iEq x.kind 8 = false := kinds 9 kk 8 (by decide)
    have q9 : iEq x.kind 9 = true := kk
    have q10 : iEq x.kind 10 = false := kinds 9 kk 10 (by decide)
    have hw := hwp q2
    have hw2 : 1 < was.length := by rw [hwn, goes_len h2, q2, q3, q9]; decide
    have hc := comes_one h2 q3 q6
    refine ⟨fun h => Bool.noConfusion (q1.symm.trans h), fun _ => ?_⟩
    conv => whnf
    refine ⟨fun h => Bool.noConfusion (q4.symm.trans h), fun _ => ?_⟩
    conv => whnf
    refine ⟨fun h => Bool.noConfusion (q5.symm.trans h), fun _ => ?_⟩
    conv => whnf
    refine ⟨fun h => Bool.noConfusion (q2.symm.trans h), fun _ => ?_⟩
    conv => whnf
    refine ⟨fun h => Bool.noConfusion (q3.symm.trans h), fun _ => ?_⟩
    conv => whnf
    refine ⟨fun h => Bool.noConfusion (q6.symm.trans h), fun _ => ?_⟩
    conv => whnf
    refine ⟨fun h => Bool.noConfusion (q7.symm.trans h), fun _ => ?_⟩
    conv => whnf
    refine ⟨fun h => Bool.noConfusion (q8.symm.trans h), fun _ => ?_⟩
    conv => whnf
    refine ⟨fun _ => ?_, fun h => Bool.noConfusion (q9.symm.trans h)⟩
    conv => whnf
    refine ⟨(show (0 : Int) ≤ 0 ∧ (0 : Int) < (was.length : Int) by omega), ?_⟩
    conv => whnf
    refine ⟨(show 0 < was.length by omega), ?_⟩
    conv => whnf
    refine ⟨fun g1 => ?_, fun g1 => ?_⟩
    · have g1 : iEq (was.getD 0 noField).kind 1 = true := g1
      conv => whnf
      refine ⟨(show (0 : Int) ≤ 1 ∧ (1 : Int) < (was.length : Int) by omega), ?_⟩
      conv => whnf
      refine ⟨(show 1 < was.length by omega), ?_⟩
      conv => whnf
      refine ⟨fun g2 => ?_, fun g2 => ?_⟩
      · have g2 : iEq (was.getD 1 noField).kind 1 = true := g2
        conv => whnf
        refine ⟨(show (0 : Int) ≤ 1 ∧ (1 : Int) < (was.length : Int) by omega), ?_⟩
        conv => whnf
        refine ⟨(show 1 < was.length by omega), ?_⟩
        conv => whnf
        refine ⟨(show (0 : Int) ≤ 0 ∧ (0 : Int) < (was.length : Int) by omega), ?_⟩
        conv => whnf
        refine ⟨(show 0 < was.length by omega), ?_⟩
        conv => whnf
        intro z hz
        subst hz
        conv => whnf
        refine ⟨rfl, ?_⟩
        conv => whnf
        refine ⟨by omega, ?_⟩
        conv => whnf
        refine ⟨(show (0 : Int) ≤ 0 ∧ (0 : Int) < (was.length : Int) by omega), ?_⟩
        conv => whnf
        refine ⟨(show 0 < was.length by omega), ?_⟩
        conv => whnf
        refine CallK.go [] (GCall.args (f100 rest { noField with place := (comesOf x).getD 0 noRef, kind := 1, worth := (was.getD 0 noField).worth } (iEq (was.getD 1 noField).worth (wrapO .i64 ((was.getD 0 noField).worth * x.factor))) hfr (show fitField _ from Nat.zero_le _)) ?hh) rfl rfl rfl rfl rfl ?_
        case hh => exact allLe3 (RepLe.refl _) (PLe.rep (PLe.agg (by repeat' (first | refine PLes.cons ?_ ?_ | exact PLe.refl _ | exact PLe.nil | exact PLes.end)))) (by first | exact RepLe.bl rfl | exact RepLe.refl _)
        conv => whnf
        refine ⟨rfl, ?_⟩
        conv => whnf
        refine ⟨fun h => Bool.noConfusion (q10.symm.trans h), fun _ => ?_⟩
        conv => whnf
        refine ⟨fun e1 => ?_, fun e1 => ?_⟩
        · have e1 : ((iEq (was.getD 1 noField).worth (wrapO .i64 ((was.getD 0 noField).worth * x.factor))) && iEq (withF rest { noField with place := (comesOf x).getD 0 noRef, kind := 1, worth := (was.getD 0 noField).worth }).2 0) = false := nott e1
          have ha := fin_gathered h1 h2 ht kk (hwo hw) (b := iEq (was.getD 1 noField).worth (wrapO .i64 ((was.getD 0 noField).worth * x.factor))) (by rw [g1, g2]; rfl) rfl rfl
          rw [e1] at ha
          conv => whnf
          exact ⟨[], _, _, _, rfl, rfl, rfl, by rw [ha]; exact nil_take, trivial⟩
        have e1 : ((iEq (was.getD 1 noField).worth (wrapO .i64 ((was.getD 0 noField).worth * x.factor))) && iEq (withF rest { noField with place := (comesOf x).getD 0 noRef, kind := 1, worth := (was.getD 0 noField).worth }).2 0) = true := notf e1
        have ha := fin_gathered h1 h2 ht kk (hwo hw) (b := iEq (was.getD 1 noField).worth (wrapO .i64 ((was.getD 0 noField).worth * x.factor))) (by rw [g1, g2]; rfl) rfl rfl
        rw [e1] at ha
        conv => whnf
        exact ⟨[], _, _, _, rfl, rfl, rfl, by rw [ha]; exact RepLe.refl _, trivial⟩
      · have g2 : iEq (was.getD 1 noField).kind 1 = false := g2
        conv => whnf
        refine ⟨rfl, ?_⟩
        conv => whnf
        refine ⟨by omega, ?_⟩
        conv => whnf
        refine ⟨(show (0 : Int) ≤ 0 ∧ (0 : Int) < (was.length : Int) by omega), ?_⟩
        conv => whnf
        refine ⟨(show 0 < was.length by omega), ?_⟩
        conv => whnf
        refine CallK.go [] (GCall.args (f100 rest { noField with place := (comesOf x).getD 0 noRef, kind := 1, worth := (was.getD 0 noField).worth } false hfr (show fitField _ from Nat.zero_le _)) ?hh) rfl rfl rfl rfl rfl ?_
        case hh => exact allLe3 (RepLe.refl _) (PLe.rep (PLe.agg (by repeat' (first | refine PLes.cons ?_ ?_ | exact PLe.refl _ | exact PLe.nil | exact PLes.end)))) (by first | exact RepLe.bl rfl | exact RepLe.refl _)
        conv => whnf
        refine ⟨rfl, ?_⟩
        conv => whnf
        refine ⟨fun h => Bool.noConfusion (q10.symm.trans h), fun _ => ?_⟩
        conv => whnf
        refine ⟨fun e1 => ?_, fun e1 => ?_⟩
        · have e1 : (false && iEq (withF rest { noField with place := (comesOf x).getD 0 noRef, kind := 1, worth := (was.getD 0 noField).worth }).2 0) = false := nott e1
          have ha := fin_gathered h1 h2 ht kk (hwo hw) (b := false) (by rw [g1, g2]; rfl) rfl rfl
          rw [e1] at ha
          conv => whnf
          exact ⟨[], _, _, _, rfl, rfl, rfl, by rw [ha]; exact nil_take, trivial⟩
        have e1 : (false && iEq (withF rest { noField with place := (comesOf x).getD 0 noRef, kind := 1, worth := (was.getD 0 noField).worth }).2 0) = true := notf e1
        have ha := fin_gathered h1 h2 ht kk (hwo hw) (b := false) (by rw [g1, g2]; rfl) rfl rfl
        rw [e1] at ha
        conv => whnf
        exact ⟨[], _, _, _, rfl, rfl, rfl, by rw [ha]; exact RepLe.refl _, trivial⟩
    · have g1 : iEq (was.getD 0 noField).kind 1 = false := g1
      conv => whnf
      refine ⟨rfl, ?_⟩
      conv => whnf
      refine ⟨by omega, ?_⟩
      conv => whnf
      refine ⟨(show (0 : Int) ≤ 0 ∧ (0 : Int) < (was.length : Int) by omega), ?_⟩
      conv => whnf
      refine ⟨(show 0 < was.length by omega), ?_⟩
      conv => whnf
      refine CallK.go [] (GCall.args (f100 rest { noField with place := (comesOf x).getD 0 noRef, kind := 1, worth := (was.getD 0 noField).worth } false hfr (show fitField _ from Nat.zero_le _)) ?hh) rfl rfl rfl rfl rfl ?_
      case hh => exact allLe3 (RepLe.refl _) (PLe.rep (PLe.agg (by repeat' (first | refine PLes.cons ?_ ?_ | exact PLe.refl _ | exact PLe.nil | exact PLes.end)))) (by first | exact RepLe.bl rfl | exact RepLe.refl _)
      conv => whnf
      refine ⟨rfl, ?_⟩
      conv => whnf
      refine ⟨fun h => Bool.noConfusion (q10.symm.trans h), fun _ => ?_⟩
      conv => whnf
      refine ⟨fun e1 => ?_, fun e1 => ?_⟩
      · have e1 : (false && iEq (withF rest { noField with place := (comesOf x).getD 0 noRef, kind := 1, worth := (was.getD 0 noField).worth }).2 0) = false := nott e1
        have ha := fin_gathered h1 h2 ht kk (hwo hw) (b := false) (by rw [g1]; rfl) rfl rfl
        rw [e1] at ha
        conv => whnf
        exact ⟨[], _, _, _, rfl, rfl, rfl, by rw [ha]; exact nil_take, trivial⟩
      have e1 : (false && iEq (withF rest { noField with place := (comesOf x).getD 0 noRef, kind := 1, worth := (was.getD 0 noField).worth }).2 0) = true := notf e1
      have ha := fin_gathered h1 h2 ht kk (hwo hw) (b := false) (by rw [g1]; rfl) rfl rfl
      rw [e1] at ha
      conv => whnf
      exact ⟨[], _, _, _, rfl, rfl, rfl, by rw [ha]; exact RepLe.refl _, trivial⟩
  · have kk : iEq x.kind 10 = true := iEq_t.2 k
    have q1 : iEq x.kind 1 = false := kinds 10 kk 1 (by decide)
    have q2 : iEq x.kind 2 = false := kinds 10 kk 2 (by decide)
    have q3 : iEq x.kind 3 = false := kinds 10 kk 3 (by decide)
    have q4 : iEq x.kind 4 = false := kinds 10 kk 4 (by decide)
    have q5 : iEq x.kind 5 = false := kinds 10 kk 5 (by decide)
    have q6 : iEq x.kind 6 = false := kinds 10 kk 6 (by decide)
    have q7 : iEq x.kind 7 = false := kinds 10 kk 7 (by decide)
    have q8 : iEq x.kind 8 = false := kinds 10 kk 8 (by decide)
    have q9 : iEq x.kind 9 = false := kinds 10 kk 9 (by decide)
    have q10 : iEq x.kind 10 = true := kk
    have hw := hwp q2
    have hc := comes_one h2 q3 q6
    refine ⟨fun h => Bool.noConfusion (q1.symm.trans h), fun _ => ?_⟩
    conv => whnf
    refine ⟨fun h => Bool.noConfusion (q4.symm.trans h), fun _ => ?_⟩
    conv => whnf
    refine ⟨fun h => Bool.noConfusion (q5.symm.trans h), fun _ => ?_⟩
    conv => whnf
    refine ⟨fun h => Bool.noConfusion (q2.symm.trans h), fun _ => ?_⟩
    conv => whnf
    refine ⟨fun h => Bool.noConfusion (q3.symm.trans h), fun _ => ?_⟩
    conv => whnf
    refine ⟨fun h => Bool.noConfusion (q6.symm.trans h), fun _ => ?_⟩
    conv => whnf
    refine ⟨fun h => Bool.noConfusion (q7.symm.trans h), fun _ => ?_⟩
    conv => whnf
    refine ⟨fun h => Bool.noConfusion (q8.symm.trans h), fun _ => ?_⟩
    conv => whnf
    refine ⟨fun h => Bool.noConfusion (q9.symm.trans h), fun _ => ?_⟩
    conv => whnf
    refine ⟨fun _ => ?_, fun h => Bool.noConfusion (q10.symm.trans h)⟩
    conv => whnf
    refine ⟨(show (0 : Int) ≤ 0 ∧ (0 : Int) < (was.length : Int) by omega), ?_⟩
    conv => whnf
    refine ⟨(show 0 < was.length by omega), ?_⟩
    conv => whnf
    refine ⟨by omega, ?_⟩
    conv => whnf
    refine CallK.go [] (GCall.args (f100 rest { noField with place := (comesOf x).getD 0 noRef, kind := 2, dflt := x.other } (iEq (was.getD 0 noField).kind 4) hfr (show fitField _ from Nat.zero_le _)) ?hh) rfl rfl rfl rfl rfl ?_
    case hh => exact allLe3 (RepLe.refl _) (PLe.rep (PLe.agg (by repeat' (first | refine PLes.cons ?_ ?_ | exact PLe.refl _ | exact PLe.nil | exact PLes.end)))) (by first | exact RepLe.bl rfl | exact RepLe.refl _)
    conv => whnf
    refine ⟨rfl, ?_⟩
    conv => whnf
    refine ⟨fun e1 => ?_, fun e1 => ?_⟩
    · have e1 : ((iEq (was.getD 0 noField).kind 4) && iEq (withF rest { noField with place := (comesOf x).getD 0 noRef, kind := 2, dflt := x.other }).2 0) = false := nott e1
      have ha := fin_closed h1 h2 ht kk (b := iEq (was.getD 0 noField).kind 4) rfl rfl rfl
      rw [e1] at ha
      conv => whnf
      exact ⟨[], _, _, _, rfl, rfl, rfl, by rw [ha]; exact nil_take, trivial⟩
    have e1 : ((iEq (was.getD 0 noField).kind 4) && iEq (withF rest { noField with place := (comesOf x).getD 0 noRef, kind := 2, dflt := x.other }).2 0) = true := notf e1
    have ha := fin_closed h1 h2 ht kk (b := iEq (was.getD 0 noField).kind 4) rfl rfl rfl
    rw [e1] at ha
    conv => whnf
    exact ⟨[], _, _, _, rfl, rfl, rfl, by rw [ha]; exact RepLe.refl _, trivial⟩
end Go.Proofs.Ytoophkcicdbnfaa

/- What a lens does not touch stays: plain law. -/
set_option linter.unusedVariables false
set_option linter.unusedSimpArgs false
namespace Go.Proofs.Ytoophkcicdbnfaa
open Go Go.Av
set_option maxRecDepth 100000

theorem place_some {l : List SField} {r : SRef} {j : Nat} (h : placeIn l r = some j) : l.getD j noField ∈ l ∧ (l.getD j noField).place = r := by
  obtain ⟨_, hj, hp, _⟩ := findUpto_some _ _ _ _ h
  exact ⟨at_mem (by omega), same_ref.1 hp⟩
theorem notAt_iff {l : List SField} {r : SRef} {f : SField} : f ∈ notAt l r ↔ f ∈ l ∧ f.place ≠ r := by
  refine ⟨fun h => ?_, fun h => notAt_mem h.1 h.2⟩
  unfold notAt at h
  rw [List.mem_filter] at h
  refine ⟨h.1, fun e => ?_⟩
  have := h.2
  rw [e, sameRef_self] at this
  cases this
theorem put_iff {l : List SField} {f g : SField} : g ∈ putIn l f ↔ g ∈ l ∨ g = f := by
  refine ⟨fun h => ?_, put_mem⟩
  rw [(put_perm l f).mem_iff, List.mem_append, List.mem_singleton] at h
  exact h
theorem take_keeps {l : List SField} : ∀ (gs : List SRef) (rest was : List SField) (p : List SField × List SField), takeAll l gs rest was = some p → rightFields rest = true → gs.Nodup → (∀ f, f ∈ l → f.place ∈ gs → f ∈ rest) →
    p.1.length + gs.length = rest.length ∧ rightFields p.1 = true ∧ ∀ f, f ∈ p.1 ↔ f ∈ rest ∧ f.place ∉ gs
  | [], rest, was, p, h, hr, _, _ => by
    have h : some (rest, was) = some p := h
    obtain rfl := Option.some.inj h
    exact ⟨rfl, hr, fun f => by simp⟩
  | g :: gs, rest, was, p, h, hr, hn, hin => by
    unfold takeAll at h
    cases q : placeIn l g with
    | none => rw [q] at h; cases h
    | some j =>
      rw [q] at h
      have h : takeAll l gs (withoutF rest g).1 (was ++ [l.getD j noField]) = some p := h
      obtain ⟨hm, hp⟩ := place_some q
      have hm2 := hin _ hm (by rw [hp]; exact List.mem_cons_self)
      obtain ⟨k, hk, _⟩ := find_mem hr hm2
      rw [hp] at hk
      rw [without_is hr hk] at h
      have hlen : (notAt rest g).length + 1 = rest.length := by
        rw [notAt_erase hr hk, List.length_eraseIdx_of_lt (place_lt hk)]
        have := place_lt hk
        omega
      have hr2 : rightFields (notAt rest g) = true := by
        have := without_right hr g
        rw [without_is hr hk] at this
        exact this
      have hn := List.nodup_cons.1 hn
      obtain ⟨a, b, c⟩ := take_keeps gs _ _ p h hr2 hn.2 (fun f hf hg => notAt_iff.2 ⟨hin f hf (List.mem_cons_of_mem _ hg), fun e => hn.1 (e ▸ hg)⟩)
      refine ⟨by rw [List.length_cons]; omega, b, fun f => ?_⟩
      rw [c, notAt_iff, List.mem_cons, not_or, and_assoc]
theorem put_keeps : ∀ (cs : List SRef) (now rest : List SField), (putAll cs now rest).2 = 0 → rightFields rest = true →
    (putAll cs now rest).1.length = rest.length + cs.length ∧ (∀ r ∈ cs, ∃ f ∈ (putAll cs now rest).1, f.place = r) ∧ (∀ f, f.place ∉ cs → (f ∈ (putAll cs now rest).1 ↔ f ∈ rest)) ∧ ∀ f, f ∈ rest → f ∈ (putAll cs now rest).1
  | [], now, rest, h, hr => ⟨rfl, fun r hr => by simp at hr, fun f _ => Iff.rfl, fun f h => h⟩
  | c :: cs, now, rest, h, hr => by
    unfold putAll at h ⊢
    cases q : iEq (withF rest { now.getD 0 noField with place := c }).2 0 with
    | false => rw [q] at h; exact absurd h (show ¬ (16 : Int) = 0 by decide)
    | true =>
      rw [q] at h
      obtain ⟨_, hf, hp, h15, e⟩ := with_zero q
      have h : (putAll cs (now.drop 1) (withF rest { now.getD 0 noField with place := c }).1).2 = 0 := h
      show (putAll cs (now.drop 1) (withF rest { now.getD 0 noField with place := c }).1).1.length = _ ∧ (∀ r ∈ c :: cs, ∃ f ∈ (putAll cs (now.drop 1) (withF rest { now.getD 0 noField with place := c }).1).1, f.place = r) ∧ (∀ f, f.place ∉ c :: cs → (f ∈ (putAll cs (now.drop 1) (withF rest { now.getD 0 noField with place := c }).1).1 ↔ f ∈ rest)) ∧ ∀ f, f ∈ rest → f ∈ (putAll cs (now.drop 1) (withF rest { now.getD 0 noField with place := c }).1).1
      rw [e] at h ⊢
      have hr2 := put_right hr hf hp h15
      obtain ⟨a, b, d, g⟩ := put_keeps cs _ _ h hr2
      refine ⟨?_, fun r hr => ?_, fun f hf => ?_, fun f hf => g f (put_mem (.inl hf))⟩
      · rw [a]; show (putIn _ _).length + _ = _; rw [(put_perm _ _).length_eq, List.length_append, List.length_cons, List.length_cons, List.length_nil]; omega
      · rcases List.mem_cons.1 hr with rfl | hr
        · exact ⟨_, g _ (put_mem (.inr rfl)), rfl⟩
        · exact b r hr
      · rw [List.mem_cons, not_or] at hf
        rw [d f hf.2, put_iff]
        exact ⟨fun h => h.elim id fun e => absurd (by rw [e]) hf.1, .inl⟩
theorem goes_nodup {x : SLens} (h : lensOk x = true) : (goesOf x).Nodup := by
  unfold goesOf
  rw [h]
  cases h2 : iEq x.kind 2 with
  | true => exact List.nodup_nil
  | false =>
    cases h3 : iEq x.kind 3 with
    | true => exact List.nodup_cons.2 ⟨by simp, List.nodup_nil⟩
    | false =>
      cases h9 : iEq x.kind 9 with
      | false => exact List.nodup_cons.2 ⟨by simp, List.nodup_nil⟩
      | true =>
        show ([_, _] : List SRef).Nodup
        rw [List.nodup_cons]
        exact ⟨fun h => two_places (two_facts ‹_› (.inr h9)) (List.mem_singleton.1 h), List.nodup_cons.2 ⟨by simp, List.nodup_nil⟩⟩
/-- A lens that fits. -/
theorem apply_keeps {l : List SField} {x : SLens} (h0 : (applyF l x).2 = 0) :
    (applyF l x).1.length + (goesOf x).length = l.length + (comesOf x).length ∧ (∀ r ∈ comesOf x, ∃ j, placeIn (applyF l x).1 r = some j) ∧
    ∀ r, r ∉ goesOf x → r ∉ comesOf x → fieldAt (applyF l x).1 (placeIn (applyF l x).1 r) = fieldAt l (placeIn l r) := by
  obtain ⟨hx, hl⟩ := apply_ok h0
  have hm := apply_right h0
  have key : (applyF l x).1.length + (goesOf x).length = l.length + (comesOf x).length ∧ (∀ r ∈ comesOf x, ∃ f ∈ (applyF l x).1, f.place = r) ∧
      ∀ f, f.place ∉ goesOf x → f.place ∉ comesOf x → (f ∈ (applyF l x).1 ↔ f ∈ l) := by
    unfold applyF at h0 ⊢
    rw [hl, hx] at h0 ⊢
    cases ht : takeAll l (goesOf x) l [] with
    | none => rw [ht] at h0; exact absurd h0 (show ¬ (16 : Int) = 0 by decide)
    | some p =>
      obtain ⟨rest, was⟩ := p
      rw [ht] at h0
      cases hb : (turnedOf x was).2 with
      | false =>
        have h0 : (if (turnedOf x was).2 = true then putAll (comesOf x) (turnedOf x was).1 rest else ([], 16)).2 = 0 := h0
        rw [hb] at h0; exact absurd h0 (show ¬ (16 : Int) = 0 by decide)
      | true =>
        have h0 : (if (turnedOf x was).2 = true then putAll (comesOf x) (turnedOf x was).1 rest else ([], 16)).2 = 0 := h0
        show (if (turnedOf x was).2 = true then putAll (comesOf x) (turnedOf x was).1 rest else ([], 16)).1.length + _ = _ ∧ (∀ r ∈ comesOf x, ∃ f ∈ (if (turnedOf x was).2 = true then putAll (comesOf x) (turnedOf x was).1 rest else ([], 16)).1, f.place = r) ∧ ∀ f, f.place ∉ goesOf x → f.place ∉ comesOf x → (f ∈ (if (turnedOf x was).2 = true then putAll (comesOf x) (turnedOf x was).1 rest else ([], 16)).1 ↔ f ∈ l)
        rw [if_pos hb] at h0 ⊢
        obtain ⟨a, b, c⟩ := take_keeps _ _ _ _ ht hl (goes_nodup hx) (fun f hf _ => hf)
        obtain ⟨a2, b2, c2, _⟩ := put_keeps _ (turnedOf x was).1 _ h0 b
        simp only at a b c
        refine ⟨by omega, b2, fun f hg hc => ?_⟩
        rw [c2 f hc, c]
        exact ⟨fun h => h.1, fun h => ⟨h, hg⟩⟩
  obtain ⟨k1, k2, k3⟩ := key
  refine ⟨k1, fun r hr => ?_, fun r hg hc => ?_⟩
  · obtain ⟨f, hf, rfl⟩ := k2 r hr
    obtain ⟨j, hj, _⟩ := find_mem hm hf
    exact ⟨j, hj⟩
  · cases q : placeIn l r with
    | some j =>
      obtain ⟨hj, hp⟩ := place_some q
      have hj2 := (k3 _ (by rw [hp]; exact hg) (by rw [hp]; exact hc)).2 hj
      obtain ⟨k, hk, e⟩ := find_mem hm hj2
      rw [hp] at hk
      rw [hk]
      show ((applyF l x).1.getD k noField, (0 : Int)) = (l.getD j noField, 0)
      rw [e]
    | none =>
      cases q2 : placeIn (applyF l x).1 r with
      | none => rfl
      | some k =>
        obtain ⟨hk, hp⟩ := place_some q2
        have hk2 := (k3 _ (by rw [hp]; exact hg) (by rw [hp]; exact hc)).1 hk
        obtain ⟨j, hj, _⟩ := find_mem hl hk2
        rw [hp, q] at hj
        cases hj
theorem hasRef_iff {l : List SRef} {r : SRef} : hasRef l r = true ↔ r ∈ l := by
  unfold hasRef
  rw [Bool.not_eq_true', ← Bool.not_eq_true, allUpto_iff]
  constructor
  · intro h
    simp only [Nat.zero_le, Nat.zero_add, forall_const] at h
    rw [Classical.not_forall] at h
    obtain ⟨i, h⟩ := h
    rw [Classical.not_imp] at h
    obtain ⟨hi, h⟩ := h
    have h : sameRef (l.getD i noRef) r = true := by simpa using h
    have h := same_ref.1 h
    rw [List.getD_eq_getElem?_getD, List.getElem?_eq_getElem hi] at h
    exact h ▸ List.getElem_mem hi
  · intro h hall
    obtain ⟨i, hi, e⟩ := List.getElem_of_mem h
    have := hall i (Nat.zero_le _) (by omega)
    rw [List.getD_eq_getElem?_getD, List.getElem?_eq_getElem hi] at this
    rw [show ((some l[i]).getD noRef : SRef) = r from e, sameRef_self] at this
    cases this
end Go.Proofs.Ytoophkcicdbnfaa

/- LensCases: the awakening, and the law itself. -/
set_option linter.unusedVariables false
set_option linter.unusedSimpArgs false
namespace Go.Proofs.Ytoophkcicdbnfaa
open Go Go.Av
set_option maxRecDepth 100000
set_option maxHeartbeats 2000000

def splitLens : SLens := { noLens with kind := 6, place := ⟨1, noS, word [113, 116, 121]⟩, name := word [117, 110, 105, 116], other := word [98, 111, 120], factor := 12 }
def boxRef : SRef := ⟨1, noS, word [98, 111, 120]⟩
theorem split_fit : fitLens splitLens := ⟨Nat.zero_le _, Nat.zero_le _, Nat.zero_le _⟩
theorem split_code : (applyF rootFields splitLens).2 = 0 := by decide +kernel
theorem split_len : (applyF rootFields splitLens).1.length = 6 := by decide +kernel
theorem split_cases : ∀ y ∈ (applyF rootFields splitLens).1, y.cases.length ≤ 8796093022208 := by decide +kernel
theorem split_all : fitFields (applyF rootFields splitLens).1 := ⟨by rw [split_len]; decide, split_cases⟩
theorem split_box : (fieldAt (applyF rootFields splitLens).1 (placeIn (applyF rootFields splitLens).1 boxRef)).2 = 0 := by decide +kernel
theorem split_worth : (fieldAt (applyF rootFields splitLens).1 (placeIn (applyF rootFields splitLens).1 boxRef)).1.worth = 12 := by decide +kernel

theorem f48 : PCall Try.prog 48 [] (.p (.val (.bool true))) [] := by
  refine gcode hT hM Try.func48 rfl rfl (rv := [(0, none)]) rfl rfl rfl fun G hG => ?_
  conv => whnf
  refine CallK.go [] (f19) rfl rfl rfl rfl rfl ?_
  conv => whnf
  refine CallK.go [] (GCall.args (f49 rootFields splitLens root_fit split_fit) ?hh) rfl rfl rfl rfl rfl ?_
  case hh => exact allLe2 (RepLe.refl _) (PLe.rep (PLe.agg (by repeat' (first | refine PLes.cons ?_ ?_ | exact PLe.refl _ | exact PLe.nil | exact PLes.end))))
  conv => whnf
  refine CallK.go [] (f30 (applyF rootFields splitLens).1 boxRef split_all) rfl rfl rfl rfl rfl ?_
  conv => whnf
  refine ⟨fun a1 => ?_, fun a1 => ?_⟩
  · conv => whnf
    refine ⟨fun a2 => ?_, fun a2 => ?_⟩
    · conv => whnf
      refine ⟨fun a3 => ?_, fun a3 => ?_⟩
      · conv => whnf
        exact ⟨[], _, _, _, rfl, rfl, rfl, RepLe.vb (by rw [iEq_t]; exact split_worth), trivial⟩
      · rw [iEq_f] at a3
        exact absurd (by rw [split_len]; rfl) a3
    · rw [iEq_f] at a2
      exact absurd split_box a2
  · rw [iEq_f] at a1
    exact absurd split_code a1

theorem f11 (t : List SPair) (s : ByteArray) (ht : t.length ≤ maxLen) : PCall Try.prog 11 [encPairs t, .val (.string s)] (.p (.val (.bool true))) [] := by
  refine gcode hT hM Try.func11 rfl rfl (rv := [(4, none)]) rfl rfl rfl fun G hG => ?_
  conv => whnf
  refine CallK.lent (f48) rfl ?_
  conv => whnf
  refine ⟨fun h => ?_, fun h => ?_⟩
  · cases h
  conv => whnf
  refine ⟨fun h1 => ?_, fun h1 => ?_⟩
  · conv => whnf
    exact ⟨[], _, _, _, rfl, rfl, rfl, RepLe.bl rfl, trivial⟩
  conv => whnf
  refine CallK.go [] (f54 t s ht) rfl rfl rfl rfl rfl ?_
  conv => whnf
  refine CallK.go [] (f55 t s ht) rfl rfl rfl rfl rfl ?_
  conv => whnf
  refine ⟨fun a1 => ?_, fun a1 => ?_⟩
  · conv => whnf
    exact ⟨[], _, _, _, rfl, rfl, rfl, RepLe.vb (bEq_self _), trivial⟩
  · rw [sEq_f] at a1
    exact absurd rfl a1
end Go.Proofs.Ytoophkcicdbnfaa
