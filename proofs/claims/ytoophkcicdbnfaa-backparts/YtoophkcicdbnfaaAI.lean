/- One more, one less, by the book. -/
import Derived.Test.YtoophkcicdbnfaaAG
set_option linter.unusedVariables false
set_option linter.unusedSimpArgs false
namespace Go.Proofs.Ytoophkcicdbnfaa
open Go Go.Av
set_option maxRecDepth 100000
set_option maxHeartbeats 1000000

def encTake (x : List SField × Int) : AV := .tup 2 (at_ (.p .any) [.p (encFields x.1), .p (.val (.int .i64 x.2))])
theorem nil_take {n : Int} : RepLe (.tup 2 (at_ (.p .any) [.p (.val (.slice none 0 0)), .p (.val (.int .i64 n))])) (encTake ([], n)) := RepLe.tup2 (PLe.rep PLe.nil) (RepLe.refl _)
def notAt (l : List SField) (r : SRef) : List SField := l.filter fun f => !sameRef f.place r
def withoutF (l : List SField) (r : SRef) : List SField × Int :=
  if rightFields l then (match placeIn l r with | none => ([], 6) | some _ => (notAt l r, 0)) else ([], 5)
theorem notAt_step (l : List SField) (r : SRef) {i : Nat} (h : i < l.length) : notAt (l.take (i + 1)) r = notAt (l.take i) r ++ if !sameRef (l.getD i noField).place r then [l.getD i noField] else [] := by
  unfold notAt
  rw [List.take_add_one, List.getD_eq_getElem?_getD, List.getElem?_eq_getElem h, List.filter_append]
  simp only [Option.toList, Option.getD, List.filter_cons, List.filter_nil]
theorem seven {P : Nat → Prop} (h0 : P 0) (h1 : P 1) (h2 : P 2) (h3 : P 3) (h4 : P 4) (h5 : P 5) (h6 : P 6) : ∀ b, b < 7 → P b := by
  intro b hb
  have hb : b = 0 ∨ b = 1 ∨ b = 2 ∨ b = 3 ∨ b = 4 ∨ b = 5 ∨ b = 6 := by omega
  rcases hb with rfl | rfl | rfl | rfl | rfl | rfl | rfl <;> assumption

theorem f47 (l : List SField) (r : SRef) (hl : fitFields l) : PCall Try.prog 47 [encFields l, encRef r] (encTake (withoutF l r)) [] := by
  have hlen := hl.1
  refine gcode hT hM Try.func47 rfl rfl (rv := [(4, none), (5, none)]) rfl rfl rfl fun G hG => ?_
  conv => whnf
  refine CallK.lent (f34 l hl.ok) rfl ?_
  conv => whnf
  refine ⟨fun h1 => ?_, fun h1 => ?_⟩
  · have h1 : rightFields l = false := by simpa using h1
    conv => whnf
    exact ⟨[], _, _, _, rfl, rfl, rfl, by unfold withoutF; rw [h1]; exact nil_take, trivial⟩
  have h1 : rightFields l = true := by simpa using h1
  conv => whnf
  refine CallK.lent (f31 l r hl.ok) rfl ?_
  conv => whnf
  cases hp : placeIn l r with
  | none =>
    have hw : withoutF l r = ([], 6) := by unfold withoutF; rw [h1, hp]; rfl
    refine ⟨fun h2 => ?_, fun h2 => ?_⟩
    · conv => whnf
      exact ⟨[], _, _, _, rfl, rfl, rfl, by rw [hw]; exact nil_take, trivial⟩
    · rw [iLt_f] at h2
      have h2 : (0 : Int) ≤ -1 := h2
      omega
  | some j =>
    have hw : withoutF l r = (notAt l r, 0) := by unfold withoutF; rw [h1, hp]; rfl
    refine ⟨fun h2 => ?_, fun h2 => ?_⟩
    · rw [iLt_t] at h2
      have h2 : ((j : Nat) : Int) < 0 := h2
      omega
    clear h1 h2
    conv => whnf
    refine AW.loop (X := Nat) (fun i => told 37 [(0, .p (encFields l)), (3, .pt 0 0), (6, .sl 20480), (7, vI .i64 (i : Int))] [(0, some (.box 27 ((refCells r).map .p))), (20480, rowFields (notAt (l.take i) r))] [0, 20480]) (fun i => i ≤ l.length) (fun i => l.length - i) (used0 hG _) 0 (by omega) (stle ⟨RepLe.refl _, RepLe.refl _, RepLe.refl _, RepLe.refl _, trivial⟩ ⟨⟨_, rfl, BlkLe.refl _⟩, ⟨_, rfl, BlkLe.row rfl (fun i j hi => absurd hi (Nat.not_lt_zero _))⟩, trivial⟩ rfl) ?_
    rintro i hi
    have hc : (notAt (l.take i) r).length ≤ i := Nat.le_trans (List.length_filter_le _ _) (by simp; omega)
    refine codeK_aw hT hM _ _ _ ?_
    conv => whnf
    refine ⟨fun h4 => ?_, fun h4 => ?_⟩
    · have hlt : i < l.length := by rw [iLt_t] at h4; omega
      have hst := notAt_step l r hlt
      conv => whnf
      refine ⟨by omega, ?_⟩
      conv => whnf
      refine ⟨rfl, ?_⟩
      conv => whnf
      refine ⟨fun h5 => ?_, fun h5 => ?_⟩
      · have h5 : (!sameRef (l.getD i noField).place r) = true := by rw [← h5]; unfold sameRef; rw [Bool.and_true]; rfl
        have h5 : sameRef (l.getD i noField).place r = false := by simpa using h5
        rw [h5] at hst
        have hst : notAt (l.take (i + 1)) r = notAt (l.take i) r ++ [l.getD i noField] := hst
        conv => whnf
        refine ⟨by omega, ?_⟩
        conv => whnf
        refine ⟨⟨show (notAt (l.take i) r).length + 1 ≤ 9223372036854775807 by omega, show ((notAt (l.take i) r).length + 1) * 96 ≤ 140737488355328 by omega⟩, ?_⟩
        conv => whnf
        intro z hz
        have hy := wrap64_eq hz (by omega) (by omega)
        clear hz
        subst hy
        conv => whnf
        refine ⟨i + 1, by omega, by omega, stleR [(20480, 41008)] ⟨RepLe.refl _, RepLe.refl _, RepLe.refl _, RepLe.of rfl, trivial⟩ ⟨⟨_, rfl, BlkLe.refl _⟩, ⟨_, rfl, ?_⟩, trivial⟩ rfl⟩
        show BlkLe _ (.row 30 7 (notAt (l.take (i + 1)) r).length fun j => at_ .any (fieldCells ((notAt (l.take (i + 1)) r).getD j noField)))
        rw [hst]
        exact rowSnoc _ _ (seven (PLe.refl _) (PLe.refl _) (PLe.refl _) (PLe.refl _) (PLe.refl _) (PLe.refl _) (PLe.refl _))
      · have h5 : sameRef (l.getD i noField).place r = true := by simpa [sameRef] using h5
        rw [h5] at hst
        have hst : notAt (l.take (i + 1)) r = notAt (l.take i) r := by
          have := hst
          simp at this
          exact this
        conv => whnf
        intro z hz
        have hy := wrap64_eq hz (by omega) (by omega)
        clear hz
        subst hy
        conv => whnf
        refine ⟨i + 1, by omega, by omega, stle ⟨RepLe.refl _, RepLe.refl _, RepLe.refl _, RepLe.of rfl, trivial⟩ ⟨⟨_, rfl, BlkLe.refl _⟩, ⟨_, rfl, by rw [hst]; exact BlkLe.refl _⟩, trivial⟩ rfl⟩
    · have hge : i = l.length := by rw [iLt_f] at h4; omega
      subst hge
      conv => whnf
      exact ⟨[], _, _, _, rfl, rfl, rfl, by rw [hw, List.take_length]; exact RepLe.refl _, trivial⟩

/-- The first place at which a field may stand. -/
def gapOf (l : List SField) (f : SField) : Nat := (findUpto (fun i => !lessRef (l.getD i noField).place f.place) l.length 0).getD l.length
def putIn (l : List SField) (f : SField) : List SField := l.take (gapOf l f) ++ f :: l.drop (gapOf l f)
def withF (l : List SField) (f : SField) : List SField × Int :=
  if rightFields l && fieldOk f then (match placeIn l f.place with | some _ => ([], 7) | none => if iLt 15 l.length then ([], 14) else (putIn l f, 0)) else ([], 5)
def midOf (l : List SField) (f : SField) (k i : Nat) : List SField := l.take k ++ f :: (l.drop k).take (i - k)
theorem mid_end (l : List SField) (f : SField) (k : Nat) : midOf l f k l.length = l.take k ++ f :: l.drop k := by
  unfold midOf
  have h : (l.drop k).take (l.length - k) = l.drop k := List.take_of_length_le (by rw [List.length_drop]; exact Nat.le_refl _)
  rw [h]
theorem mid_step (l : List SField) (f : SField) {k i : Nat} (hk : k ≤ i) (hi : i < l.length) : midOf l f k (i + 1) = midOf l f k i ++ [l.getD i noField] := by
  unfold midOf
  rw [show i + 1 - k = (i - k) + 1 by omega, List.take_add_one, List.getElem?_drop, show k + (i - k) = i by omega, List.getElem?_eq_getElem hi, List.getD_eq_getElem?_getD, List.getElem?_eq_getElem hi]
  simp
theorem mid_len (l : List SField) (f : SField) {k i : Nat} (hk : k ≤ i) (hi : i ≤ l.length) : (midOf l f k i).length = i + 1 := by
  unfold midOf
  simp
  omega
theorem first_mid {l : List SField} {f : SField} {i : Nat} {c : Nat → Nat → PV} (hmid : midOf l f i i = l.take i ++ [f])
    (hc : BlkLe (.row 30 7 ((l.take i).length + 1) c) (.row 30 7 (l.take i ++ [f]).length fun j => at_ .any (fieldCells ((l.take i ++ [f]).getD j noField))) := by
      first | exact rowSnoc _ _ (seven (PLe.refl _) (PLe.refl _) (PLe.refl _) (PLe.refl _) (PLe.refl _) (PLe.refl _) (PLe.refl _))) :
    BlkLe (.row 30 7 ((l.take i).length + 1) c) (.row 30 7 (midOf l f i i).length fun j => at_ .any (fieldCells ((midOf l f i i).getD j noField))) := by
  rw [hmid]; exact hc
theorem f46 (l : List SField) (f : SField) (hl : fitFields l) (hf : fitField f) : PCall Try.prog 46 [encFields l, encField f] (encTake (withF l f)) [] := by
  have hlen := hl.1
  refine gcode hT hM Try.func46 rfl rfl (rv := [(4, none), (5, none)]) rfl rfl rfl fun G hG => ?_
  conv => whnf
  refine CallK.lent (f34 l hl.ok) rfl ?_
  conv => whnf
  refine ⟨fun h1 => ?_, fun h1 => ?_⟩
  · have h1 : rightFields l = false := by simpa using h1
    conv => whnf
    exact ⟨[], _, _, _, rfl, rfl, rfl, by unfold withF; rw [h1]; exact nil_take, trivial⟩
  have h1 : rightFields l = true := by simpa using h1
  conv => whnf
  refine CallK.lent (f85 f hf.ok) rfl ?_
  conv => whnf
  refine ⟨fun h2 => ?_, fun h2 => ?_⟩
  · have h2 : fieldOk f = false := by simpa using h2
    conv => whnf
    exact ⟨[], _, _, _, rfl, rfl, rfl, by unfold withF; rw [h1, h2]; exact nil_take, trivial⟩
  have h2 : fieldOk f = true := by simpa using h2
  conv => whnf
  refine CallK.lent (f31 l f.place hl.ok) rfl ?_
  conv => whnf
  cases hp : placeIn l f.place with
  | some j =>
    refine ⟨fun h3 => ?_, fun h3 => ?_⟩
    · conv => whnf
      exact ⟨[], _, _, _, rfl, rfl, rfl, by unfold withF; rw [h1, h2, hp]; exact nil_take, trivial⟩
    · rw [iLe_f] at h3
      have h3 : ((j : Nat) : Int) < 0 := h3
      omega
  | none =>
    refine ⟨fun h3 => ?_, fun h3 => ?_⟩
    · rw [iLe_t] at h3
      have h3 : (0 : Int) ≤ -1 := h3
      omega
    conv => whnf
    refine ⟨fun h6 => ?_, fun h6 => ?_⟩
    · conv => whnf
      exact ⟨[], _, _, _, rfl, rfl, rfl, by unfold withF; rw [h1, h2, hp]; show RepLe _ (encTake (if iLt 15 l.length = true then ([], 14) else (putIn l f, 0))); rw [if_pos h6]; exact nil_take, trivial⟩
    have hw : withF l f = (putIn l f, 0) := by
      unfold withF
      rw [h1, h2, hp]
      show (if iLt 15 l.length = true then ([], 14) else (putIn l f, 0)) = _
      rw [h6]; rfl
    have h15 : l.length ≤ 15 := by rw [iLt_f] at h6; omega
    clear h1 h2 h3 h6
    conv => whnf
    refine AW.loop (X := Nat) (fun i => told 66 [(0, .p (encFields l)), (3, .pt 0 0), (6, .sl 28672), (7, vI .i64 (i : Int))] [(0, some (.box 30 ((fieldCells f).map .p))), (28672, rowFields (l.take i))] [0, 28672]) (fun i => i ≤ l.length ∧ findUpto (fun i => !lessRef (l.getD i noField).place f.place) l.length 0 = findUpto (fun i => !lessRef (l.getD i noField).place f.place) (l.length - i) i) (fun i => l.length - i) (used0 hG _) 0 ⟨by omega, by simp⟩ (stle ⟨RepLe.refl _, RepLe.refl _, RepLe.refl _, RepLe.refl _, trivial⟩ ⟨⟨_, rfl, BlkLe.refl _⟩, ⟨_, rfl, BlkLe.row rfl (fun i j hi => absurd hi (Nat.not_lt_zero _))⟩, trivial⟩ rfl) ?_
    rintro i ⟨hi, hr⟩
    have hti : (l.take i).length = i := by simp; omega
    refine codeK_aw hT hM _ _ _ ?_
    conv => whnf
    refine ⟨fun h4 => ?_, fun h4 => ?_⟩
    · have hlt : i < l.length := by rw [iLt_t] at h4; omega
      rw [findUpto_step _ hlt] at hr
      conv => whnf
      refine ⟨by omega, ?_⟩
      conv => whnf
      refine CallK.lent (f86 (l.getD i noField).place f.place) rfl ?_
      conv => whnf
      refine ⟨rfl, ?_⟩
      conv => whnf
      refine ⟨fun h5 => ?_, fun h5 => ?_⟩
      · rw [h5] at hr
        conv => whnf
        refine ⟨by omega, ?_⟩
        conv => whnf
        refine ⟨⟨show (l.take i).length + 1 ≤ 9223372036854775807 by omega, show ((l.take i).length + 1) * 96 ≤ 140737488355328 by omega⟩, ?_⟩
        conv => whnf
        intro z hz
        have hy := wrap64_eq hz (by omega) (by omega)
        clear hz
        subst hy
        conv => whnf
        refine ⟨i + 1, ⟨by omega, hr⟩, by omega, stleR [(28672, 41008)] ⟨RepLe.refl _, RepLe.refl _, RepLe.refl _, RepLe.of rfl, trivial⟩ ⟨⟨_, rfl, BlkLe.refl _⟩, ⟨_, rfl, ?_⟩, trivial⟩ rfl⟩
        show BlkLe _ (.row 30 7 (l.take (i + 1)).length fun j => at_ .any (fieldCells ((l.take (i + 1)).getD j noField)))
        have hst : l.take (i + 1) = l.take i ++ [l.getD i noField] := by
          rw [List.take_add_one, List.getElem?_eq_getElem hlt, List.getD_eq_getElem?_getD, List.getElem?_eq_getElem hlt]; rfl
        rw [hst]
        exact rowSnoc _ _ (seven (PLe.refl _) (PLe.refl _) (PLe.refl _) (PLe.refl _) (PLe.refl _) (PLe.refl _) (PLe.refl _))
      · have hgap : gapOf l f = i := by unfold gapOf; rw [hr, h5]; rfl
        have hmid : midOf l f i i = l.take i ++ [f] := by unfold midOf; rw [Nat.sub_self]; rfl
        conv => whnf
        refine ⟨⟨show (l.take i).length + 1 ≤ 9223372036854775807 by omega, show ((l.take i).length + 1) * 96 ≤ 140737488355328 by omega⟩, ?_⟩
        conv => whnf
        refine AW.loop (X := Nat) (fun j => told 66 [(0, .p (encFields l)), (6, .sl 49176), (7, vI .i64 (j : Int))] [(49176, rowFields (midOf l f i j))] [49176]) (fun j => i ≤ j ∧ j ≤ l.length) (fun j => l.length - j) (used0 hG _) i ⟨Nat.le_refl _, hi⟩ (stle ⟨RepLe.refl _, RepLe.refl _, RepLe.refl _, trivial⟩ ⟨⟨_, rfl, first_mid hmid⟩, trivial⟩ rfl) ?_
        rintro j ⟨hij, hj⟩
        have hml := mid_len l f hij hj
        refine codeK_aw hT hM _ _ _ ?_
        conv => whnf
        refine ⟨fun g4 => ?_, fun g4 => ?_⟩
        · have hlt2 : j < l.length := by rw [iLt_t] at g4; omega
          have hst := mid_step l f hij hlt2
          conv => whnf
          refine ⟨by omega, ?_⟩
          conv => whnf
          refine ⟨⟨show (midOf l f i j).length + 1 ≤ 9223372036854775807 by omega, show ((midOf l f i j).length + 1) * 96 ≤ 140737488355328 by omega⟩, ?_⟩
          conv => whnf
          intro z hz
          have hy := wrap64_eq hz (by omega) (by omega)
          clear hz
          subst hy
          conv => whnf
          refine ⟨j + 1, ⟨by omega, by omega⟩, by omega, stleR [(49176, 57392)] ⟨RepLe.refl _, RepLe.refl _, RepLe.of rfl, trivial⟩ ⟨⟨_, rfl, ?_⟩, trivial⟩ rfl⟩
          show BlkLe _ (.row 30 7 (midOf l f i (j + 1)).length fun a => at_ .any (fieldCells ((midOf l f i (j + 1)).getD a noField)))
          rw [hst]
          exact rowSnoc _ _ (seven (PLe.refl _) (PLe.refl _) (PLe.refl _) (PLe.refl _) (PLe.refl _) (PLe.refl _) (PLe.refl _))
        · have hge2 : j = l.length := by rw [iLt_f] at g4; omega
          subst hge2
          have hfin : putIn l f = midOf l f i l.length := by
            rw [mid_end]; unfold putIn
            rw [hgap]
          conv => whnf
          exact ⟨[], _, _, _, rfl, rfl, rfl, by rw [hw, hfin]; exact RepLe.refl _, trivial⟩
    · have hge : i = l.length := by rw [iLt_f] at h4; omega
      have hgap : gapOf l f = i := by unfold gapOf; rw [hr, hge, findUpto_end]; rfl
      conv => whnf
      refine ⟨rfl, ?_⟩
      conv => whnf
      have hmid : midOf l f i i = l.take i ++ [f] := by unfold midOf; rw [Nat.sub_self]; rfl
      conv => whnf
      refine ⟨⟨show (l.take i).length + 1 ≤ 9223372036854775807 by omega, show ((l.take i).length + 1) * 96 ≤ 140737488355328 by omega⟩, ?_⟩
      conv => whnf
      refine AW.loop (X := Nat) (fun j => told 66 [(0, .p (encFields l)), (6, .sl 49176), (7, vI .i64 (j : Int))] [(49176, rowFields (midOf l f i j))] [49176]) (fun j => i ≤ j ∧ j ≤ l.length) (fun j => l.length - j) (used0 hG _) i ⟨Nat.le_refl _, hi⟩ (stle ⟨RepLe.refl _, RepLe.refl _, RepLe.refl _, trivial⟩ ⟨⟨_, rfl, first_mid hmid⟩, trivial⟩ rfl) ?_
      rintro j ⟨hij, hj⟩
      have hml := mid_len l f hij hj
      refine codeK_aw hT hM _ _ _ ?_
      conv => whnf
      refine ⟨fun g4 => ?_, fun g4 => ?_⟩
      · have hlt2 : j < l.length := by rw [iLt_t] at g4; omega
        have hst := mid_step l f hij hlt2
        conv => whnf
        refine ⟨by omega, ?_⟩
        conv => whnf
        refine ⟨⟨show (midOf l f i j).length + 1 ≤ 9223372036854775807 by omega, show ((midOf l f i j).length + 1) * 96 ≤ 140737488355328 by omega⟩, ?_⟩
        conv => whnf
        intro z hz
        have hy := wrap64_eq hz (by omega) (by omega)
        clear hz
        subst hy
        conv => whnf
        refine ⟨j + 1, ⟨by omega, by omega⟩, by omega, stleR [(49176, 57392)] ⟨RepLe.refl _, RepLe.refl _, RepLe.of rfl, trivial⟩ ⟨⟨_, rfl, ?_⟩, trivial⟩ rfl⟩
        show BlkLe _ (.row 30 7 (midOf l f i (j + 1)).length fun a => at_ .any (fieldCells ((midOf l f i (j + 1)).getD a noField)))
        rw [hst]
        exact rowSnoc _ _ (seven (PLe.refl _) (PLe.refl _) (PLe.refl _) (PLe.refl _) (PLe.refl _) (PLe.refl _) (PLe.refl _))
      · have hge2 : j = l.length := by rw [iLt_f] at g4; omega
        subst hge2
        have hfin : putIn l f = midOf l f i l.length := by
          rw [mid_end]; unfold putIn
          rw [hgap]
        conv => whnf
        exact ⟨[], _, _, _, rfl, rfl, rfl, by rw [hw, hfin]; exact RepLe.refl _, trivial⟩
end Go.Proofs.Ytoophkcicdbnfaa
