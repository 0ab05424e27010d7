import Derived.Test.YtalpbdabeffnlaaGreatJoAH
import Derived.Test.YtalpbdabeffnlaaGreatJoAA
/- One more, one less, by the book. -/
set_option linter.unusedVariables false
set_option linter.unusedSimpArgs false
namespace Go.Proofs.YtalpbdabeffnlaaGreat
open Go Go.Av
set_option maxRecDepth 100000
set_option maxHeartbeats 1000000

def encTake (x : List SField × Int) : AV := .tup 2 (at_ (.p .any) [.p (encFields x.1), .p (.val (.int .i64 x.2))])
theorem nil_take {n : Int} : RepLe (.tup 2 (at_ (.p .any) [.p (.val (.slice none 0 0)), .p (.val (.int .i64 n))])) (encTake ([], n)) := RepLe.tup2 (PLe.rep PLe.nil) (RepLe.refl _)
def notAt (l : List SField) (r : SRef) : List SField := l.filter fun f => !sameRef f.place r
def withoutF (l : List SField) (r : SRef) : List SField × Int :=
  if rightFields l then (match placeIn l r with | none => ([], 6) | some _ => (notAt l r, 0)) else ([], 5)
theorem notAt_step (l : List SField) (r : SRef) {i : Nat} (h : i < l.length) : notAt (l.take (i + 1)) r = notAt (l.take i) r ++ if !sameRef (l.getD i noField).place r then [l.getD i noField] else [] := by
  unfold notAt
  rw [List.take_add_one, List.getD_eq_getElem?_getD, List.getElem?_eq_getElem h, List.filter_append]
  simp only [Option.toList, Option.getD, List.filter_cons, List.filter_nil]
theorem seven {P : Nat → Prop} (h0 : P 0) (h1 : P 1) (h2 : P 2) (h3 : P 3) (h4 : P 4) (h5 : P 5) (h6 : P 6) : ∀ b, b < 7 → P b := by
  intro b hb
  have hb : b = 0 ∨ b = 1 ∨ b = 2 ∨ b = 3 ∨ b = 4 ∨ b = 5 ∨ b = 6 := by omega
  rcases hb with rfl | rfl | rfl | rfl | rfl | rfl | rfl <;> assumption

theorem f47 (l : List SField) (r : SRef) (hl : fitFields l) : PCall Tryz.prog 85 [encFields l, encRef r] (encTake (withoutF l r)) [] := by
  have hlen := hl.1
  refine gcode hT hM Tryz.func85 rfl rfl (rv := [(4, none), (5, none)]) rfl rfl rfl fun G hG => ?_
  conv => whnf
  refine CallK.lent (f34 l hl.ok) rfl ?_
  conv => whnf
  refine ⟨fun h1 => ?_, fun h1 => ?_⟩
  · have h1 : rightFields l = false := by simpa using h1
    conv => whnf
    exact ⟨[], _, _, _, rfl, rfl, rfl, by unfold withoutF; rw [h1]; exact nil_take, trivial⟩
  have h1 : rightFields l = true := by simpa using h1
  conv => whnf
  refine CallK.lent (f31 l r hl.ok) rfl ?_
  conv => whnf
  cases hp : placeIn l r with
  | none =>
    have hw : withoutF l r = ([], 6) := by unfold withoutF; rw [h1, hp]; rfl
    refine ⟨fun h2 => ?_, fun h2 => ?_⟩
    · conv => whnf
      exact ⟨[], _, _, _, rfl, rfl, rfl, by rw [hw]; exact nil_take, trivial⟩
    · rw [iLt_f] at h2
      have h2 : (0 : Int) ≤ -1 := h2
      omega
  | some j =>
    have hw : withoutF l r = (notAt l r, 0) := by unfold withoutF; rw [h1, hp]; rfl
    refine ⟨fun h2 => ?_, fun h2 => ?_⟩
    · rw [iLt_t] at h2
      have h2 : ((j : Nat) : Int) < 0 := h2
      omega
    clear h1 h2
    conv => whnf
    refine AW.loop (X := Nat) (fun i => told 37 [(0, .p (encFields l)), (3, .pt 0 0), (6, .sl 20480), (7, vI .i64 (i : Int))] [(0, some (.box 36 ((refCells r).map .p))), (20480, rowFields (notAt (l.take i) r))] [0, 20480]) (fun i => i ≤ l.length) (fun i => l.length - i) (used0 hG _) 0 (by omega) (stle ⟨RepLe.refl _, RepLe.refl _, RepLe.refl _, RepLe.refl _, trivial⟩ ⟨⟨_, rfl, BlkLe.refl _⟩, ⟨_, rfl, BlkLe.row rfl (fun i j hi => absurd hi (Nat.not_lt_zero _))⟩, trivial⟩ rfl) ?_
    rintro i hi
    have hc : (notAt (l.take i) r).length ≤ i := Nat.le_trans (List.length_filter_le _ _) (by simp; omega)
    refine codeK_aw hT hM _ _ _ ?_
    conv => whnf
    refine ⟨fun h4 => ?_, fun h4 => ?_⟩
    · have hlt : i < l.length := by rw [iLt_t] at h4; omega
      have hst := notAt_step l r hlt
      conv => whnf
      refine ⟨by omega, ?_⟩
      conv => whnf
      refine ⟨rfl, ?_⟩
      conv => whnf
      refine ⟨fun h5 => ?_, fun h5 => ?_⟩
      · have h5 : (!sameRef (l.getD i noField).place r) = true := by rw [← h5]; unfold sameRef; rw [Bool.and_true]; rfl
        have h5 : sameRef (l.getD i noField).place r = false := by simpa using h5
        rw [h5] at hst
        have hst : notAt (l.take (i + 1)) r = notAt (l.take i) r ++ [l.getD i noField] := hst
        conv => whnf
        refine ⟨by omega, ?_⟩
        conv => whnf
        refine ⟨⟨show (notAt (l.take i) r).length + 1 ≤ 9223372036854775807 by omega, show ((notAt (l.take i) r).length + 1) * 96 ≤ 140737488355328 by omega⟩, ?_⟩
        conv => whnf
        intro z hz
        have hy := wrap64_eq hz (by omega) (by omega)
        clear hz
        subst hy
        conv => whnf
        refine ⟨i + 1, by omega, by omega, stleR [(20480, 41008)] ⟨RepLe.refl _, RepLe.refl _, RepLe.refl _, RepLe.of rfl, trivial⟩ ⟨⟨_, rfl, BlkLe.refl _⟩, ⟨_, rfl, ?_⟩, trivial⟩ rfl⟩
        show BlkLe _ (.row 39 7 (notAt (l.take (i + 1)) r).length fun j => at_ .any (fieldCells ((notAt (l.take (i + 1)) r).getD j noField)))
        rw [hst]
        exact rowSnoc _ _ (seven (PLe.refl _) (PLe.refl _) (PLe.refl _) (PLe.refl _) (PLe.refl _) (PLe.refl _) (PLe.refl _))
      · have h5 : sameRef (l.getD i noField).place r = true := by simpa [sameRef] using h5
        rw [h5] at hst
        have hst : notAt (l.take (i + 1)) r = notAt (l.take i) r := by
          have := hst
          simp at this
          exact this
        conv => whnf
        intro z hz
        have hy := wrap64_eq hz (by omega) (by omega)
        clear hz
        subst hy
        conv => whnf
        refine ⟨i + 1, by omega, by omega, stle ⟨RepLe.refl _, RepLe.refl _, RepLe.refl _, RepLe.of rfl, trivial⟩ ⟨⟨_, rfl, BlkLe.refl _⟩, ⟨_, rfl, by rw [hst]; exact BlkLe.refl _⟩, trivial⟩ rfl⟩
    · have hge : i = l.length := by rw [iLt_f] at h4; omega
      subst hge
      conv => whnf
      exact ⟨[], _, _, _, rfl, rfl, rfl, by rw [hw, List.take_length]; exact RepLe.refl _, trivial⟩

/-- The first place at which a field may stand. -/
def gapOf (l : List SField) (f : SField) : Nat := (findUpto (fun i => !lessRef (l.getD i noField).place f.place) l.length 0).getD l.length
def putIn (l : List SField) (f : SField) : List SField := l.take (gapOf l f) ++ f :: l.drop (gapOf l f)
def withF (l : List SField) (f : SField) : List SField × Int :=
  if rightFields l && fieldOk f then (match placeIn l f.place with | some _ => ([], 7) | none => if iLt 15 l.length then ([], 14) else (putIn l f, 0)) else ([], 5)
def midOf (l : List SField) (f : SField) (k i : Nat) : List SField := l.take k ++ f :: (l.drop k).take (i - k)
theorem mid_end (l : List SField) (f : SField) (k : Nat) : midOf l f k l.length = l.take k ++ f :: l.drop k := by
  unfold midOf
  have h : (l.drop k).take (l.length - k) = l.drop k := List.take_of_length_le (by rw [List.length_drop]; exact Nat.le_refl _)
  rw [h]
theorem mid_step (l : List SField) (f : SField) {k i : Nat} (hk : k ≤ i) (hi : i < l.length) : midOf l f k (i + 1) = midOf l f k i ++ [l.getD i noField] := by
  unfold midOf
  rw [show i + 1 - k = (i - k) + 1 by omega, List.take_add_one, List.getElem?_drop, show k + (i - k) = i by omega, List.getElem?_eq_getElem hi, List.getD_eq_getElem?_getD, List.getElem?_eq_getElem hi]
  simp
theorem mid_len (l : List SField) (f : SField) {k i : Nat} (hk : k ≤ i) (hi : i ≤ l.length) : (midOf l f k i).length = i + 1 := by
  unfold midOf
  simp
  omega
theorem first_mid {l : List SField} {f : SField} {i : Nat} {c : Nat → Nat → PV} (hmid : midOf l f i i = l.take i ++ [f])
    (hc : BlkLe (.row 39 7 ((l.take i).length + 1) c) (.row 39 7 (l.take i ++ [f]).length fun j => at_ .any (fieldCells ((l.take i ++ [f]).getD j noField))) := by
      first | exact rowSnoc _ _ (seven (PLe.refl _) (PLe.refl _) (PLe.refl _) (PLe.refl _) (PLe.refl _) (PLe.refl _) (PLe.refl _))) :
    BlkLe (.row 39 7 ((l.take i).length + 1) c) (.row 39 7 (midOf l f i i).length fun j => at_ .any (fieldCells ((midOf l f i i).getD j noField))) := by
  rw [hmid]; exact hc
theorem f46 (l : List SField) (f : SField) (hl : fitFields l) (hf : fitField f) : PCall Tryz.prog 146 [encFields l, encField f] (encTake (withF l f)) [] := by
  have hlen := hl.1
  refine gcode hT hM Tryz.func146 rfl rfl (rv := [(4, none), (5, none)]) rfl rfl rfl fun G hG => ?_
  conv => whnf
  refine CallK.lent (f34 l hl.ok) rfl ?_
  conv => whnf
  refine ⟨fun h1 => ?_, fun h1 => ?_⟩
  · have h1 : rightFields l = false := by simpa using h1
    conv => whnf
    exact ⟨[], _, _, _, rfl, rfl, rfl, by unfold withF; rw [h1]; exact nil_take, trivial⟩
  have h1 : rightFields l = true := by simpa using h1
  conv => whnf
  refine CallK.lent (f85 f hf.ok) rfl ?_
  conv => whnf
  refine ⟨fun h2 => ?_, fun h2 => ?_⟩
  · have h2 : fieldOk f = false := by simpa using h2
    conv => whnf
    exact ⟨[], _, _, _, rfl, rfl, rfl, by unfold withF; rw [h1, h2]; exact nil_take, trivial⟩
  have h2 : fieldOk f = true := by simpa using h2
  conv => whnf
  refine CallK.lent (f31 l f.place hl.ok) rfl ?_
  conv => whnf
  cases hp : placeIn l f.place with
  | some j =>
    refine ⟨fun h3 => ?_, fun h3 => ?_⟩
    · conv => whnf
      exact ⟨[], _, _, _, rfl, rfl, rfl, by unfold withF; rw [h1, h2, hp]; exact nil_take, trivial⟩
    · rw [iLe_f] at h3
      have h3 : ((j : Nat) : Int) < 0 := h3
      omega
  | none =>
    refine ⟨fun h3 => ?_, fun h3 => ?_⟩
    · rw [iLe_t] at h3
      have h3 : (0 : Int) ≤ -1 := h3
      omega
    conv => whnf
    refine ⟨fun h6 => ?_, fun h6 => ?_⟩
    · conv => whnf
      exact ⟨[], _, _, _, rfl, rfl, rfl, by unfold withF; rw [h1, h2, hp]; show RepLe _ (encTake (if iLt 15 l.length = true then ([], 14) else (putIn l f, 0))); rw [if_pos h6]; exact nil_take, trivial⟩
    have hw : withF l f = (putIn l f, 0) := by
      unfold withF
      rw [h1, h2, hp]
      show (if iLt 15 l.length = true then ([], 14) else (putIn l f, 0)) = _
      rw [h6]; rfl
    have h15 : l.length ≤ 15 := by rw [iLt_f] at h6; omega
    clear h1 h2 h3 h6
    conv => whnf
    refine AW.loop (X := Nat) (fun i => told 66 [(0, .p (encFields l)), (3, .pt 0 0), (6, .sl 28672), (7, vI .i64 (i : Int))] [(0, some (.box 39 ((fieldCells f).map .p))), (28672, rowFields (l.take i))] [0, 28672]) (fun i => i ≤ l.length ∧ findUpto (fun i => !lessRef (l.getD i noField).place f.place) l.length 0 = findUpto (fun i => !lessRef (l.getD i noField).place f.place) (l.length - i) i) (fun i => l.length - i) (used0 hG _) 0 ⟨by omega, by simp⟩ (stle ⟨RepLe.refl _, RepLe.refl _, RepLe.refl _, RepLe.refl _, trivial⟩ ⟨⟨_, rfl, BlkLe.refl _⟩, ⟨_, rfl, BlkLe.row rfl (fun i j hi => absurd hi (Nat.not_lt_zero _))⟩, trivial⟩ rfl) ?_
    rintro i ⟨hi, hr⟩
    have hti : (l.take i).length = i := by simp; omega
    refine codeK_aw hT hM _ _ _ ?_
    conv => whnf
    refine ⟨fun h4 => ?_, fun h4 => ?_⟩
    · have hlt : i < l.length := by rw [iLt_t] at h4; omega
      rw [findUpto_step _ hlt] at hr
      conv => whnf
      refine ⟨by omega, ?_⟩
      conv => whnf
      refine CallK.lent (f86 (l.getD i noField).place f.place) rfl ?_
      conv => whnf
      refine ⟨rfl, ?_⟩
      conv => whnf
      refine ⟨fun h5 => ?_, fun h5 => ?_⟩
      · rw [h5] at hr
        conv => whnf
        refine ⟨by omega, ?_⟩
        conv => whnf
        refine ⟨⟨show (l.take i).length + 1 ≤ 9223372036854775807 by omega, show ((l.take i).length + 1) * 96 ≤ 140737488355328 by omega⟩, ?_⟩
        conv => whnf
        intro z hz
        have hy := wrap64_eq hz (by omega) (by omega)
        clear hz
        subst hy
        conv => whnf
        refine ⟨i + 1, ⟨by omega, hr⟩, by omega, stleR [(28672, 41008)] ⟨RepLe.refl _, RepLe.refl _, RepLe.refl _, RepLe.of rfl, trivial⟩ ⟨⟨_, rfl, BlkLe.refl _⟩, ⟨_, rfl, ?_⟩, trivial⟩ rfl⟩
        show BlkLe _ (.row 39 7 (l.take (i + 1)).length fun j => at_ .any (fieldCells ((l.take (i + 1)).getD j noField)))
        have hst : l.take (i + 1) = l.take i ++ [l.getD i noField] := by
          rw [List.take_add_one, List.getElem?_eq_getElem hlt, List.getD_eq_getElem?_getD, List.getElem?_eq_getElem hlt]; rfl
        rw [hst]
        exact rowSnoc _ _ (seven (PLe.refl _) (PLe.refl _) (PLe.refl _) (PLe.refl _) (PLe.refl _) (PLe.refl _) (PLe.refl _))
      · have hgap : gapOf l f = i := by unfold gapOf; rw [hr, h5]; rfl
        have hmid : midOf l f i i = l.take i ++ [f] := by unfold midOf; rw [Nat.sub_self]; rfl
        conv => whnf
        refine ⟨⟨show (l.take i).length + 1 ≤ 9223372036854775807 by omega, show ((l.take i).length + 1) * 96 ≤ 140737488355328 by omega⟩, ?_⟩
        conv => whnf
        refine AW.loop (X := Nat) (fun j => told 66 [(0, .p (encFields l)), (6, .sl 49176), (7, vI .i64 (j : Int))] [(49176, rowFields (midOf l f i j))] [49176]) (fun j => i ≤ j ∧ j ≤ l.length) (fun j => l.length - j) (used0 hG _) i ⟨Nat.le_refl _, hi⟩ (stle ⟨RepLe.refl _, RepLe.refl _, RepLe.refl _, trivial⟩ ⟨⟨_, rfl, first_mid hmid⟩, trivial⟩ rfl) ?_
        rintro j ⟨hij, hj⟩
        have hml := mid_len l f hij hj
        refine codeK_aw hT hM _ _ _ ?_
        conv => whnf
        refine ⟨fun g4 => ?_, fun g4 => ?_⟩
        · have hlt2 : j < l.length := by rw [iLt_t] at g4; omega
          have hst := mid_step l f hij hlt2
          conv => whnf
          refine ⟨by omega, ?_⟩
          conv => whnf
          refine ⟨⟨show (midOf l f i j).length + 1 ≤ 9223372036854775807 by omega, show ((midOf l f i j).length + 1) * 96 ≤ 140737488355328 by omega⟩, ?_⟩
          conv => whnf
          intro z hz
          have hy := wrap64_eq hz (by omega) (by omega)
          clear hz
          subst hy
          conv => whnf
          refine ⟨j + 1, ⟨by omega, by omega⟩, by omega, stleR [(49176, 57392)] ⟨RepLe.refl _, RepLe.refl _, RepLe.of rfl, trivial⟩ ⟨⟨_, rfl, ?_⟩, trivial⟩ rfl⟩
          show BlkLe _ (.row 39 7 (midOf l f i (j + 1)).length fun a => at_ .any (fieldCells ((midOf l f i (j + 1)).getD a noField)))
          rw [hst]
          exact rowSnoc _ _ (seven (PLe.refl _) (PLe.refl _) (PLe.refl _) (PLe.refl _) (PLe.refl _) (PLe.refl _) (PLe.refl _))
        · have hge2 : j = l.length := by rw [iLt_f] at g4; omega
          subst hge2
          have hfin : putIn l f = midOf l f i l.length := by
            rw [mid_end]; unfold putIn
            rw [hgap]
          conv => whnf
          exact ⟨[], _, _, _, rfl, rfl, rfl, by rw [hw, hfin]; exact RepLe.refl _, trivial⟩
    · have hge : i = l.length := by rw [iLt_f] at h4; omega
      have hgap : gapOf l f = i := by unfold gapOf; rw [hr, hge, findUpto_end]; rfl
      conv => whnf
      refine ⟨rfl, ?_⟩
      conv => whnf
      have hmid : midOf l f i i = l.take i ++ [f] := by unfold midOf; rw [Nat.sub_self]; rfl
      conv => whnf
      refine ⟨⟨show (l.take i).length + 1 ≤ 9223372036854775807 by omega, show ((l.take i).length + 1) * 96 ≤ 140737488355328 by omega⟩, ?_⟩
      conv => whnf
      refine AW.loop (X := Nat) (fun j => told 66 [(0, .p (encFields l)), (6, .sl 49176), (7, vI .i64 (j : Int))] [(49176, rowFields (midOf l f i j))] [49176]) (fun j => i ≤ j ∧ j ≤ l.length) (fun j => l.length - j) (used0 hG _) i ⟨Nat.le_refl _, hi⟩ (stle ⟨RepLe.refl _, RepLe.refl _, RepLe.refl _, trivial⟩ ⟨⟨_, rfl, first_mid hmid⟩, trivial⟩ rfl) ?_
      rintro j ⟨hij, hj⟩
      have hml := mid_len l f hij hj
      refine codeK_aw hT hM _ _ _ ?_
      conv => whnf
      refine ⟨fun g4 => ?_, fun g4 => ?_⟩
      · have hlt2 : j < l.length := by rw [iLt_t] at g4; omega
        have hst := mid_step l f hij hlt2
        conv => whnf
        refine ⟨by omega, ?_⟩
        conv => whnf
        refine ⟨⟨show (midOf l f i j).length + 1 ≤ 9223372036854775807 by omega, show ((midOf l f i j).length + 1) * 96 ≤ 140737488355328 by omega⟩, ?_⟩
        conv => whnf
        intro z hz
        have hy := wrap64_eq hz (by omega) (by omega)
        clear hz
        subst hy
        conv => whnf
        refine ⟨j + 1, ⟨by omega, by omega⟩, by omega, stleR [(49176, 57392)] ⟨RepLe.refl _, RepLe.refl _, RepLe.of rfl, trivial⟩ ⟨⟨_, rfl, ?_⟩, trivial⟩ rfl⟩
        show BlkLe _ (.row 39 7 (midOf l f i (j + 1)).length fun a => at_ .any (fieldCells ((midOf l f i (j + 1)).getD a noField)))
        rw [hst]
        exact rowSnoc _ _ (seven (PLe.refl _) (PLe.refl _) (PLe.refl _) (PLe.refl _) (PLe.refl _) (PLe.refl _) (PLe.refl _))
      · have hge2 : j = l.length := by rw [iLt_f] at g4; omega
        subst hge2
        have hfin : putIn l f = midOf l f i l.length := by
          rw [mid_end]; unfold putIn
          rw [hgap]
        conv => whnf
        exact ⟨[], _, _, _, rfl, rfl, rfl, by rw [hw, hfin]; exact RepLe.refl _, trivial⟩
end Go.Proofs.YtalpbdabeffnlaaGreat

/- One less, as the program does it. -/
set_option linter.unusedVariables false
set_option linter.unusedSimpArgs false
namespace Go.Proofs.YtalpbdabeffnlaaGreat
open Go Go.Av
set_option maxRecDepth 100000
set_option maxHeartbeats 1000000

/-! ### A right list is sorted -/
theorem right_step {l : List SField} (h : rightFields l = true) {i : Nat} (hi : i < l.length) : fieldOk (l.getD i noField) = true ∧ (0 < i → lessRef (l.getD (i - 1) noField).place (l.getD i noField).place = true) := by
  unfold rightFields at h
  rw [Bool.and_eq_true, allUpto_iff] at h
  have := h.2 i (Nat.zero_le _) (by omega)
  unfold rightStep at this
  rw [Bool.and_eq_true, Bool.or_eq_true] at this
  refine ⟨this.1, fun h0 => ?_⟩
  rcases this.2 with h2 | h2
  · rw [iEq_t] at h2; omega
  · exact h2
theorem right_sorted {l : List SField} (h : rightFields l = true) : ∀ (b : Nat), b < l.length → ∀ a, a < b → lessRef (l.getD a noField).place (l.getD b noField).place = true
  | 0, _, a, ha => by omega
  | b + 1, hb, a, ha => by
    have h1 := (right_step h hb).2 (by omega)
    rw [Nat.add_sub_cancel] at h1
    rcases Nat.lt_or_ge a b with h2 | h2
    · exact less_trans (right_sorted h b (by omega) a h2) h1
    · have : a = b := by omega
      subst this; exact h1
theorem right_one {l : List SField} (h : rightFields l = true) {a b : Nat} (ha : a < l.length) (hb : b < l.length) (he : (l.getD a noField).place = (l.getD b noField).place) : a = b := by
  rcases Nat.lt_trichotomy a b with h1 | h1 | h1
  · have := right_sorted h b hb a h1; rw [he, less_irrefl] at this; cases this
  · exact h1
  · have := right_sorted h a ha b h1; rw [he, less_irrefl] at this; cases this
theorem getD_mem {l : List SField} {x : SField} (h : x ∈ l) : ∃ i, i < l.length ∧ l.getD i noField = x := by
  obtain ⟨i, hi, rfl⟩ := List.mem_iff_getElem.1 h
  exact ⟨i, hi, by rw [List.getD_eq_getElem?_getD, List.getElem?_eq_getElem hi]; rfl⟩
theorem notAt_erase {l : List SField} {r : SRef} (h : rightFields l = true) {j : Nat} (hp : placeIn l r = some j) : notAt l r = l.eraseIdx j := by
  obtain ⟨_, hj, hpj, _⟩ := findUpto_some _ _ _ _ hp
  have hj : j < l.length := by omega
  have hpl : (l.getD j noField).place = r := same_ref.1 hpj
  have hl : l = l.take j ++ l.getD j noField :: l.drop (j + 1) := by
    rw [List.getD_eq_getElem?_getD, List.getElem?_eq_getElem hj]
    exact (List.take_append_drop j l).symm.trans (by rw [List.drop_eq_getElem_cons hj]; rfl)
  have other : ∀ i, i < l.length → i ≠ j → sameRef (l.getD i noField).place r = false := by
    intro i hi hne
    cases hs : sameRef (l.getD i noField).place r with
    | false => rfl
    | true => exact absurd (right_one h hi hj ((same_ref.1 hs).trans hpl.symm)) hne
  rw [List.eraseIdx_eq_take_drop_succ]
  unfold notAt
  conv => lhs; rw [hl]
  rw [List.filter_append, List.filter_cons, hpl, same_ref.2 rfl]
  have h1 : (l.take j).filter (fun f => !sameRef f.place r) = l.take j := by
    rw [List.filter_eq_self]
    intro x hx
    obtain ⟨i, hi, rfl⟩ := List.mem_iff_getElem.1 hx
    have hij : i < j := by simp at hi; omega
    have := other i (by omega) (by omega)
    rw [List.getD_eq_getElem?_getD, List.getElem?_eq_getElem (by omega)] at this
    simpa using this
  have h2 : (l.drop (j + 1)).filter (fun f => !sameRef f.place r) = l.drop (j + 1) := by
    rw [List.filter_eq_self]
    intro x hx
    obtain ⟨i, hi, rfl⟩ := List.mem_iff_getElem.1 hx
    have hi2 : j + 1 + i < l.length := by simp at hi; omega
    have := other (j + 1 + i) hi2 (by omega)
    rw [List.getD_eq_getElem?_getD, List.getElem?_eq_getElem hi2] at this
    simpa using this
  rw [h1, h2]
  rfl

/-- A row whose first elements are a list's. -/
def delF (el : List SField) : Nat → Nat → PV := fun a b => if a < el.length then at_ .any (fieldCells (el.getD a noField)) b else .any
theorem del_row (l : List SField) {i : Nat} (hi : i < l.length) {hi0 lo L : Nat} (h1 : hi0 = i) (h2 : lo = i + 1) (h3 : L = l.length - 1) :
    BlkLe (.row 39 7 l.length (tailF L (moveF hi0 lo l.length fun a => at_ .any (fieldCells (l.getD a noField))))) (.row 39 7 l.length (delF (l.eraseIdx i))) := by
  subst h1 h2 h3
  have hel : (l.eraseIdx hi0).length = l.length - 1 := by rw [List.length_eraseIdx, if_pos hi]
  have blt : ∀ {x y : Nat}, x < y → Nat.blt x y = true := fun h => Nat.ble_eq_true_of_le h
  have bge : ∀ {x y : Nat}, y ≤ x → Nat.blt x y = false := by
    intro x y h
    cases hbb : Nat.blt x y with
    | false => rfl
    | true => have : x < y := Nat.le_of_ble_eq_true hbb; omega
  refine BlkLe.rowLe rfl fun a b ha hb => ?_
  unfold tailF delF
  rcases Nat.lt_or_ge a (l.length - 1) with h | h
  · rw [blt h, if_pos (by omega)]
    refine PLe.of ?_
    show moveF hi0 (hi0 + 1) l.length (fun a => at_ .any (fieldCells (l.getD a noField))) a b = _
    unfold moveF
    rcases Nat.lt_or_ge a hi0 with h4 | h4
    · rw [blt h4, show (l.eraseIdx hi0).getD a noField = l.getD a noField by rw [List.getD_eq_getElem?_getD, List.getElem?_eraseIdx, if_pos h4, List.getD_eq_getElem?_getD]]
    · rw [bge h4, blt (show a < hi0 + (l.length - (hi0 + 1)) by omega), show hi0 + 1 + (a - hi0) = a + 1 by omega, show (l.eraseIdx hi0).getD a noField = l.getD (a + 1) noField by rw [List.getD_eq_getElem?_getD, List.getElem?_eraseIdx, if_neg (by omega), List.getD_eq_getElem?_getD]]
  · rw [bge h, if_neg (by omega)]
    exact PLe.refl _

theorem f82 (l : List SField) (i : Nat) (hi : i < l.length) (hl : fitFields l) : GCall Tryz.prog 108 [.sl 0, .p (.val (.int .i64 (i : Int))), .p (.val (.int .i64 ((i : Int) + 1)))] [rowFields l] (.psl 0 (l.length - 1)) [some (.row 39 7 l.length (delF (l.eraseIdx i)))] := by
  have hlen := hl.1
  refine gcode hT hM Tryz.func108 rfl rfl (rv := [(6, none)]) rfl rfl rfl fun G hG => ?_
  conv => whnf
  refine ⟨⟨by omega, by omega, by omega, by omega, Int.le_refl _⟩, ?_⟩
  conv => whnf
  refine ⟨fun h => ?_, fun h => ?_⟩
  · rw [iEq_t] at h; omega
  conv => whnf
  refine ⟨⟨by omega, by omega, by omega⟩, ?_⟩
  conv => whnf
  refine ⟨⟨by omega, by omega, by omega⟩, ?_⟩
  conv => whnf
  refine ⟨(show (i : Int).toNat ≤ ((i : Int) + 1).toNat by omega), ?_⟩
  conv => whnf
  refine ⟨rfl, ?_⟩
  conv => whnf
  refine ⟨⟨Int.natCast_nonneg _, by omega, rfl⟩, ?_⟩
  conv => whnf
  exact ⟨[], _, _, _, rfl, rfl, rfl, (show RepLe (.psl 0 ((i : Int).toNat + (l.length - ((i : Int) + 1).toNat))) (.psl 0 (l.length - 1)) from RepLe.of (by rw [show (i : Int).toNat + (l.length - ((i : Int) + 1).toNat) = l.length - 1 by omega])), del_row l hi (Int.toNat_natCast i) (by omega) (by omega), trivial⟩

theorem f29 (l : List SField) (r : SRef) (hl : fitFields l) : PCall Tryz.prog 53 [encFields l, encRef r] (encTake (withoutF l r)) [] := by
  have hlen := hl.1
  refine gcode hT hM Tryz.func53 rfl rfl (rv := [(4, none), (5, none)]) rfl rfl rfl fun G hG => ?_
  conv => whnf
  refine CallK.lent (f33 l hl.ok) rfl ?_
  conv => whnf
  refine ⟨fun h1 => ?_, fun h1 => ?_⟩
  · have h1 : rightFields l = false := by simpa using h1
    conv => whnf
    exact ⟨[], _, _, _, rfl, rfl, rfl, by unfold withoutF; rw [h1]; exact nil_take, trivial⟩
  have h1 : rightFields l = true := by simpa using h1
  conv => whnf
  refine CallK.lent (f81 l r hl.ok) rfl ?_
  conv => whnf
  cases hp : placeIn l r with
  | none =>
    have hw : withoutF l r = ([], 6) := by unfold withoutF; rw [h1, hp]; rfl
    refine ⟨fun h2 => ?_, fun h2 => ?_⟩
    · conv => whnf
      exact ⟨[], _, _, _, rfl, rfl, rfl, by rw [hw]; exact nil_take, trivial⟩
    · rw [iLt_f] at h2
      have h2 : (0 : Int) ≤ -1 := h2
      omega
  | some j =>
    have hw : withoutF l r = (l.eraseIdx j, 0) := by unfold withoutF; rw [h1, hp]; show (notAt l r, (0 : Int)) = _; rw [notAt_erase h1 hp]
    obtain ⟨_, hj, _, _⟩ := findUpto_some _ _ _ _ hp
    have hj : j < l.length := by omega
    refine ⟨fun h2 => ?_, fun h2 => ?_⟩
    · rw [iLt_t] at h2
      have h2 : ((j : Nat) : Int) < 0 := h2
      omega
    clear h1 h2
    conv => whnf
    refine CallK.go [] (f27 l hl) rfl rfl rfl rfl rfl ?_
    conv => whnf
    intro z hz
    have hz : z = wrapO .i64 (((j : Nat) : Int) + 1) := hz
    have hy := wrap64_eq hz (by omega) (by omega)
    clear hz
    subst hy
    conv => whnf
    refine CallK.go [24584] (f82 l j hj hl) rfl rfl rfl rfl rfl ?_
    conv => whnf
    have hel : (l.eraseIdx j).length = l.length - 1 := by rw [List.length_eraseIdx, if_pos hj]
    exact ⟨[], _, _, _, rfl, rfl, rfl, by
      rw [hw]
      exact RepLe.tup2 (PLe.rep (PLe.rows hel.symm fun a b ha hb => by unfold delF; rw [if_pos (by omega)])) (RepLe.refl _), trivial⟩
end Go.Proofs.YtalpbdabeffnlaaGreat

/- One more: the plain laws. -/
set_option linter.unusedVariables false
set_option linter.unusedSimpArgs false
namespace Go.Proofs.YtalpbdabeffnlaaGreat
open Go Go.Av

theorem gap_facts {l : List SField} {f : SField} (h : rightFields l = true) (hp : placeIn l f.place = none) :
    gapOf l f ≤ l.length ∧ (∀ i, i < gapOf l f → lessRef (l.getD i noField).place f.place = true) ∧ ∀ i, gapOf l f ≤ i → i < l.length → lessRef f.place (l.getD i noField).place = true := by
  have hno : ∀ i, i < l.length → sameRef (l.getD i noField).place f.place = false := fun i hi => findUpto_none _ _ _ hp i (Nat.zero_le _) (by omega)
  unfold gapOf
  cases hg : findUpto (fun i => !lessRef (l.getD i noField).place f.place) l.length 0 with
  | none =>
    refine ⟨Nat.le_refl _, fun i hi => ?_, fun i h1 h2 => ?_⟩
    · have hi : i < l.length := hi
      have := findUpto_none _ _ _ hg i (Nat.zero_le _) (by omega)
      simpa using this
    · have h1 : l.length ≤ i := h1
      omega
  | some k =>
    obtain ⟨_, hk, hpk, hmin⟩ := findUpto_some _ _ _ _ hg
    have hk : k < l.length := by omega
    have hpk : lessRef (l.getD k noField).place f.place = false := by simpa using hpk
    have hkf : lessRef f.place (l.getD k noField).place = true := by
      cases q : lessRef f.place (l.getD k noField).place with
      | true => rfl
      | false =>
        have := less_conn hpk q
        have h2 := hno k hk
        rw [same_ref.2 this] at h2; cases h2
    refine ⟨Nat.le_of_lt hk, fun i hi => ?_, fun i h1 h2 => ?_⟩
    · have hi : i < k := hi
      have := hmin i (Nat.zero_le _) hi
      simpa using this
    · have h1 : k ≤ i := h1
      rcases Nat.lt_or_ge k i with h3 | h3
      · exact less_trans hkf (right_sorted h i h2 k h3)
      · have : i = k := by omega
        subst this; exact hkf
theorem put_len (l : List SField) (f : SField) (hk : gapOf l f ≤ l.length) : (putIn l f).length = l.length + 1 := by
  unfold putIn
  simp
  omega
theorem put_get (l : List SField) (f : SField) (hk : gapOf l f ≤ l.length) (i : Nat) : (putIn l f).getD i noField = if i < gapOf l f then l.getD i noField else if i = gapOf l f then f else l.getD (i - 1) noField := by
  unfold putIn
  have ht : (l.take (gapOf l f)).length = gapOf l f := by simp; omega
  simp only [List.getD_eq_getElem?_getD]
  by_cases h1 : i < gapOf l f
  · rw [if_pos h1, List.getElem?_append_left (by omega), List.getElem?_take, if_pos h1]
  · rw [if_neg h1, List.getElem?_append_right (by omega), ht]
    by_cases h2 : i = gapOf l f
    · rw [if_pos h2, h2, Nat.sub_self]; rfl
    · rw [if_neg h2, show i - gapOf l f = (i - 1 - gapOf l f) + 1 by omega, List.getElem?_cons_succ, List.getElem?_drop, show gapOf l f + (i - 1 - gapOf l f) = i - 1 by omega]
theorem put_sorted {l : List SField} {f : SField} (h : rightFields l = true) (hp : placeIn l f.place = none) : ∀ a b, a < b → b < l.length + 1 → lessRef ((putIn l f).getD a noField).place ((putIn l f).getD b noField).place = true := by
  obtain ⟨hk, h1, h2⟩ := gap_facts h hp
  intro a b hab hb
  rw [put_get l f hk, put_get l f hk]
  by_cases ha1 : a < gapOf l f
  · rw [if_pos ha1]
    by_cases hb1 : b < gapOf l f
    · rw [if_pos hb1]; exact right_sorted h b (by omega) a hab
    · rw [if_neg hb1]
      by_cases hb2 : b = gapOf l f
      · rw [if_pos hb2]; exact h1 a ha1
      · rw [if_neg hb2]; exact right_sorted h (b - 1) (by omega) a (by omega)
  · rw [if_neg ha1, if_neg (show ¬ b < gapOf l f by omega), if_neg (show ¬ b = gapOf l f by omega)]
    by_cases ha2 : a = gapOf l f
    · rw [if_pos ha2]; exact h2 (b - 1) (by omega) (by omega)
    · rw [if_neg ha2]; exact right_sorted h (b - 1) (by omega) (a - 1) (by omega)
theorem put_perm (l : List SField) (f : SField) : (putIn l f).Perm (l ++ [f]) := by
  unfold putIn
  refine List.perm_middle.trans ?_
  rw [List.take_append_drop]
  exact List.perm_append_comm (l₁ := [f]) (l₂ := l)
theorem put_pairs {l : List SField} {f : SField} (h : rightFields l = true) (hp : placeIn l f.place = none) : (putIn l f).Pairwise fun a b => lessRef a.place b.place = true := by
  have hk := (gap_facts h hp).1
  rw [List.pairwise_iff_getElem]
  intro i j hi hj hij
  have := put_sorted h hp i j hij (by rw [← put_len l f hk]; exact hj)
  rw [List.getD_eq_getElem?_getD, List.getD_eq_getElem?_getD, List.getElem?_eq_getElem hi, List.getElem?_eq_getElem hj] at this
  exact this
theorem put_right {l : List SField} {f : SField} (h : rightFields l = true) (hf : fieldOk f = true) (hp : placeIn l f.place = none) (h15 : l.length ≤ 15) : rightFields (putIn l f) = true := by
  have hk := (gap_facts h hp).1
  have hlen := put_len l f hk
  unfold rightFields
  rw [Bool.and_eq_true, iLe_t, allUpto_iff]
  refine ⟨by rw [hlen]; omega, fun i _ hi => ?_⟩
  have hi : i < l.length + 1 := by rw [hlen] at hi; omega
  unfold rightStep
  rw [Bool.and_eq_true, Bool.or_eq_true]
  constructor
  · rw [put_get l f hk]
    by_cases h1 : i < gapOf l f
    · rw [if_pos h1]; exact (right_step h (by omega)).1
    · rw [if_neg h1]
      by_cases h2 : i = gapOf l f
      · rw [if_pos h2]; exact hf
      · rw [if_neg h2]; exact (right_step h (by omega)).1
  · rcases Nat.eq_zero_or_pos i with h0 | h0
    · subst h0; exact .inl (iEq_t.2 rfl)
    · exact .inr (put_sorted h hp (i - 1) i (by omega) hi)
theorem put_place {l : List SField} {f : SField} (h : rightFields l = true) (hp : placeIn l f.place = none) : placeIn (putIn l f) f.place = some (gapOf l f) := by
  obtain ⟨hk, h1, h2⟩ := gap_facts h hp
  have hlen := put_len l f hk
  have hg : ((putIn l f).getD (gapOf l f) noField) = f := by rw [put_get l f hk, if_neg (by omega), if_pos rfl]
  cases q : placeIn (putIn l f) f.place with
  | none =>
    have := findUpto_none _ _ _ q (gapOf l f) (Nat.zero_le _) (by rw [hlen]; omega)
    simp only [hg, same_ref.2 rfl] at this
    cases this
  | some j =>
    obtain ⟨_, hj, hpj, _⟩ := findUpto_some _ _ _ _ q
    have hj : j < l.length + 1 := by rw [hlen] at hj; omega
    have hpj := same_ref.1 hpj
    rcases Nat.lt_trichotomy j (gapOf l f) with h3 | h3 | h3
    · have := put_sorted h hp j (gapOf l f) h3 (by omega)
      rw [hpj, hg, less_irrefl] at this; cases this
    · rw [h3]
    · have := put_sorted h hp (gapOf l f) j h3 hj
      rw [hpj, hg, less_irrefl] at this; cases this
theorem put_erase (l : List SField) (f : SField) (hk : gapOf l f ≤ l.length) : (putIn l f).eraseIdx (gapOf l f) = l := by
  unfold putIn
  have ht : (l.take (gapOf l f)).length = gapOf l f := by simp; omega
  rw [List.eraseIdx_append_of_length_le (by omega), ht, Nat.sub_self]
  simp
theorem without_put {l : List SField} {f : SField} (h : rightFields l = true) (hf : fieldOk f = true) (hp : placeIn l f.place = none) (h15 : l.length ≤ 15) : withoutF (putIn l f) f.place = (l, 0) := by
  have hr := put_right h hf hp h15
  have hq := put_place h hp
  unfold withoutF
  rw [hr, hq]
  show (notAt (putIn l f) f.place, (0 : Int)) = _
  rw [notAt_erase hr hq, put_erase l f (gap_facts h hp).1]
theorem find_put {l : List SField} {f : SField} (h : rightFields l = true) (hp : placeIn l f.place = none) : fieldAt (putIn l f) (placeIn (putIn l f) f.place) = (f, 0) := by
  have hk := (gap_facts h hp).1
  rw [put_place h hp]
  show ((putIn l f).getD (gapOf l f) noField, (0 : Int)) = _
  rw [put_get l f hk, if_neg (by omega), if_pos rfl]
end Go.Proofs.YtalpbdabeffnlaaGreat
