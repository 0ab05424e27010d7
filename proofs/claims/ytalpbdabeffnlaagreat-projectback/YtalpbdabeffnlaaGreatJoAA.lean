import Derived.Test.YtalpbdabeffnlaaGreatJoX
/- Lists of fields: is one a right schema; where a place is. -/
set_option linter.unusedVariables false
set_option linter.unusedSimpArgs false
namespace Go.Proofs.YtalpbdabeffnlaaGreat
open Go Go.Av
set_option maxRecDepth 100000

def rightStep (l : List SField) (i : Nat) : Bool := fieldOk (l.getD i noField) && (iEq (i : Nat) 0 || lessRef (l.getD (i - 1) noField).place (l.getD i noField).place)
def rightFields (l : List SField) : Bool := iLe l.length 16 && allUpto (rightStep l) l.length 0

theorem f34 (l : List SField) (hl : okFields l) : PCall Tryz.prog 41 [encFields l] (.p (.val (.bool (rightFields l)))) [] := by
  have hlen : l.length ≤ 9223372036854775807 := hl.1
  refine gcode hT hM Tryz.func41 rfl rfl (rv := [(2, none)]) rfl rfl rfl fun G hG => ?_
  conv => whnf
  refine ⟨fun h => ?_, fun h => ?_⟩
  · conv => whnf
    exact ⟨[], _, _, _, rfl, rfl, rfl, RepLe.bl (by simp_all [rightFields, iLt_not]), trivial⟩
  conv => whnf
  have h : iLe (l.length : Int) 16 = true := by simpa [iLt_not] using h
  refine AW.loop (X := Nat) (fun i => told 38 [(0, .p (encFields l)), (3, vI .i64 (i : Int))] [] []) (fun i => i ≤ l.length ∧ rightFields l = allUpto (rightStep l) (l.length - i) i) (fun i => l.length - i) (used0 hG _) 0 ⟨by omega, by simp [rightFields, h]⟩ (stle ⟨RepLe.refl _, RepLe.refl _, trivial⟩ trivial rfl) ?_
  rintro i ⟨hi, hr⟩
  refine codeK_aw hT hM _ _ _ ?_
  conv => whnf
  refine ⟨fun h4 => ?_, fun h4 => ?_⟩
  · have hlt : i < l.length := by rw [iLt_t] at h4; omega
    rw [allUpto_step _ hlt] at hr
    conv => whnf
    refine ⟨by omega, ?_⟩
    conv => whnf
    refine CallK.lent (f85 (l.getD i noField) (hl.at i)) rfl ?_
    conv => whnf
    refine ⟨fun a1 => ?_, fun a1 => ?_⟩
    · conv => whnf
      refine ⟨rfl, ?_⟩
      conv => whnf
      have a1 : fieldOk (l.getD i noField) = false := by simpa using a1
      exact ⟨[], _, _, _, rfl, rfl, rfl, RepLe.bl (by rw [hr]; unfold rightStep; rw [a1]; simp), trivial⟩
    have a1 : fieldOk (l.getD i noField) = true := by simpa using a1
    conv => whnf
    refine ⟨fun a2 => ?_, fun a2 => ?_⟩
    · have h0 : 0 < i := by rw [iLt_t] at a2; omega
      have a3 : iEq (i : Nat) 0 = false := by rw [iEq_f]; omega
      conv => whnf
      intro z hz
      have hw := wrap64_eq hz (by omega) (by omega)
      clear hz
      have hy : z = ((i - 1 : Nat) : Int) := by omega
      clear hw
      subst hy
      conv => whnf
      refine ⟨by omega, ?_⟩
      conv => whnf
      refine ⟨by omega, ?_⟩
      conv => whnf
      refine CallK.lent (f86 (l.getD (i - 1) noField).place (l.getD i noField).place) rfl ?_
      conv => whnf
      refine ⟨rfl, ?_⟩
      conv => whnf
      refine ⟨fun h5 => ?_, fun h5 => ?_⟩
      · have h5 : lessRef (l.getD (i - 1) noField).place (l.getD i noField).place = false := by simpa using h5
        conv => whnf
        exact ⟨[], _, _, _, rfl, rfl, rfl, RepLe.bl (by rw [hr]; unfold rightStep; rw [a3, h5]; simp), trivial⟩
      have h5 : lessRef (l.getD (i - 1) noField).place (l.getD i noField).place = true := by simpa using h5
      conv => whnf
      intro z hz
      have hy := wrap64_eq hz (by omega) (by omega)
      clear hz
      subst hy
      conv => whnf
      exact ⟨i + 1, ⟨by omega, by rw [hr]; unfold rightStep; rw [a1, h5]; simp⟩, by omega, stle ⟨RepLe.refl _, RepLe.of rfl, trivial⟩ trivial rfl⟩
    have a3 : iEq (i : Nat) 0 = true := by rw [iEq_t]; rw [iLt_f] at a2; omega
    conv => whnf
    refine ⟨rfl, ?_⟩
    conv => whnf
    intro z hz
    have hy := wrap64_eq hz (by omega) (by omega)
    clear hz
    subst hy
    conv => whnf
    exact ⟨i + 1, ⟨by omega, by rw [hr]; unfold rightStep; rw [a1, a3]; simp⟩, by omega, stle ⟨RepLe.refl _, RepLe.of rfl, trivial⟩ trivial rfl⟩
  · have hge : i = l.length := by rw [iLt_f] at h4; omega
    subst hge
    conv => whnf
    exact ⟨[], _, _, _, rfl, rfl, rfl, RepLe.bl (by rw [hr, allUpto_end]), trivial⟩

theorem f33 (l : List SField) (hl : okFields l) : PCall Tryz.prog 39 [encFields l] (.p (.val (.bool (rightFields l)))) [] := by
  have hlen : l.length ≤ 9223372036854775807 := hl.1
  refine gcode hT hM Tryz.func39 rfl rfl (rv := [(2, none)]) rfl rfl rfl fun G hG => ?_
  conv => whnf
  refine AW.scope (X := Nat) 0 (fun i => told 36 [(0, .p (encFields l)), (3, vI .i64 (i : Int))] [] []) (fun i => i ≤ l.length ∧ rightFields l = allUpto (rightStep l) (l.length - i) i) (fun i => l.length - i) (used0 hG _) rfl ?_ ?_
  · refine codeK_aw hT hM _ _ _ ?_
    conv => whnf
    refine ⟨fun h => ?_, fun h => ?_⟩
    · conv => whnf
      exact ⟨[], _, _, _, rfl, rfl, rfl, RepLe.bl (by simp_all [rightFields, iLt_not]), trivial⟩
    have h : iLe (l.length : Int) 16 = true := by simpa [iLt_not] using h
    conv => whnf
    refine ⟨fun h4 => ?_, fun h4 => ?_⟩
    · have hz : l.length = 0 := by rw [iEq_t] at h4; omega
      conv => whnf
      exact ⟨[], _, _, _, rfl, rfl, rfl, RepLe.bl (by simp [rightFields, h]; rw [hz]; rfl), trivial⟩
    have hlt : 0 < l.length := by rw [iEq_f] at h4; omega
    have hr : rightFields l = (rightStep l 0 && allUpto (rightStep l) (l.length - (0 + 1)) (0 + 1)) := by rw [← allUpto_step _ hlt]; simp [rightFields, h]
    conv => whnf
    refine ⟨by omega, ?_⟩
    conv => whnf
    refine CallK.lent (f71 (l.getD 0 noField) (hl.at 0)) rfl ?_
    conv => whnf
    refine ⟨fun a1 => ?_, fun a1 => ?_⟩
    · conv => whnf
      refine ⟨fun a3 => ?_, fun a3 => ?_⟩
      · conv => whnf
        refine ⟨rfl, ?_⟩
        conv => whnf
        intro z hz
        have hy := wrap64_eq hz (by omega) (by omega)
        clear hz
        subst hy
        conv => whnf
        exact ⟨1, ⟨by omega, by rw [hr, show rightStep l 0 = true by unfold rightStep; rw [a1, show iEq ((0 : Nat) : Int) 0 = true from iEq_t.2 rfl]; simp]; simp⟩, stle ⟨RepLe.refl _, RepLe.of rfl, trivial⟩ trivial rfl⟩
      · rw [iEq_f] at a3
        exact absurd rfl a3
    conv => whnf
    refine ⟨rfl, ?_⟩
    conv => whnf
    exact ⟨[], _, _, _, rfl, rfl, rfl, RepLe.bl (by rw [hr]; unfold rightStep; rw [a1]; simp), trivial⟩
  · rintro i ⟨hi, hr⟩
    refine codeK_aw hT hM _ _ _ ?_
    conv => whnf
    refine ⟨fun h4 => ?_, fun h4 => ?_⟩
    · have hz : i = l.length := by rw [iEq_t] at h4; omega
      subst hz
      conv => whnf
      exact ⟨[], _, _, _, rfl, rfl, rfl, RepLe.bl (by rw [hr, allUpto_end]), trivial⟩
    have hlt : i < l.length := by rw [iEq_f] at h4; omega
    rw [allUpto_step _ hlt] at hr
    conv => whnf
    refine ⟨by omega, ?_⟩
    conv => whnf
    refine CallK.lent (f71 (l.getD i noField) (hl.at i)) rfl ?_
    conv => whnf
    refine ⟨fun a1 => ?_, fun a1 => ?_⟩
    · conv => whnf
      refine ⟨fun a3 => ?_, fun a3 => ?_⟩
      · conv => whnf
        refine ⟨rfl, ?_⟩
        conv => whnf
        intro z hz
        have hy := wrap64_eq hz (by omega) (by omega)
        clear hz
        subst hy
        conv => whnf
        exact ⟨i + 1, ⟨by omega, by rw [hr]; unfold rightStep; rw [a1, a3]; simp⟩, by omega, stle ⟨RepLe.refl _, RepLe.of rfl, trivial⟩ trivial rfl⟩
      have h0 : 0 < i := by rw [iEq_f] at a3; omega
      conv => whnf
      intro z hz
      have hw := wrap64_eq hz (by omega) (by omega)
      clear hz
      have hy : z = ((i - 1 : Nat) : Int) := by omega
      clear hw
      subst hy
      conv => whnf
      refine ⟨by omega, ?_⟩
      conv => whnf
      refine ⟨by omega, ?_⟩
      conv => whnf
      refine CallK.lent (f84 (l.getD (i - 1) noField).place (l.getD i noField).place) rfl ?_
      conv => whnf
      refine ⟨rfl, ?_⟩
      conv => whnf
      refine ⟨fun h5 => ?_, fun h5 => ?_⟩
      · conv => whnf
        intro z hz
        have hy := wrap64_eq hz (by omega) (by omega)
        clear hz
        subst hy
        conv => whnf
        exact ⟨i + 1, ⟨by omega, by rw [hr]; unfold rightStep; rw [a1, h5]; simp⟩, by omega, stle ⟨RepLe.refl _, RepLe.of rfl, trivial⟩ trivial rfl⟩
      conv => whnf
      exact ⟨[], _, _, _, rfl, rfl, rfl, RepLe.bl (by rw [hr]; unfold rightStep; rw [a3, h5]; simp), trivial⟩
    conv => whnf
    refine ⟨rfl, ?_⟩
    conv => whnf
    exact ⟨[], _, _, _, rfl, rfl, rfl, RepLe.bl (by rw [hr]; unfold rightStep; rw [a1]; simp), trivial⟩

/-! ### Where a place is -/
def ptRef (r : SRef) : PV := .rp 3 (at_ .any (refCells r))
def placeIn (l : List SField) (r : SRef) : Option Nat := findUpto (fun i => sameRef (l.getD i noField).place r) l.length 0
theorem f120 (f : SField) (r : SRef) : PCall Tryz.prog 148 [encField f, ptRef r] (.p (.val (.bool (sameRef f.place r)))) [] := by
  refine gcode hT hM Tryz.func148 rfl rfl (rv := [(3, none)]) rfl rfl rfl fun G hG => ?_
  conv => whnf
  exact ⟨[], _, _, _, rfl, rfl, rfl, RepLe.vb (by simp [sameRef]), trivial⟩

theorem f119 (l : List SField) (p : SField → Bool) (g : Nat) (c : Nat → PV) (hl : okFields l) (hg : ∀ x, okField x → PCall Tryz.prog g [encField x, c 0] (.p (.val (.bool (p x)))) []) :
    PCall Tryz.prog 147 [encFields l, .fn g 1 c] (.p (.val (.int .i64 (posOf (findUpto (fun i => p (l.getD i noField)) l.length 0))))) [] := by
  have hlen : l.length ≤ 9223372036854775807 := hl.1
  refine gcode hT hM Tryz.func147 rfl rfl (rv := [(4, none)]) rfl rfl rfl fun G hG => ?_
  conv => whnf
  refine AW.loop (X := Nat) (fun i => told 19 [(0, .p (encFields l)), (1, .p (.fn g 1 c)), (7, vI .i64 (l.length : Int)), (8, vI .i64 (i : Int))] [] []) (fun i => i ≤ l.length ∧ findUpto (fun i => p (l.getD i noField)) l.length 0 = findUpto (fun i => p (l.getD i noField)) (l.length - i) i) (fun i => l.length - i) (used0 hG _) 0 ⟨by omega, by simp⟩ (stle ⟨RepLe.refl _, RepLe.refl _, RepLe.refl _, RepLe.refl _, trivial⟩ trivial rfl) ?_
  rintro i ⟨hi, hr⟩
  refine codeK_aw hT hM _ _ _ ?_
  conv => whnf
  refine ⟨fun h4 => ?_, fun h4 => ?_⟩
  · have hlt : i < l.length := by rw [iLt_t] at h4; omega
    rw [findUpto_step _ hlt] at hr
    conv => whnf
    refine ⟨by omega, ?_⟩
    conv => whnf
    refine CallK.lent (hg (l.getD i noField) (hl.at i)) rfl ?_
    conv => whnf
    refine ⟨fun h5 => ?_, fun h5 => ?_⟩
    · conv => whnf
      exact ⟨[], _, _, _, rfl, rfl, rfl, RepLe.vi (by rw [hr, h5]; rfl), trivial⟩
    conv => whnf
    intro z hz
    have hy := wrap64_eq hz (by omega) (by omega)
    clear hz
    subst hy
    conv => whnf
    exact ⟨i + 1, ⟨by omega, by rw [hr, h5]⟩, by omega, stle ⟨RepLe.refl _, RepLe.refl _, RepLe.refl _, RepLe.of rfl, trivial⟩ trivial rfl⟩
  · have hge : i = l.length := by rw [iLt_f] at h4; omega
    subst hge
    conv => whnf
    exact ⟨[], _, _, _, rfl, rfl, rfl, RepLe.vi (by rw [hr, findUpto_end]; rfl), trivial⟩

theorem f81 (l : List SField) (r : SRef) (hl : okFields l) : PCall Tryz.prog 99 [encFields l, encRef r] (.p (.val (.int .i64 (posOf (placeIn l r))))) [] := by
  refine gcode hT hM Tryz.func99 rfl rfl (rv := [(4, none)]) rfl rfl rfl fun G hG => ?_
  conv => whnf
  refine CallK.lent (f119 l (fun x => sameRef x.place r) 148 (at_ .any [ptRef r]) hl (fun x hx => f120 x r)) rfl ?_
  conv => whnf
  exact ⟨[], _, _, _, rfl, rfl, rfl, RepLe.refl _, trivial⟩

theorem f31 (l : List SField) (r : SRef) (hl : okFields l) : PCall Tryz.prog 34 [encFields l, encRef r] (.p (.val (.int .i64 (posOf (placeIn l r))))) [] := by
  have hlen : l.length ≤ 9223372036854775807 := hl.1
  refine gcode hT hM Tryz.func34 rfl rfl (rv := [(4, none)]) rfl rfl rfl fun G hG => ?_
  conv => whnf
  refine AW.loop (X := Nat) (fun i => told 20 [(0, .p (encFields l)), (3, .pt 0 0), (5, vI .i64 (i : Int))] [(0, some (.box 36 ((refCells r).map .p)))] [0]) (fun i => i ≤ l.length ∧ placeIn l r = findUpto (fun i => sameRef (l.getD i noField).place r) (l.length - i) i) (fun i => l.length - i) (used0 hG _) 0 ⟨by omega, by simp [placeIn]⟩ (stle ⟨RepLe.refl _, RepLe.refl _, RepLe.refl _, trivial⟩ ⟨⟨_, rfl, BlkLe.refl _⟩, trivial⟩ rfl) ?_
  rintro i ⟨hi, hr⟩
  refine codeK_aw hT hM _ _ _ ?_
  conv => whnf
  refine ⟨fun h4 => ?_, fun h4 => ?_⟩
  · have hlt : i < l.length := by rw [iLt_t] at h4; omega
    rw [findUpto_step _ hlt] at hr
    conv => whnf
    refine ⟨by omega, ?_⟩
    conv => whnf
    refine ⟨rfl, ?_⟩
    conv => whnf
    refine ⟨fun h5 => ?_, fun h5 => ?_⟩
    · have h5 : sameRef (l.getD i noField).place r = true := by simpa [sameRef] using h5
      conv => whnf
      exact ⟨[], _, _, _, rfl, rfl, rfl, RepLe.vi (by rw [hr, h5]; rfl), trivial⟩
    have h5 : sameRef (l.getD i noField).place r = false := by simpa [sameRef] using h5
    conv => whnf
    intro z hz
    have hy := wrap64_eq hz (by omega) (by omega)
    clear hz
    subst hy
    conv => whnf
    exact ⟨i + 1, ⟨by omega, by rw [hr, h5]⟩, by omega, stle ⟨RepLe.refl _, RepLe.refl _, RepLe.of rfl, trivial⟩ ⟨⟨_, rfl, BlkLe.refl _⟩, trivial⟩ rfl⟩
  · have hge : i = l.length := by rw [iLt_f] at h4; omega
    subst hge
    conv => whnf
    exact ⟨[], _, _, _, rfl, rfl, rfl, RepLe.vi (by rw [hr, findUpto_end]; rfl), trivial⟩

def fieldAt (l : List SField) : Option Nat → SField × Int
  | some i => (l.getD i noField, 0)
  | none => (noField, 6)
def encFind (x : SField × Int) : AV := .tup 2 (at_ (.p .any) [.p (encField x.1), .p (.val (.int .i64 x.2))])
end Go.Proofs.YtalpbdabeffnlaaGreat

/- Copies of lists of fields, the root, the awakening. -/
set_option linter.unusedVariables false
set_option linter.unusedSimpArgs false
namespace Go.Proofs.YtalpbdabeffnlaaGreat
open Go Go.Av
set_option maxRecDepth 100000

def fitFields (l : List SField) : Prop := l.length * 96 ≤ 140737488351232 ∧ ∀ x ∈ l, fitField x
theorem fitFields.ok {l : List SField} (h : fitFields l) : okFields l := ⟨by have := h.1; show l.length ≤ 9223372036854775807; omega, fun x hx => (h.2 x hx).ok⟩
theorem fitFields.at {l : List SField} (h : fitFields l) (i : Nat) : fitField (l.getD i noField) := by
  rw [List.getD_eq_getElem?_getD]
  rcases Nat.lt_or_ge i l.length with hi | hi
  · rw [List.getElem?_eq_getElem hi]; exact h.2 _ (List.getElem_mem hi)
  · rw [List.getElem?_eq_none hi]; exact Nat.zero_le _

theorem f27 (l : List SField) (hl : fitFields l) : PCall Tryz.prog 40 [encFields l] (.sl 0) [rowFields l] := by
  have hlen := hl.1
  refine gcode hT hM Tryz.func40 rfl rfl (rv := [(2, none)]) rfl rfl rfl fun G hG => ?_
  conv => whnf
  intro z hz
  have hy := wrap64_eq hz (by omega) (by omega)
  clear hz
  subst hy
  conv => whnf
  refine ⟨⟨by omega, by omega, show (96 : Int) * ((l.length : Int) + 1) ≤ 281474976710656 by omega, by omega⟩, ?_⟩
  conv => whnf
  refine AW.loop (X := Nat) (fun i => told 23 [(3, .sl 4120), (10, .p (encFields l)), (11, vI .i64 (l.length : Int)), (12, vI .i64 (i : Int))] [(4120, some (.row 39 7 i fun j => at_ .any (fieldCells (l.getD j noField))))] [4120]) (fun i => i ≤ l.length ∧ True) (fun i => l.length - i) (used0 hG _) 0 ⟨by omega, trivial⟩ (stle ⟨RepLe.refl _, RepLe.refl _, RepLe.refl _, RepLe.refl _, trivial⟩ ⟨⟨_, rfl, BlkLe.row rfl (fun i j hi => absurd hi (Nat.not_lt_zero _))⟩, trivial⟩ rfl) ?_
  rintro i ⟨hi, hr⟩
  refine codeK_aw hT hM _ _ _ ?_
  conv => whnf
  refine ⟨fun h4 => ?_, fun h4 => ?_⟩
  · have hlt : i < l.length := by rw [iLt_t] at h4; omega
    conv => whnf
    refine ⟨by omega, ?_⟩
    conv => whnf
    refine CallK.go [] (f78 (l.getD i noField) (hl.at i)) rfl rfl rfl rfl rfl ?_
    conv => whnf
    refine ⟨⟨show i + 1 ≤ 9223372036854775807 by omega, show (i + 1) * 96 ≤ 140737488355328 by omega⟩, ?_⟩
    conv => whnf
    intro z hz
    have hy := wrap64_eq hz (by omega) (by omega)
    clear hz
    subst hy
    conv => whnf
    refine ⟨i + 1, ⟨by omega, trivial⟩, by omega, stleR [(4120, 20512)] ⟨RepLe.refl _, RepLe.refl _, RepLe.refl _, RepLe.of rfl, trivial⟩ ⟨⟨_, rfl, BlkLe.row rfl fun a b ha hb => ?_⟩, trivial⟩ rfl⟩
    by_cases hai : a < i
    · rw [catF_lt hai]
    · have : a = i := by omega
      subst this
      rw [catF_ge (Nat.le_refl _), Nat.sub_self]
      have hb : b < 7 := hb
      have hb : b = 0 ∨ b = 1 ∨ b = 2 ∨ b = 3 ∨ b = 4 ∨ b = 5 ∨ b = 6 := by omega
      rcases hb with rfl | rfl | rfl | rfl | rfl | rfl | rfl <;> rfl
  · have hge : i = l.length := by rw [iLt_f] at h4; omega
    subst hge
    conv => whnf
    exact ⟨[4120], _, _, _, rfl, rfl, rfl, RepLe.of rfl, BlkLe.refl _, trivial⟩

theorem f30 (l : List SField) (r : SRef) (hl : fitFields l) : PCall Tryz.prog 48 [encFields l, encRef r] (encFind (fieldAt l (placeIn l r))) [] := by
  have c := f81 l r hl.ok
  cases hp : placeIn l r with
  | none =>
    rw [hp] at c
    refine gcode hT hM Tryz.func48 rfl rfl (rv := [(4, some 39), (5, none)]) rfl rfl rfl fun G hG => ?_
    conv => whnf
    refine CallK.lent (c) rfl ?_
    conv => whnf
    refine ⟨fun h => ?_, fun h => ?_⟩
    · rw [posOf_none] at h; cases h
    conv => whnf
    exact ⟨[], _, _, _, rfl, rfl, rfl, RepLe.tup2 (PLe.rep (PLe.agg (by repeat' (first | refine PLes.cons ?_ ?_ | exact PLe.refl _ | exact PLe.nil | exact PLes.end)))) (RepLe.refl _), trivial⟩
  | some j =>
    rw [hp] at c
    have hj := (findUpto_some _ _ _ _ hp).2.1
    refine gcode hT hM Tryz.func48 rfl rfl (rv := [(4, some 39), (5, none)]) rfl rfl rfl fun G hG => ?_
    conv => whnf
    refine CallK.lent (c) rfl ?_
    conv => whnf
    refine ⟨fun h => ?_, fun h => ?_⟩
    · conv => whnf
      refine ⟨⟨Int.natCast_nonneg j, show (j : Int) < (l.length : Int) by omega⟩, ?_⟩
      conv => whnf
      refine CallK.go [] (f78 (l.getD j noField) (hl.at j)) rfl rfl rfl rfl rfl ?_
      conv => whnf
      exact ⟨[], _, _, _, rfl, rfl, rfl, RepLe.tup2 (PLe.rep (PLe.refl _)) (RepLe.refl _), trivial⟩
    · rw [posOf_has] at h; cases h

theorem root_fit : fitFields rootFields := ⟨by decide, by intro x hx; simp [rootFields] at hx; rcases hx with rfl | rfl | rfl | rfl | rfl <;> (unfold fitField; decide)⟩
theorem root_right : rightFields rootFields = true := by decide +kernel
def scopeOf (l : List SField) (s : Int) : List SField := l.filter fun f => iEq f.place.scope s
theorem scope_step (l : List SField) (s : Int) {i : Nat} (h : i < l.length) : (l.take (i + 1)).filter (fun f => iEq f.place.scope s) = (l.take i).filter (fun f => iEq f.place.scope s) ++ if iEq (l.getD i noField).place.scope s then [l.getD i noField] else [] := by
  rw [List.take_add_one, List.getD_eq_getElem?_getD, List.getElem?_eq_getElem h, List.filter_append]
  simp only [Option.toList, Option.getD, List.filter_cons, List.filter_nil]
theorem rowSnoc (l : List SField) (x : SField) {g : Nat → Nat → PV} (hg : ∀ b, b < 7 → PLe (g 0 b) (at_ .any (fieldCells x) b)) :
    BlkLe (.row 39 7 (l.length + 1) (catF l.length (fun i => at_ .any (fieldCells (l.getD i noField))) g)) (.row 39 7 (l ++ [x]).length fun i => at_ .any (fieldCells ((l ++ [x]).getD i noField))) := by
  refine BlkLe.rowLe (by simp) fun a b ha hb => ?_
  by_cases hal : a < l.length
  · rw [catF_lt hal, show (l ++ [x]).getD a noField = l.getD a noField by simp [List.getD_eq_getElem?_getD, List.getElem?_append_left hal]]
    exact PLe.refl _
  · have : a = l.length := by omega
    subst this
    rw [catF_ge (Nat.le_refl _), Nat.sub_self, show (l ++ [x]).getD l.length noField = x by simp [List.getD_eq_getElem?_getD]]
    exact hg b hb
theorem f35 (l : List SField) (s : Int) (hl : fitFields l) : PCall Tryz.prog 71 [encFields l, .val (.int .i64 s)] (.sl 0) [rowFields (scopeOf l s)] := by
  have hlen := hl.1
  refine gcode hT hM Tryz.func71 rfl rfl (rv := [(4, none)]) rfl rfl rfl fun G hG => ?_
  conv => whnf
  refine AW.loop (X := Nat) (fun i => told 30 [(0, .p (encFields l)), (1, vI .i64 s), (5, .sl 4096), (6, vI .i64 (i : Int))] [(4096, rowFields (scopeOf (l.take i) s))] [4096]) (fun i => i ≤ l.length) (fun i => l.length - i) (used0 hG _) 0 (by omega) (stle ⟨RepLe.refl _, RepLe.refl _, RepLe.refl _, RepLe.refl _, trivial⟩ ⟨⟨_, rfl, BlkLe.row rfl (fun i j hi => absurd hi (Nat.not_lt_zero _))⟩, trivial⟩ rfl) ?_
  rintro i hi
  have hc : (scopeOf (l.take i) s).length ≤ i := Nat.le_trans (List.length_filter_le _ _) (by simp; omega)
  refine codeK_aw hT hM _ _ _ ?_
  conv => whnf
  refine ⟨fun h4 => ?_, fun h4 => ?_⟩
  · have hlt : i < l.length := by rw [iLt_t] at h4; omega
    have hst := scope_step l s hlt
    conv => whnf
    refine ⟨by omega, ?_⟩
    conv => whnf
    refine ⟨fun h5 => ?_, fun h5 => ?_⟩
    · have h5 : iEq (l.getD i noField).place.scope s = true := h5
      rw [h5] at hst
      have hst : scopeOf (l.take (i + 1)) s = scopeOf (l.take i) s ++ [l.getD i noField] := hst
      conv => whnf
      refine ⟨by omega, ?_⟩
      conv => whnf
      refine ⟨⟨show (scopeOf (l.take i) s).length + 1 ≤ 9223372036854775807 by omega, show ((scopeOf (l.take i) s).length + 1) * 96 ≤ 140737488355328 by omega⟩, ?_⟩
      conv => whnf
      intro z hz
      have hy := wrap64_eq hz (by omega) (by omega)
      clear hz
      subst hy
      conv => whnf
      refine ⟨i + 1, by omega, by omega, stleR [(4096, 24624)] ⟨RepLe.refl _, RepLe.refl _, RepLe.refl _, RepLe.of rfl, trivial⟩ ⟨⟨_, rfl, ?_⟩, trivial⟩ rfl⟩
      show BlkLe _ (.row 39 7 (scopeOf (l.take (i + 1)) s).length fun j => at_ .any (fieldCells ((scopeOf (l.take (i + 1)) s).getD j noField)))
      rw [hst]
      refine rowSnoc _ _ fun b hb => ?_
      have hb : b = 0 ∨ b = 1 ∨ b = 2 ∨ b = 3 ∨ b = 4 ∨ b = 5 ∨ b = 6 := by omega
      rcases hb with rfl | rfl | rfl | rfl | rfl | rfl | rfl <;> exact PLe.refl _
    · have h5 : iEq (l.getD i noField).place.scope s = false := h5
      rw [h5] at hst
      have hst : scopeOf (l.take (i + 1)) s = scopeOf (l.take i) s := by
        have := hst
        simp at this
        exact this
      conv => whnf
      intro z hz
      have hy := wrap64_eq hz (by omega) (by omega)
      clear hz
      subst hy
      conv => whnf
      refine ⟨i + 1, by omega, by omega, stle ⟨RepLe.refl _, RepLe.refl _, RepLe.refl _, RepLe.of rfl, trivial⟩ ⟨⟨_, rfl, by rw [hst]; exact BlkLe.refl _⟩, trivial⟩ rfl⟩
  · have hge : i = l.length := by rw [iLt_f] at h4; omega
    subst hge
    conv => whnf
    exact ⟨[4096], _, _, _, rfl, rfl, rfl, RepLe.of rfl, by rw [List.take_length]; exact BlkLe.refl _, trivial⟩
end Go.Proofs.YtalpbdabeffnlaaGreat

/- Lists of fields: what is deleted of one in place; the scope. -/
set_option linter.unusedVariables false
set_option linter.unusedSimpArgs false
namespace Go.Proofs.YtalpbdabeffnlaaGreat
open Go Go.Av
set_option maxRecDepth 100000

theorem PLe.any (a : PV) : PLe a .any := fun _ _ _ _ => trivial
/-- What stays of the first elements. -/
def keptOf (p : SField → Bool) (l : List SField) (j : Nat) : List SField := (l.take j).filter fun x => !p x
/-- The row while its elements are moved up. -/
def movedF (p : SField → Bool) (l : List SField) (j : Nat) : Nat → Nat → PV := fun a b =>
  if a < (keptOf p l j).length then at_ .any (fieldCells ((keptOf p l j).getD a noField)) b else if a < j then .any else at_ .any (fieldCells (l.getD a noField)) b
theorem kept_le (p : SField → Bool) (l : List SField) (j : Nat) : (keptOf p l j).length ≤ j := Nat.le_trans (List.length_filter_le _ _) (by simp; omega)
theorem kept_step (p : SField → Bool) (l : List SField) {j : Nat} (h : j < l.length) : keptOf p l (j + 1) = keptOf p l j ++ if !p (l.getD j noField) then [l.getD j noField] else [] := by
  unfold keptOf
  rw [List.take_add_one, List.getD_eq_getElem?_getD, List.getElem?_eq_getElem h, List.filter_append]
  simp only [Option.toList, Option.getD, List.filter_cons, List.filter_nil]
theorem moved_ge (p : SField → Bool) (l : List SField) {j a : Nat} (h : j ≤ a) (b : Nat) : movedF p l j a b = at_ .any (fieldCells (l.getD a noField)) b := by
  have := kept_le p l j
  unfold movedF
  rw [if_neg (by omega), if_neg (by omega)]
theorem moved_lt (p : SField → Bool) (l : List SField) {j a : Nat} (h : a < (keptOf p l j).length) (b : Nat) : movedF p l j a b = at_ .any (fieldCells ((keptOf p l j).getD a noField)) b := by
  unfold movedF
  rw [if_pos h]
/-- The first of those that go. -/
def firstOf (p : SField → Bool) (l : List SField) : Option Nat := findUpto (fun i => p (l.getD i noField)) l.length 0
theorem kept_first (p : SField → Bool) (l : List SField) {i : Nat} (h : firstOf p l = some i) : ∀ j, j ≤ i → keptOf p l j = l.take j := by
  obtain ⟨_, hi, hp, hmin⟩ := findUpto_some _ _ _ _ h
  intro j hj
  unfold keptOf
  rw [List.filter_eq_self]
  intro x hx
  obtain ⟨k, hk, rfl⟩ := List.mem_iff_getElem.1 hx
  have hk' : k < j := by simp at hk; omega
  have := hmin k (by omega) (by omega)
  simp only [List.getElem_take]
  rw [List.getD_eq_getElem?_getD, List.getElem?_eq_getElem (by omega)] at this
  simpa using this
theorem first_none (p : SField → Bool) (l : List SField) (h : firstOf p l = none) : (l.filter fun x => !p x) = l := by
  rw [List.filter_eq_self]
  intro x hx
  obtain ⟨k, hk, rfl⟩ := List.mem_iff_getElem.1 hx
  have := findUpto_none _ _ _ h k (by omega) (by omega)
  rw [List.getD_eq_getElem?_getD, List.getElem?_eq_getElem hk] at this
  simpa using this
theorem cells7 {f g : Nat → PV} (h : ∀ b, b < 7 → PLe (f b) (g b)) : PLes [f 0, f 1, f 2, f 3, f 4, f 5, f 6] [g 0, g 1, g 2, g 3, g 4, g 5, g 6] :=
  ⟨h 0 (by omega), h 1 (by omega), h 2 (by omega), h 3 (by omega), h 4 (by omega), h 5 (by omega), h 6 (by omega), trivial⟩

theorem set_move (p : SField → Bool) (l : List SField) {j : Nat} (hj : j < l.length) (hp : p (l.getD j noField) = false) {ys : List PV} (hl : ys.length = 7) (hy : ∀ b, b < 7 → at_ .any ys b = at_ .any (fieldCells (l.getD j noField)) b) :
    BlkLe (.row 39 7 l.length (setF (keptOf p l j).length 0 ys (movedF p l j))) (.row 39 7 l.length (movedF p l (j + 1))) := by
  have hst := kept_step p l hj
  rw [hp] at hst
  have hst : keptOf p l (j + 1) = keptOf p l j ++ [l.getD j noField] := hst
  have hkl : (keptOf p l (j + 1)).length = (keptOf p l j).length + 1 := by rw [hst]; simp
  have hk := kept_le p l j
  refine BlkLe.rowLe rfl fun a b ha hb => ?_
  have hset : setF (keptOf p l j).length 0 ys (movedF p l j) a b = if a = (keptOf p l j).length then at_ .any ys b else movedF p l j a b := by
    unfold setF
    by_cases e : a = (keptOf p l j).length
    · rw [if_pos e, show (Nat.beq a (keptOf p l j).length && (Nat.ble 0 b && Nat.blt b (0 + ys.length))) = true by
        simp only [Bool.and_eq_true]; exact ⟨by rw [e]; exact Nat.beq_refl _, Nat.ble_eq_true_of_le (Nat.zero_le _), Nat.ble_eq_true_of_le (by omega)⟩]
      rfl
    · rw [if_neg e, show (Nat.beq a (keptOf p l j).length && (Nat.ble 0 b && Nat.blt b (0 + ys.length))) = false by
        rw [Bool.eq_false_iff]; intro hh; simp only [Bool.and_eq_true] at hh; exact e (Nat.eq_of_beq_eq_true hh.1)]
  rw [hset]
  rcases Nat.lt_trichotomy a (keptOf p l j).length with h | h | h
  · rw [if_neg (by omega), moved_lt p l h, moved_lt p l (show a < (keptOf p l (j + 1)).length by omega), hst, show (keptOf p l j ++ [l.getD j noField]).getD a noField = (keptOf p l j).getD a noField by simp only [List.getD_eq_getElem?_getD]; rw [List.getElem?_append_left h]]
    exact PLe.refl _
  · rw [if_pos h, hy b hb, moved_lt p l (show a < (keptOf p l (j + 1)).length by omega), hst, show (keptOf p l j ++ [l.getD j noField]).getD a noField = l.getD j noField by subst h; simp only [List.getD_eq_getElem?_getD]; rw [List.getElem?_append_right (Nat.le_refl _)]; simp]
    exact PLe.refl _
  · rw [if_neg (by omega)]
    rcases Nat.lt_or_ge a (j + 1) with h2 | h2
    · rw [show movedF p l (j + 1) a b = .any by unfold movedF; rw [if_neg (by omega), if_pos h2]]
      exact PLe.any _
    · rw [moved_ge p l h2, moved_ge p l (show j ≤ a by omega)]
      exact PLe.refl _
theorem skip_move (p : SField → Bool) (l : List SField) {j : Nat} (hj : j < l.length) (hp : p (l.getD j noField) = true) :
    keptOf p l (j + 1) = keptOf p l j ∧ BlkLe (.row 39 7 l.length (movedF p l j)) (.row 39 7 l.length (movedF p l (j + 1))) := by
  have hst := kept_step p l hj
  rw [hp] at hst
  have hst : keptOf p l (j + 1) = keptOf p l j ++ [] := hst
  rw [List.append_nil] at hst
  refine ⟨hst, BlkLe.rowLe rfl fun a b ha hb => ?_⟩
  rcases Nat.lt_or_ge a (keptOf p l j).length with h | h
  · rw [moved_lt p l h, moved_lt p l (by rw [hst]; exact h), hst]; exact PLe.refl _
  · rcases Nat.lt_or_ge a (j + 1) with h2 | h2
    · rw [show movedF p l (j + 1) a b = .any by unfold movedF; rw [if_neg (by rw [hst]; omega), if_pos h2]]
      exact PLe.any _
    · rw [moved_ge p l h2, moved_ge p l (show j ≤ a by omega)]
      exact PLe.refl _
theorem first_move (p : SField → Bool) (l : List SField) {i0 : Nat} (hi : i0 < l.length) (hk : keptOf p l (i0 + 1) = l.take i0) :
    BlkLe (.row 39 7 l.length fun i => at_ .any (fieldCells (l.getD i noField))) (.row 39 7 l.length (movedF p l (i0 + 1))) := by
  refine BlkLe.rowLe rfl fun a b ha hb => ?_
  have hl : (keptOf p l (i0 + 1)).length = i0 := by rw [hk]; simp; omega
  rcases Nat.lt_trichotomy a i0 with h | h | h
  · rw [moved_lt p l (by omega), hk, show (l.take i0).getD a noField = l.getD a noField by simp [List.getD_eq_getElem?_getD, List.getElem?_take, h]]
    exact PLe.refl _
  · rw [show movedF p l (i0 + 1) a b = .any by unfold movedF; rw [if_neg (by omega), if_pos (by omega)]]
    exact PLe.any _
  · rw [moved_ge p l (by omega)]; exact PLe.refl _
theorem used1 {G : Gh} {X : Type} (h : G.m = 1) (S : X → St) (hs : ∀ x, 0 < 1 ∧ (S x).us 0 = true) (hm : G.m ≤ 64) : ∀ x, UsOk G (S x).us := by
  intro x
  refine ⟨hm, fun n hn => ?_⟩
  have : n = 0 := by omega
  subst this
  exact (hs x).2

/-- slices.DeleteFunc where nothing goes. -/
theorem f79_none (l : List SField) (p : SField → Bool) (g : Nat) (c : Nat → PV) (hl : okFields l) (hn : firstOf p l = none) (hg : ∀ x, okField x → PCall Tryz.prog g [encField x, c 0] (.p (.val (.bool (p x)))) []) :
    GCall Tryz.prog 126 [.sl 0, .p (.fn g 1 c)] [rowFields l] (.sl 0) [rowFields l] := by
  have cc := f119 l p g c hl hg
  rw [show findUpto (fun i => p (l.getD i noField)) l.length 0 = none from hn] at cc
  refine gcode hT hM Tryz.func126 rfl rfl (rv := [(4, none)]) rfl rfl rfl fun G hG => ?_
  conv => whnf
  refine CallK.lent (cc) rfl ?_
  conv => whnf
  refine ⟨fun h => ?_, fun h => ?_⟩
  · conv => whnf
    exact ⟨[], _, _, _, rfl, rfl, rfl, RepLe.refl _, BlkLe.refl _, trivial⟩
  · rw [iEq_f] at h
    exact absurd rfl h

/-- slices.DeleteFunc where something goes. -/
theorem f79_some (l : List SField) (p : SField → Bool) (g : Nat) (c : Nat → PV) (hl : okFields l) {i0 : Nat} (hn : firstOf p l = some i0) (hg : ∀ x, okField x → PCall Tryz.prog g [encField x, c 0] (.p (.val (.bool (p x)))) []) :
    GCall Tryz.prog 126 [.sl 0, .p (.fn g 1 c)] [rowFields l] (.psl 0 (keptOf p l l.length).length) [some (.row 39 7 l.length (movedF p l l.length))] := by
  have hlen : l.length ≤ 9223372036854775807 := hl.1
  have cc := f119 l p g c hl hg
  rw [show findUpto (fun i => p (l.getD i noField)) l.length 0 = some i0 from hn, show posOf (some i0) = ((i0 : Nat) : Int) from rfl] at cc
  obtain ⟨_, hi0, hp0, _⟩ := findUpto_some _ _ _ _ hn
  have hi0 : i0 < l.length := by omega
  have hk0 : (keptOf p l (i0 + 1)) = l.take i0 := by
    rw [kept_step p l hi0, kept_first p l hn i0 (Nat.le_refl _), hp0]; simp
  have hk1 : (keptOf p l (i0 + 1)).length = i0 := by rw [hk0]; simp; omega
  refine gcode hT hM Tryz.func126 rfl rfl (rv := [(4, none)]) rfl rfl rfl fun G hG => ?_
  conv => whnf
  refine CallK.lent (cc) rfl ?_
  conv => whnf
  refine ⟨fun h => ?_, fun h => ?_⟩
  · rw [iEq_t] at h
    omega
  conv => whnf
  intro z hz
  have hy := wrap64_eq hz (by omega) (by omega)
  clear hz
  subst hy
  conv => whnf
  refine AW.loop (X := Nat) (fun j => told 42 [(0, .sl 0), (1, .p (.fn g 1 c)), (5, vI .i64 ((keptOf p l j).length : Int)), (6, vI .i64 (j : Int))] [(0, some (.row 39 7 l.length (movedF p l j)))] [0]) (fun j => i0 + 1 ≤ j ∧ j ≤ l.length) (fun j => l.length - j)
    (used1 hG _ (fun _ => ⟨Nat.zero_lt_one, rfl⟩) (by rw [hG]; exact (by decide : 1 ≤ 64))) (i0 + 1) ⟨Nat.le_refl _, hi0⟩ (stle ⟨RepLe.refl _, RepLe.refl _, RepLe.vi (by rw [hk1]), RepLe.of rfl, trivial⟩ ⟨⟨_, rfl, first_move p l hi0 hk0⟩, trivial⟩ rfl) ?_
  rintro j ⟨hj0, hj⟩
  have hkj := kept_le p l j
  refine codeK_aw hT hM _ _ _ ?_
  conv => whnf
  refine ⟨fun h4 => ?_, fun h4 => ?_⟩
  · have hlt : j < l.length := by rw [iLt_t] at h4; omega
    conv => whnf
    refine ⟨by omega, ?_⟩
    conv => whnf
    refine ⟨hlt, ?_⟩
    conv => whnf
    refine CallK.lent (GCall.arg1 (hg (l.getD j noField) (hl.at j)) ?hh) rfl ?_
    case hh => exact PLe.rep (PLe.agg (cells7 (f := movedF p l j j) (g := at_ .any (fieldCells (l.getD j noField))) fun b _ => PLe.of (moved_ge p l (Nat.le_refl j) b)))
    conv => whnf
    refine ⟨fun h5 => ?_, fun h5 => ?_⟩
    · have h5 : p (l.getD j noField) = false := by simpa using h5
      have hst : (keptOf p l (j + 1)).length = (keptOf p l j).length + 1 := by rw [kept_step p l hlt, h5]; simp
      conv => whnf
      refine ⟨⟨Int.natCast_nonneg _, by omega⟩, ?_⟩
      conv => whnf
      refine ⟨(show (keptOf p l j).length < l.length by omega), ?_⟩
      conv => whnf
      intro z hz
      have hy := wrap64_eq hz (by omega) (by omega)
      clear hz
      subst hy
      conv => whnf
      intro z hz
      have hy := wrap64_eq hz (by omega) (by omega)
      clear hz
      subst hy
      conv => whnf
      exact ⟨j + 1, ⟨by omega, by omega⟩, by omega, stle ⟨RepLe.refl _, RepLe.refl _, RepLe.vi (by rw [hst]; simp), RepLe.of rfl, trivial⟩ ⟨⟨_, rfl, set_move p l hlt h5 rfl fun b hb => by
        have hb : b = 0 ∨ b = 1 ∨ b = 2 ∨ b = 3 ∨ b = 4 ∨ b = 5 ∨ b = 6 := by omega
        rcases hb with rfl | rfl | rfl | rfl | rfl | rfl | rfl <;> exact moved_ge p l (Nat.le_refl j) _⟩, trivial⟩ rfl⟩
    · have h5 : p (l.getD j noField) = true := by simpa using h5
      have hsk := skip_move p l hlt h5
      conv => whnf
      intro z hz
      have hy := wrap64_eq hz (by omega) (by omega)
      clear hz
      subst hy
      conv => whnf
      exact ⟨j + 1, ⟨by omega, by omega⟩, by omega, stle ⟨RepLe.refl _, RepLe.refl _, RepLe.vi (by rw [hsk.1]), RepLe.of rfl, trivial⟩ ⟨⟨_, rfl, hsk.2⟩, trivial⟩ rfl⟩
  · have hge : j = l.length := by rw [iLt_f] at h4; omega
    subst hge
    have hkl : keptOf p l l.length = l.filter fun x => !p x := by unfold keptOf; rw [List.take_length]
    conv => whnf
    refine ⟨⟨by omega, Int.natCast_nonneg _, by omega⟩, ?_⟩
    conv => whnf
    refine ⟨⟨by omega, Int.natCast_nonneg _, by omega⟩, ?_⟩
    conv => whnf
    exact ⟨[], _, _, _, rfl, rfl, rfl, RepLe.of rfl, BlkLe.rowLe rfl fun a b ha hb => by
      show PLe (tailF (keptOf p l l.length).length (movedF p l l.length) a b) _
      unfold tailF
      rcases Nat.lt_or_ge a (keptOf p l l.length).length with h | h
      · rw [show Nat.blt a (keptOf p l l.length).length = true from Nat.ble_eq_true_of_le h]; exact PLe.refl _
      · rw [show movedF p l l.length a b = .any by unfold movedF; rw [if_neg (by omega), if_pos ha]]; exact PLe.any _, trivial⟩

/-! ### The fields of a scope -/
theorem f80 (f : SField) (s : Int) : PCall Tryz.prog 127 [encField f, .rp 1 (at_ .any [.val (.int .i64 s)])] (.p (.val (.bool (!iEq f.place.scope s)))) [] := by
  refine gcode hT hM Tryz.func127 rfl rfl (rv := [(3, none)]) rfl rfl rfl fun G hG => ?_
  conv => whnf
  exact ⟨[], _, _, _, rfl, rfl, rfl, RepLe.refl _, trivial⟩
theorem scope_filter (l : List SField) (s : Int) : (l.filter fun x => !(!iEq x.place.scope s)) = scopeOf l s := by unfold scopeOf; simp
theorem f28 (l : List SField) (s : Int) (hl : fitFields l) : PCall Tryz.prog 67 [encFields l, .val (.int .i64 s)] (.p (encFields (scopeOf l s))) [] := by
  cases hn : firstOf (fun x => !iEq x.place.scope s) l with
  | none =>
    have he := first_none _ _ hn
    rw [scope_filter] at he
    refine gcode hT hM Tryz.func67 rfl rfl (rv := [(4, none)]) rfl rfl rfl fun G hG => ?_
    conv => whnf
    refine CallK.go [] (f27 l hl) rfl rfl rfl rfl rfl ?_
    conv => whnf
    refine CallK.go [4104] (f79_none l (fun x => !iEq x.place.scope s) 127 (at_ .any [.rp 1 (at_ .any [.val (.int .i64 s)])]) hl.ok hn (fun x hx => f80 x s)) rfl rfl rfl rfl rfl ?_
    conv => whnf
    exact ⟨[], _, _, _, rfl, rfl, rfl, by rw [he]; exact RepLe.refl _, trivial⟩
  | some i0 =>
    have hh := f79_some l (fun x => !iEq x.place.scope s) 127 (at_ .any [.rp 1 (at_ .any [.val (.int .i64 s)])]) hl.ok hn (fun x hx => f80 x s)
    have hk : keptOf (fun x => !iEq x.place.scope s) l l.length = scopeOf l s := by unfold keptOf; rw [List.take_length, scope_filter]
    refine gcode hT hM Tryz.func67 rfl rfl (rv := [(4, none)]) rfl rfl rfl fun G hG => ?_
    conv => whnf
    refine CallK.go [] (f27 l hl) rfl rfl rfl rfl rfl ?_
    conv => whnf
    refine CallK.go [4104] hh rfl rfl rfl rfl rfl ?_
    conv => whnf
    exact ⟨[], _, _, _, rfl, rfl, rfl, PLe.rep (PLe.rows (by rw [hk]) fun a b ha hb => by rw [moved_lt _ _ ha, hk]), trivial⟩
end Go.Proofs.YtalpbdabeffnlaaGreat
