/- Lists of fields: is one a right schema; where a place is. -/
import Derived.Test.YtoophkcicdbnfaaX
set_option linter.unusedVariables false
set_option linter.unusedSimpArgs false
namespace Go.Proofs.Ytoophkcicdbnfaa
open Go Go.Av
set_option maxRecDepth 100000

def rightStep (l : List SField) (i : Nat) : Bool := fieldOk (l.getD i noField) && (iEq (i : Nat) 0 || lessRef (l.getD (i - 1) noField).place (l.getD i noField).place)
def rightFields (l : List SField) : Bool := iLe l.length 16 && allUpto (rightStep l) l.length 0

theorem f34 (l : List SField) (hl : okFields l) : PCall Try.prog 34 [encFields l] (.p (.val (.bool (rightFields l)))) [] := by
  have hlen : l.length ≤ 9223372036854775807 := hl.1
  refine gcode hT hM Try.func34 rfl rfl (rv := [(2, none)]) rfl rfl rfl fun G hG => ?_
  conv => whnf
  refine ⟨fun h => ?_, fun h => ?_⟩
  · conv => whnf
    exact ⟨[], _, _, _, rfl, rfl, rfl, RepLe.bl (by simp_all [rightFields, iLt_not]), trivial⟩
  conv => whnf
  have h : iLe (l.length : Int) 16 = true := by simpa [iLt_not] using h
  refine AW.loop (X := Nat) (fun i => told 38 [(0, .p (encFields l)), (3, vI .i64 (i : Int))] [] []) (fun i => i ≤ l.length ∧ rightFields l = allUpto (rightStep l) (l.length - i) i) (fun i => l.length - i) (used0 hG _) 0 ⟨by omega, by simp [rightFields, h]⟩ (stle ⟨RepLe.refl _, RepLe.refl _, trivial⟩ trivial rfl) ?_
  rintro i ⟨hi, hr⟩
  refine codeK_aw hT hM _ _ _ ?_
  conv => whnf
  refine ⟨fun h4 => ?_, fun h4 => ?_⟩
  · have hlt : i < l.length := by rw [iLt_t] at h4; omega
    rw [allUpto_step _ hlt] at hr
    conv => whnf
    refine ⟨by omega, ?_⟩
    conv => whnf
    refine CallK.lent (f85 (l.getD i noField) (hl.at i)) rfl ?_
    conv => whnf
    refine ⟨fun a1 => ?_, fun a1 => ?_⟩
    · conv => whnf
      refine ⟨rfl, ?_⟩
      conv => whnf
      have a1 : fieldOk (l.getD i noField) = false := by simpa using a1
      exact ⟨[], _, _, _, rfl, rfl, rfl, RepLe.bl (by rw [hr]; unfold rightStep; rw [a1]; simp), trivial⟩
    have a1 : fieldOk (l.getD i noField) = true := by simpa using a1
    conv => whnf
    refine ⟨fun a2 => ?_, fun a2 => ?_⟩
    · have h0 : 0 < i := by rw [iLt_t] at a2; omega
      have a3 : iEq (i : Nat) 0 = false := by rw [iEq_f]; omega
      conv => whnf
      intro z hz
      have hw := wrap64_eq hz (by omega) (by omega)
      clear hz
      have hy : z = ((i - 1 : Nat) : Int) := by omega
      clear hw
      subst hy
      conv => whnf
      refine ⟨by omega, ?_⟩
      conv => whnf
      refine ⟨by omega, ?_⟩
      conv => whnf
      refine CallK.lent (f86 (l.getD (i - 1) noField).place (l.getD i noField).place) rfl ?_
      conv => whnf
      refine ⟨rfl, ?_⟩
      conv => whnf
      refine ⟨fun h5 => ?_, fun h5 => ?_⟩
      · have h5 : lessRef (l.getD (i - 1) noField).place (l.getD i noField).place = false := by simpa using h5
        conv => whnf
        exact ⟨[], _, _, _, rfl, rfl, rfl, RepLe.bl (by rw [hr]; unfold rightStep; rw [a3, h5]; simp), trivial⟩
      have h5 : lessRef (l.getD (i - 1) noField).place (l.getD i noField).place = true := by simpa using h5
      conv => whnf
      intro z hz
      have hy := wrap64_eq hz (by omega) (by omega)
      clear hz
      subst hy
      conv => whnf
      exact ⟨i + 1, ⟨by omega, by rw [hr]; unfold rightStep; rw [a1, h5]; simp⟩, by omega, stle ⟨RepLe.refl _, RepLe.of rfl, trivial⟩ trivial rfl⟩
    have a3 : iEq (i : Nat) 0 = true := by rw [iEq_t]; rw [iLt_f] at a2; omega
    conv => whnf
    refine ⟨rfl, ?_⟩
    conv => whnf
    intro z hz
    have hy := wrap64_eq hz (by omega) (by omega)
    clear hz
    subst hy
    conv => whnf
    exact ⟨i + 1, ⟨by omega, by rw [hr]; unfold rightStep; rw [a1, a3]; simp⟩, by omega, stle ⟨RepLe.refl _, RepLe.of rfl, trivial⟩ trivial rfl⟩
  · have hge : i = l.length := by rw [iLt_f] at h4; omega
    subst hge
    conv => whnf
    exact ⟨[], _, _, _, rfl, rfl, rfl, RepLe.bl (by rw [hr, allUpto_end]), trivial⟩

theorem f33 (l : List SField) (hl : okFields l) : PCall Try.prog 33 [encFields l] (.p (.val (.bool (rightFields l)))) [] := by
  have hlen : l.length ≤ 9223372036854775807 := hl.1
  refine gcode hT hM Try.func33 rfl rfl (rv := [(2, none)]) rfl rfl rfl fun G hG => ?_
  conv => whnf
  refine AW.scope (X := Nat) 0 (fun i => told 36 [(0, .p (encFields l)), (3, vI .i64 (i : Int))] [] []) (fun i => i ≤ l.length ∧ rightFields l = allUpto (rightStep l) (l.length - i) i) (fun i => l.length - i) (used0 hG _) rfl ?_ ?_
  · refine codeK_aw hT hM _ _ _ ?_
    conv => whnf
    refine ⟨fun h => ?_, fun h => ?_⟩
    · conv => whnf
      exact ⟨[], _, _, _, rfl, rfl, rfl, RepLe.bl (by simp_all [rightFields, iLt_not]), trivial⟩
    have h : iLe (l.length : Int) 16 = true := by simpa [iLt_not] using h
    conv => whnf
    refine ⟨fun h4 => ?_, fun h4 => ?_⟩
    · have hz : l.length = 0 := by rw [iEq_t] at h4; omega
      conv => whnf
      exact ⟨[], _, _, _, rfl, rfl, rfl, RepLe.bl (by simp [rightFields, h]; rw [hz]; rfl), trivial⟩
    have hlt : 0 < l.length := by rw [iEq_f] at h4; omega
    have hr : rightFields l = (rightStep l 0 && allUpto (rightStep l) (l.length - (0 + 1)) (0 + 1)) := by rw [← allUpto_step _ hlt]; simp [rightFields, h]
    conv => whnf
    refine ⟨by omega, ?_⟩
    conv => whnf
    refine CallK.lent (f71 (l.getD 0 noField) (hl.at 0)) rfl ?_
    conv => whnf
    refine ⟨fun a1 => ?_, fun a1 => ?_⟩
    · conv => whnf
      refine ⟨fun a3 => ?_, fun a3 => ?_⟩
      · conv => whnf
        refine ⟨rfl, ?_⟩
        conv => whnf
        intro z hz
        have hy := wrap64_eq hz (by omega) (by omega)
        clear hz
        subst hy
        conv => whnf
        exact ⟨1, ⟨by omega, by rw [hr, show rightStep l 0 = true by unfold rightStep; rw [a1, show iEq ((0 : Nat) : Int) 0 = true from iEq_t.2 rfl]; simp]; simp⟩, stle ⟨RepLe.refl _, RepLe.of rfl, trivial⟩ trivial rfl⟩
      · rw [iEq_f] at a3
        exact absurd rfl a3
    conv => whnf
    refine ⟨rfl, ?_⟩
    conv => whnf
    exact ⟨[], _, _, _, rfl, rfl, rfl, RepLe.bl (by rw [hr]; unfold rightStep; rw [a1]; simp), trivial⟩
  · rintro i ⟨hi, hr⟩
    refine codeK_aw hT hM _ _ _ ?_
    conv => whnf
    refine ⟨fun h4 => ?_, fun h4 => ?_⟩
    · have hz : i = l.length := by rw [iEq_t] at h4; omega
      subst hz
      conv => whnf
      exact ⟨[], _, _, _, rfl, rfl, rfl, RepLe.bl (by rw [hr, allUpto_end]), trivial⟩
    have hlt : i < l.length := by rw [iEq_f] at h4; omega
    rw [allUpto_step _ hlt] at hr
    conv => whnf
    refine ⟨by omega, ?_⟩
    conv => whnf
    refine CallK.lent (f71 (l.getD i noField) (hl.at i)) rfl ?_
    conv => whnf
    refine ⟨fun a1 => ?_, fun a1 => ?_⟩
    · conv => whnf
      refine ⟨fun a3 => ?_, fun a3 => ?_⟩
      · conv => whnf
        refine ⟨rfl, ?_⟩
        conv => whnf
        intro z hz
        have hy := wrap64_eq hz (by omega) (by omega)
        clear hz
        subst hy
        conv => whnf
        exact ⟨i + 1, ⟨by omega, by rw [hr]; unfold rightStep; rw [a1, a3]; simp⟩, by omega, stle ⟨RepLe.refl _, RepLe.of rfl, trivial⟩ trivial rfl⟩
      have h0 : 0 < i := by rw [iEq_f] at a3; omega
      conv => whnf
      intro z hz
      have hw := wrap64_eq hz (by omega) (by omega)
      clear hz
      have hy : z = ((i - 1 : Nat) : Int) := by omega
      clear hw
      subst hy
      conv => whnf
      refine ⟨by omega, ?_⟩
      conv => whnf
      refine ⟨by omega, ?_⟩
      conv => whnf
      refine CallK.lent (f84 (l.getD (i - 1) noField).place (l.getD i noField).place) rfl ?_
      conv => whnf
      refine ⟨rfl, ?_⟩
      conv => whnf
      refine ⟨fun h5 => ?_, fun h5 => ?_⟩
      · conv => whnf
        intro z hz
        have hy := wrap64_eq hz (by omega) (by omega)
        clear hz
        subst hy
        conv => whnf
        exact ⟨i + 1, ⟨by omega, by rw [hr]; unfold rightStep; rw [a1, h5]; simp⟩, by omega, stle ⟨RepLe.refl _, RepLe.of rfl, trivial⟩ trivial rfl⟩
      conv => whnf
      exact ⟨[], _, _, _, rfl, rfl, rfl, RepLe.bl (by rw [hr]; unfold rightStep; rw [a3, h5]; simp), trivial⟩
    conv => whnf
    refine ⟨rfl, ?_⟩
    conv => whnf
    exact ⟨[], _, _, _, rfl, rfl, rfl, RepLe.bl (by rw [hr]; unfold rightStep; rw [a1]; simp), trivial⟩

/-! ### Where a place is -/
def ptRef (r : SRef) : PV := .rp 3 (at_ .any (refCells r))
def placeIn (l : List SField) (r : SRef) : Option Nat := findUpto (fun i => sameRef (l.getD i noField).place r) l.length 0
theorem f120 (f : SField) (r : SRef) : PCall Try.prog 120 [encField f, ptRef r] (.p (.val (.bool (sameRef f.place r)))) [] := by
  refine gcode hT hM Try.func120 rfl rfl (rv := [(3, none)]) rfl rfl rfl fun G hG => ?_
  conv => whnf
  exact ⟨[], _, _, _, rfl, rfl, rfl, RepLe.vb (by simp [sameRef]), trivial⟩

theorem f119 (l : List SField) (p : SField → Bool) (g : Nat) (c : Nat → PV) (hl : okFields l) (hg : ∀ x, okField x → PCall Try.prog g [encField x, c 0] (.p (.val (.bool (p x)))) []) :
    PCall Try.prog 119 [encFields l, .fn g 1 c] (.p (.val (.int .i64 (posOf (findUpto (fun i => p (l.getD i noField)) l.length 0))))) [] := by
  have hlen : l.length ≤ 9223372036854775807 := hl.1
  refine gcode hT hM Try.func119 rfl rfl (rv := [(4, none)]) rfl rfl rfl fun G hG => ?_
  conv => whnf
  refine AW.loop (X := Nat) (fun i => told 19 [(0, .p (encFields l)), (1, .p (.fn g 1 c)), (7, vI .i64 (l.length : Int)), (8, vI .i64 (i : Int))] [] []) (fun i => i ≤ l.length ∧ findUpto (fun i => p (l.getD i noField)) l.length 0 = findUpto (fun i => p (l.getD i noField)) (l.length - i) i) (fun i => l.length - i) (used0 hG _) 0 ⟨by omega, by simp⟩ (stle ⟨RepLe.refl _, RepLe.refl _, RepLe.refl _, RepLe.refl _, trivial⟩ trivial rfl) ?_
  rintro i ⟨hi, hr⟩
  refine codeK_aw hT hM _ _ _ ?_
  conv => whnf
  refine ⟨fun h4 => ?_, fun h4 => ?_⟩
  · have hlt : i < l.length := by rw [iLt_t] at h4; omega
    rw [findUpto_step _ hlt] at hr
    conv => whnf
    refine ⟨by omega, ?_⟩
    conv => whnf
    refine CallK.lent (hg (l.getD i noField) (hl.at i)) rfl ?_
    conv => whnf
    refine ⟨fun h5 => ?_, fun h5 => ?_⟩
    · conv => whnf
      exact ⟨[], _, _, _, rfl, rfl, rfl, RepLe.vi (by rw [hr, h5]; rfl), trivial⟩
    conv => whnf
    intro z hz
    have hy := wrap64_eq hz (by omega) (by omega)
    clear hz
    subst hy
    conv => whnf
    exact ⟨i + 1, ⟨by omega, by rw [hr, h5]⟩, by omega, stle ⟨RepLe.refl _, RepLe.refl _, RepLe.refl _, RepLe.of rfl, trivial⟩ trivial rfl⟩
  · have hge : i = l.length := by rw [iLt_f] at h4; omega
    subst hge
    conv => whnf
    exact ⟨[], _, _, _, rfl, rfl, rfl, RepLe.vi (by rw [hr, findUpto_end]; rfl), trivial⟩

theorem f81 (l : List SField) (r : SRef) (hl : okFields l) : PCall Try.prog 81 [encFields l, encRef r] (.p (.val (.int .i64 (posOf (placeIn l r))))) [] := by
  refine gcode hT hM Try.func81 rfl rfl (rv := [(4, none)]) rfl rfl rfl fun G hG => ?_
  conv => whnf
  refine CallK.lent (f119 l (fun x => sameRef x.place r) 120 (at_ .any [ptRef r]) hl (fun x hx => f120 x r)) rfl ?_
  conv => whnf
  exact ⟨[], _, _, _, rfl, rfl, rfl, RepLe.refl _, trivial⟩

theorem f31 (l : List SField) (r : SRef) (hl : okFields l) : PCall Try.prog 31 [encFields l, encRef r] (.p (.val (.int .i64 (posOf (placeIn l r))))) [] := by
  have hlen : l.length ≤ 9223372036854775807 := hl.1
  refine gcode hT hM Try.func31 rfl rfl (rv := [(4, none)]) rfl rfl rfl fun G hG => ?_
  conv => whnf
  refine AW.loop (X := Nat) (fun i => told 20 [(0, .p (encFields l)), (3, .pt 0 0), (5, vI .i64 (i : Int))] [(0, some (.box 27 ((refCells r).map .p)))] [0]) (fun i => i ≤ l.length ∧ placeIn l r = findUpto (fun i => sameRef (l.getD i noField).place r) (l.length - i) i) (fun i => l.length - i) (used0 hG _) 0 ⟨by omega, by simp [placeIn]⟩ (stle ⟨RepLe.refl _, RepLe.refl _, RepLe.refl _, trivial⟩ ⟨⟨_, rfl, BlkLe.refl _⟩, trivial⟩ rfl) ?_
  rintro i ⟨hi, hr⟩
  refine codeK_aw hT hM _ _ _ ?_
  conv => whnf
  refine ⟨fun h4 => ?_, fun h4 => ?_⟩
  · have hlt : i < l.length := by rw [iLt_t] at h4; omega
    rw [findUpto_step _ hlt] at hr
    conv => whnf
    refine ⟨by omega, ?_⟩
    conv => whnf
    refine ⟨rfl, ?_⟩
    conv => whnf
    refine ⟨fun h5 => ?_, fun h5 => ?_⟩
    · have h5 : sameRef (l.getD i noField).place r = true := by simpa [sameRef] using h5
      conv => whnf
      exact ⟨[], _, _, _, rfl, rfl, rfl, RepLe.vi (by rw [hr, h5]; rfl), trivial⟩
    have h5 : sameRef (l.getD i noField).place r = false := by simpa [sameRef] using h5
    conv => whnf
    intro z hz
    have hy := wrap64_eq hz (by omega) (by omega)
    clear hz
    subst hy
    conv => whnf
    exact ⟨i + 1, ⟨by omega, by rw [hr, h5]⟩, by omega, stle ⟨RepLe.refl _, RepLe.refl _, RepLe.of rfl, trivial⟩ ⟨⟨_, rfl, BlkLe.refl _⟩, trivial⟩ rfl⟩
  · have hge : i = l.length := by rw [iLt_f] at h4; omega
    subst hge
    conv => whnf
    exact ⟨[], _, _, _, rfl, rfl, rfl, RepLe.vi (by rw [hr, findUpto_end]; rfl), trivial⟩

def fieldAt (l : List SField) : Option Nat → SField × Int
  | some i => (l.getD i noField, 0)
  | none => (noField, 6)
def encFind (x : SField × Int) : AV := .tup 2 (at_ (.p .any) [.p (encField x.1), .p (.val (.int .i64 x.2))])
end Go.Proofs.Ytoophkcicdbnfaa
