/- Copies of lists of fields, the root, the awakening. -/
import Derived.Test.YtoophkcicdbnfaaY
set_option linter.unusedVariables false
set_option linter.unusedSimpArgs false
namespace Go.Proofs.Ytoophkcicdbnfaa
open Go Go.Av
set_option maxRecDepth 100000

def fitFields (l : List SField) : Prop := l.length * 96 ≤ 140737488351232 ∧ ∀ x ∈ l, fitField x
theorem fitFields.ok {l : List SField} (h : fitFields l) : okFields l := ⟨by have := h.1; show l.length ≤ 9223372036854775807; omega, fun x hx => (h.2 x hx).ok⟩
theorem fitFields.at {l : List SField} (h : fitFields l) (i : Nat) : fitField (l.getD i noField) := by
  rw [List.getD_eq_getElem?_getD]
  rcases Nat.lt_or_ge i l.length with hi | hi
  · rw [List.getElem?_eq_getElem hi]; exact h.2 _ (List.getElem_mem hi)
  · rw [List.getElem?_eq_none hi]; exact Nat.zero_le _

theorem f27 (l : List SField) (hl : fitFields l) : PCall Try.prog 27 [encFields l] (.sl 0) [rowFields l] := by
  have hlen := hl.1
  refine gcode hT hM Try.func27 rfl rfl (rv := [(2, none)]) rfl rfl rfl fun G hG => ?_
  conv => whnf
  intro z hz
  have hy := wrap64_eq hz (by omega) (by omega)
  clear hz
  subst hy
  conv => whnf
  refine ⟨⟨by omega, by omega, show (96 : Int) * ((l.length : Int) + 1) ≤ 281474976710656 by omega, by omega⟩, ?_⟩
  conv => whnf
  refine AW.loop (X := Nat) (fun i => told 23 [(3, .sl 4120), (10, .p (encFields l)), (11, vI .i64 (l.length : Int)), (12, vI .i64 (i : Int))] [(4120, some (.row 30 7 i fun j => at_ .any (fieldCells (l.getD j noField))))] [4120]) (fun i => i ≤ l.length ∧ True) (fun i => l.length - i) (used0 hG _) 0 ⟨by omega, trivial⟩ (stle ⟨RepLe.refl _, RepLe.refl _, RepLe.refl _, RepLe.refl _, trivial⟩ ⟨⟨_, rfl, BlkLe.row rfl (fun i j hi => absurd hi (Nat.not_lt_zero _))⟩, trivial⟩ rfl) ?_
  rintro i ⟨hi, hr⟩
  refine codeK_aw hT hM _ _ _ ?_
  conv => whnf
  refine ⟨fun h4 => ?_, fun h4 => ?_⟩
  · have hlt : i < l.length := by rw [iLt_t] at h4; omega
    conv => whnf
    refine ⟨by omega, ?_⟩
    conv => whnf
    refine CallK.go [] (f78 (l.getD i noField) (hl.at i)) rfl rfl rfl rfl rfl ?_
    conv => whnf
    refine ⟨⟨show i + 1 ≤ 9223372036854775807 by omega, show (i + 1) * 96 ≤ 140737488355328 by omega⟩, ?_⟩
    conv => whnf
    intro z hz
    have hy := wrap64_eq hz (by omega) (by omega)
    clear hz
    subst hy
    conv => whnf
    refine ⟨i + 1, ⟨by omega, trivial⟩, by omega, stleR [(4120, 20512)] ⟨RepLe.refl _, RepLe.refl _, RepLe.refl _, RepLe.of rfl, trivial⟩ ⟨⟨_, rfl, BlkLe.row rfl fun a b ha hb => ?_⟩, trivial⟩ rfl⟩
    by_cases hai : a < i
    · rw [catF_lt hai]
    · have : a = i := by omega
      subst this
      rw [catF_ge (Nat.le_refl _), Nat.sub_self]
      have hb : b < 7 := hb
      have hb : b = 0 ∨ b = 1 ∨ b = 2 ∨ b = 3 ∨ b = 4 ∨ b = 5 ∨ b = 6 := by omega
      rcases hb with rfl | rfl | rfl | rfl | rfl | rfl | rfl <;> rfl
  · have hge : i = l.length := by rw [iLt_f] at h4; omega
    subst hge
    conv => whnf
    exact ⟨[4120], _, _, _, rfl, rfl, rfl, RepLe.of rfl, BlkLe.refl _, trivial⟩

theorem f30 (l : List SField) (r : SRef) (hl : fitFields l) : PCall Try.prog 30 [encFields l, encRef r] (encFind (fieldAt l (placeIn l r))) [] := by
  have c := f81 l r hl.ok
  cases hp : placeIn l r with
  | none =>
    rw [hp] at c
    refine gcode hT hM Try.func30 rfl rfl (rv := [(4, some 30), (5, none)]) rfl rfl rfl fun G hG => ?_
    conv => whnf
    refine CallK.lent (c) rfl ?_
    conv => whnf
    refine ⟨fun h => ?_, fun h => ?_⟩
    · rw [posOf_none] at h; cases h
    conv => whnf
    exact ⟨[], _, _, _, rfl, rfl, rfl, RepLe.tup2 (PLe.rep (PLe.agg (by repeat' (first | refine PLes.cons ?_ ?_ | exact PLe.refl _ | exact PLe.nil | exact PLes.end)))) (RepLe.refl _), trivial⟩
  | some j =>
    rw [hp] at c
    have hj := (findUpto_some _ _ _ _ hp).2.1
    refine gcode hT hM Try.func30 rfl rfl (rv := [(4, some 30), (5, none)]) rfl rfl rfl fun G hG => ?_
    conv => whnf
    refine CallK.lent (c) rfl ?_
    conv => whnf
    refine ⟨fun h => ?_, fun h => ?_⟩
    · conv => whnf
      refine ⟨⟨Int.natCast_nonneg j, show (j : Int) < (l.length : Int) by omega⟩, ?_⟩
      conv => whnf
      refine CallK.go [] (f78 (l.getD j noField) (hl.at j)) rfl rfl rfl rfl rfl ?_
      conv => whnf
      exact ⟨[], _, _, _, rfl, rfl, rfl, RepLe.tup2 (PLe.rep (PLe.refl _)) (RepLe.refl _), trivial⟩
    · rw [posOf_has] at h; cases h

theorem f64 (s : ByteArray) : PCall Try.prog 64 [.val (.string s)] (.p (encRef ⟨1, noS, s⟩)) [] := by
  refine gcode hT hM Try.func64 rfl rfl (rv := [(2, some 27)]) rfl rfl rfl fun G hG => ?_
  conv => whnf
  exact ⟨[], _, _, _, rfl, rfl, rfl, RepLe.refl _, trivial⟩

theorem f16 : PCall Try.prog 16 [] (.sl 0) [rowFields rootFields] := by
  refine gcode hT hM Try.func16 rfl rfl (rv := [(0, none)]) rfl rfl rfl fun G hG => ?_
  conv => whnf
  refine CallK.go [] (f64 (word [110, 111, 116, 101])) rfl rfl rfl rfl rfl ?_
  conv => whnf
  refine CallK.go [] (f64 (word [113, 116, 121])) rfl rfl rfl rfl rfl ?_
  conv => whnf
  refine CallK.go [] (f64 (word [115, 105, 122, 101])) rfl rfl rfl rfl rfl ?_
  conv => whnf
  refine CallK.go [] (f64 (word [116, 97, 103, 115])) rfl rfl rfl rfl rfl ?_
  conv => whnf
  refine ⟨[8312], _, _, _, rfl, rfl, rfl, RepLe.of rfl, BlkLe.rowLe rfl fun i j hi hj => ?_, trivial⟩
  have hi : i < 5 := hi
  have hj : j < 7 := hj
  have hj : j = 0 ∨ j = 1 ∨ j = 2 ∨ j = 3 ∨ j = 4 ∨ j = 5 ∨ j = 6 := by omega
  have hi : i = 0 ∨ i = 1 ∨ i = 2 ∨ i = 3 ∨ i = 4 := by omega
  rcases hi with rfl | rfl | rfl | rfl | rfl <;> rcases hj with rfl | rfl | rfl | rfl | rfl | rfl | rfl
  all_goals first | exact PLe.refl _ | exact PLe.nil | skip
  refine PLe.rows rfl fun a b ha hb => ?_
  have ha : a < 3 := ha
  have hb : b < 1 := hb
  have ha : a = 0 ∨ a = 1 ∨ a = 2 := by omega
  have hb : b = 0 := by omega
  subst hb
  rcases ha with rfl | rfl | rfl <;> rfl

theorem root_fit : fitFields rootFields := ⟨by decide, by intro x hx; simp [rootFields] at hx; rcases hx with rfl | rfl | rfl | rfl | rfl <;> (unfold fitField; decide)⟩
theorem root_right : rightFields rootFields = true := by decide +kernel
theorem f15 : PCall Try.prog 15 [] (.p (.val (.bool true))) [] := by
  refine gcode hT hM Try.func15 rfl rfl (rv := [(0, none)]) rfl rfl rfl fun G hG => ?_
  conv => whnf
  refine CallK.go [] (f16) rfl rfl rfl rfl rfl ?_
  conv => whnf
  refine ⟨fun c => ?_, fun c => ?_⟩
  · conv => whnf
    refine ⟨by decide, ?_⟩
    conv => whnf
    refine ⟨by decide, ?_⟩
    conv => whnf
    refine ⟨fun d => ?_, fun d => ?_⟩
    · conv => whnf
      refine CallK.lent (f33 rootFields root_fit.ok) rfl ?_
      conv => whnf
      exact ⟨[], _, _, _, rfl, rfl, rfl, RepLe.vb root_right, trivial⟩
    · exfalso
      revert d
      decide +kernel
  · exfalso
    revert c
    decide +kernel

def scopeOf (l : List SField) (s : Int) : List SField := l.filter fun f => iEq f.place.scope s
theorem scope_step (l : List SField) (s : Int) {i : Nat} (h : i < l.length) : (l.take (i + 1)).filter (fun f => iEq f.place.scope s) = (l.take i).filter (fun f => iEq f.place.scope s) ++ if iEq (l.getD i noField).place.scope s then [l.getD i noField] else [] := by
  rw [List.take_add_one, List.getD_eq_getElem?_getD, List.getElem?_eq_getElem h, List.filter_append]
  simp only [Option.toList, Option.getD, List.filter_cons, List.filter_nil]
theorem rowSnoc (l : List SField) (x : SField) {g : Nat → Nat → PV} (hg : ∀ b, b < 7 → PLe (g 0 b) (at_ .any (fieldCells x) b)) :
    BlkLe (.row 30 7 (l.length + 1) (catF l.length (fun i => at_ .any (fieldCells (l.getD i noField))) g)) (.row 30 7 (l ++ [x]).length fun i => at_ .any (fieldCells ((l ++ [x]).getD i noField))) := by
  refine BlkLe.rowLe (by simp) fun a b ha hb => ?_
  by_cases hal : a < l.length
  · rw [catF_lt hal, show (l ++ [x]).getD a noField = l.getD a noField by simp [List.getD_eq_getElem?_getD, List.getElem?_append_left hal]]
    exact PLe.refl _
  · have : a = l.length := by omega
    subst this
    rw [catF_ge (Nat.le_refl _), Nat.sub_self, show (l ++ [x]).getD l.length noField = x by simp [List.getD_eq_getElem?_getD]]
    exact hg b hb
theorem f35 (l : List SField) (s : Int) (hl : fitFields l) : PCall Try.prog 35 [encFields l, .val (.int .i64 s)] (.sl 0) [rowFields (scopeOf l s)] := by
  have hlen := hl.1
  refine gcode hT hM Try.func35 rfl rfl (rv := [(4, none)]) rfl rfl rfl fun G hG => ?_
  conv => whnf
  refine AW.loop (X := Nat) (fun i => told 30 [(0, .p (encFields l)), (1, vI .i64 s), (5, .sl 4096), (6, vI .i64 (i : Int))] [(4096, rowFields (scopeOf (l.take i) s))] [4096]) (fun i => i ≤ l.length) (fun i => l.length - i) (used0 hG _) 0 (by omega) (stle ⟨RepLe.refl _, RepLe.refl _, RepLe.refl _, RepLe.refl _, trivial⟩ ⟨⟨_, rfl, BlkLe.row rfl (fun i j hi => absurd hi (Nat.not_lt_zero _))⟩, trivial⟩ rfl) ?_
  rintro i hi
  have hc : (scopeOf (l.take i) s).length ≤ i := Nat.le_trans (List.length_filter_le _ _) (by simp; omega)
  refine codeK_aw hT hM _ _ _ ?_
  conv => whnf
  refine ⟨fun h4 => ?_, fun h4 => ?_⟩
  · have hlt : i < l.length := by rw [iLt_t] at h4; omega
    have hst := scope_step l s hlt
    conv => whnf
    refine ⟨by omega, ?_⟩
    conv => whnf
    refine ⟨fun h5 => ?_, fun h5 => ?_⟩
    · have h5 : iEq (l.getD i noField).place.scope s = true := h5
      rw [h5] at hst
      have hst : scopeOf (l.take (i + 1)) s = scopeOf (l.take i) s ++ [l.getD i noField] := hst
      conv => whnf
      refine ⟨by omega, ?_⟩
      conv => whnf
      refine ⟨⟨show (scopeOf (l.take i) s).length + 1 ≤ 9223372036854775807 by omega, show ((scopeOf (l.take i) s).length + 1) * 96 ≤ 140737488355328 by omega⟩, ?_⟩
      conv => whnf
      intro z hz
      have hy := wrap64_eq hz (by omega) (by omega)
      clear hz
      subst hy
      conv => whnf
      refine ⟨i + 1, by omega, by omega, stleR [(4096, 24624)] ⟨RepLe.refl _, RepLe.refl _, RepLe.refl _, RepLe.of rfl, trivial⟩ ⟨⟨_, rfl, ?_⟩, trivial⟩ rfl⟩
      show BlkLe _ (.row 30 7 (scopeOf (l.take (i + 1)) s).length fun j => at_ .any (fieldCells ((scopeOf (l.take (i + 1)) s).getD j noField)))
      rw [hst]
      refine rowSnoc _ _ fun b hb => ?_
      have hb : b = 0 ∨ b = 1 ∨ b = 2 ∨ b = 3 ∨ b = 4 ∨ b = 5 ∨ b = 6 := by omega
      rcases hb with rfl | rfl | rfl | rfl | rfl | rfl | rfl <;> exact PLe.refl _
    · have h5 : iEq (l.getD i noField).place.scope s = false := h5
      rw [h5] at hst
      have hst : scopeOf (l.take (i + 1)) s = scopeOf (l.take i) s := by
        have := hst
        simp at this
        exact this
      conv => whnf
      intro z hz
      have hy := wrap64_eq hz (by omega) (by omega)
      clear hz
      subst hy
      conv => whnf
      refine ⟨i + 1, by omega, by omega, stle ⟨RepLe.refl _, RepLe.refl _, RepLe.refl _, RepLe.of rfl, trivial⟩ ⟨⟨_, rfl, by rw [hst]; exact BlkLe.refl _⟩, trivial⟩ rfl⟩
  · have hge : i = l.length := by rw [iLt_f] at h4; omega
    subst hge
    conv => whnf
    exact ⟨[4096], _, _, _, rfl, rfl, rfl, RepLe.of rfl, by rw [List.take_length]; exact BlkLe.refl _, trivial⟩
end Go.Proofs.Ytoophkcicdbnfaa
