import Derived.Test.YtalpbdabeffnlaaGreatJoCD
import Derived.Test.YtalpbdabeffnlaaGreatJoCA
/- BackParts: the law itself. -/
set_option linter.unusedVariables false
set_option linter.unusedSimpArgs false
namespace Go.Proofs.YtalpbdabeffnlaaGreat
open Go Go.Av
set_option maxRecDepth 100000
set_option maxHeartbeats 4000000

theorem chainF_fit {l : List SField} {row : List SLens} (hl : fitFields l) (hw : fitRow row) : fitFields (chainF l row).1 := by
  unfold chainF
  split
  · exact chain_fit row l 0 hl hw.2
  · exact nil_fit
theorem chain_le : ∀ (row : List SLens) (cur : List SField) (i : Nat), (chainGo row cur i).2.1 ≤ i + row.length
  | [], cur, i => Nat.le_refl _
  | x :: xs, cur, i => by
    unfold chainGo
    split
    · have := chain_le xs (applyF cur x).1 (i + 1)
      rw [List.length_cons]; omega
    · show i ≤ _; omega
theorem chainF_le (l : List SField) (row : List SLens) : (chainF l row).2.1 ≤ row.length := by
  unfold chainF
  split
  · have := chain_le row l 0; omega
  · exact Nat.zero_le _
theorem part_bad {l : List SField} {row : List SLens} {n : Nat} (h : (chainF l (row.take n)).2.2 ≠ 0) : chainF l row = chainF l (row.take n) ∧ (chainF l (row.take n)).1 = [] := by
  unfold chainF at h ⊢
  cases hr : rightFields l with
  | false => exact ⟨rfl, rfl⟩
  | true =>
    rw [hr] at h
    have := (chain_parts (row.take n) (row.drop n) l 0).1 h
    rw [List.take_append_drop] at this
    exact this
theorem part_good {l : List SField} {row : List SLens} {n : Nat} (hn : n ≤ row.length) (h : (chainF l (row.take n)).2.2 = 0) :
    chainF l row = ((chainF (chainF l (row.take n)).1 (row.drop n)).1, (chainF (chainF l (row.take n)).1 (row.drop n)).2.1 + n, (chainF (chainF l (row.take n)).1 (row.drop n)).2.2) := by
  cases hr : rightFields l with
  | false => unfold chainF at h; rw [hr] at h; exact absurd h (show ¬ (5 : Int) = 0 by decide)
  | true =>
    have e1 : ∀ r, chainF l r = chainGo r l 0 := fun r => by unfold chainF; rw [hr]; rfl
    rw [e1] at h
    rw [e1, e1]
    have h2 := (chain_parts (row.take n) (row.drop n) l 0).2 h
    rw [List.take_append_drop, List.length_take, Nat.min_eq_left hn, chain_shift] at h2
    have h3 : chainF (chainGo (row.take n) l 0).1 (row.drop n) = chainGo (row.drop n) (chainGo (row.take n) l 0).1 0 := by unfold chainF; rw [chain_right _ _ _ hr]; rfl
    rw [h3]
    exact h2
theorem take_lens (row : List SLens) {i m : Nat} (h : m < i) : (row.take i).getD m noLens = row.getD m noLens := by
  simp [List.getD_eq_getElem?_getD, List.getElem?_take, h]
theorem takeRow (row : List SLens) (n : Nat) (h : n ≤ row.length) : PLe (.rs 16 (n - 0) fun a b => at_ .any (lensCells (row.getD (0 + a) noLens)) b) (encRow (row.take n)) := by
  refine PLe.rows (by simp; omega) fun a b ha hb => ?_
  rw [take_lens row (show a < n by omega), Nat.zero_add]
theorem dropRow (row : List SLens) (n : Nat) : PLe (.rs 16 (row.length - n) fun a b => at_ .any (lensCells (row.getD (n + a) noLens)) b) (encRow (row.drop n)) := by
  refine PLe.rows (by simp) fun a b ha hb => ?_
  rw [show (row.drop n).getD a noLens = row.getD (n + a) noLens by simp [List.getD_eq_getElem?_getD]]
theorem take_row {row : List SLens} (h : fitRow row) (n : Nat) : fitRow (row.take n) := ⟨Nat.le_trans (by simp; omega) h.1, fun x hx => h.2 x (List.mem_of_mem_take hx)⟩
theorem drop_row {row : List SLens} (h : fitRow row) (n : Nat) : fitRow (row.drop n) := ⟨Nat.le_trans (by simp) h.1, fun x hx => h.2 x (List.mem_of_mem_drop hx)⟩

end Go.Proofs.YtalpbdabeffnlaaGreat

/- Rows of lenses: the way back, the reference's chain. -/
set_option linter.unusedVariables false
set_option linter.unusedSimpArgs false
namespace Go.Proofs.YtalpbdabeffnlaaGreat
open Go Go.Av
set_option maxRecDepth 100000
set_option maxHeartbeats 4000000

/-! ### The reference's chain -/
theorem f305 (l : List SField) (row : List SLens) (hl : fitFields l) (hw : fitRow row) : PCall Tryz.prog 12 [encFields l, encRow row] (encChain (chainF l row)) [] := by
  have hlen : row.length ≤ 4611686018427387904 := hw.1
  refine gcode hT hM Tryz.func12 rfl rfl (rv := [(4, none), (5, none), (6, none)]) rfl rfl rfl fun G hG => ?_
  conv => whnf
  refine CallK.lent (f34 l hl.ok) rfl ?_
  conv => whnf
  refine ⟨fun h1 => ?_, fun h1 => ?_⟩
  · have h1 : rightFields l = false := nott h1
    conv => whnf
    exact ⟨[], _, _, _, rfl, rfl, rfl, chain_ret (by unfold chainF; rw [h1]; rfl) nil_fields rfl, trivial⟩
  have h1 : rightFields l = true := notf h1
  have hr0 : chainF l row = chainGo row l 0 := by unfold chainF; rw [h1]; rfl
  conv => whnf
  refine AW.loop (X := Nat × List SField) (fun p => told 36 [(0, .p (encFields p.2)), (1, .p (encRow row)), (7, vI .i64 (p.1 : Int))] [] []) (fun p => p.1 ≤ row.length ∧ fitFields p.2 ∧ chainF l row = chainGo (row.drop p.1) p.2 p.1) (fun p => row.length - p.1) (used0 hG _) (0, l) ⟨Nat.zero_le _, hl, hr0⟩ (stle ⟨RepLe.refl _, RepLe.refl _, RepLe.refl _, trivial⟩ trivial rfl) ?_
  rintro ⟨i, cur⟩ ⟨hi, hc, hr⟩
  have hi : i ≤ row.length := hi
  have hc : fitFields cur := hc
  have hr : chainF l row = chainGo (row.drop i) cur i := hr
  refine codeK_aw hT hM _ _ _ ?_
  conv => whnf
  refine ⟨fun h4 => ?_, fun h4 => ?_⟩
  · have hlt : i < row.length := by rw [iLt_t] at h4; omega
    rw [chain_step row cur hlt] at hr
    conv => whnf
    refine ⟨⟨Int.natCast_nonneg _, Int.ofNat_lt.2 hlt⟩, ?_⟩
    conv => whnf
    refine CallK.go [] (f50 cur (row.getD i noLens) hc (hw.at i)) rfl rfl rfl rfl rfl ?_
    conv => whnf
    refine ⟨fun h5 => ?_, fun h5 => ?_⟩
    · have h5 : iEq (applyF cur (row.getD i noLens)).2 0 = false := nott h5
      rw [h5] at hr
      conv => whnf
      exact ⟨[], _, _, _, rfl, rfl, rfl, chain_ret hr nil_fields rfl, trivial⟩
    have h5 : iEq (applyF cur (row.getD i noLens)).2 0 = true := notf h5
    rw [h5] at hr
    conv => whnf
    intro z hz
    have hy := wrap64_eq hz (by omega) (by omega)
    clear hz
    subst hy
    conv => whnf
    exact ⟨(i + 1, (applyF cur (row.getD i noLens)).1), ⟨(show i + 1 ≤ _ from hlt), apply_fit hc (hw.at i), hr⟩, (show row.length - (i + 1) < row.length - i by omega), stle ⟨RepLe.refl _, RepLe.refl _, RepLe.of rfl, trivial⟩ trivial rfl⟩
  have hz : i = row.length := by rw [iLt_f] at h4; omega
  rw [hz, List.drop_length] at hr
  conv => whnf
  exact ⟨[], _, _, _, rfl, rfl, rfl, chain_ret (l := cur) (k := row.length) hr (PLe.refl _) rfl, trivial⟩

/-! ### slices.Reverse -/
def revF (n i : Nat) (f : Nat → Nat → PV) : Nat → Nat → PV := fun a => f (if a < i ∨ n - 1 - i < a then n - 1 - a else a)
theorem setF_hit {i a b : Nat} {ys : List PV} {f : Nat → Nat → PV} (h : a = i) (hb : b < ys.length) : setF i 0 ys f a b = at_ .any ys b := by
  unfold setF
  rw [show (Nat.beq a i && (Nat.ble 0 b && Nat.blt b (0 + ys.length))) = true by
    simp only [Bool.and_eq_true]; exact ⟨by rw [h]; exact Nat.beq_refl _, Nat.ble_eq_true_of_le (Nat.zero_le _), Nat.ble_eq_true_of_le (by omega)⟩]
  rfl
theorem setF_miss {i a b : Nat} {ys : List PV} {f : Nat → Nat → PV} (h : a ≠ i) : setF i 0 ys f a b = f a b := by
  unfold setF
  rw [show (Nat.beq a i && (Nat.ble 0 b && Nat.blt b (0 + ys.length))) = false by
    rw [Bool.eq_false_iff]; intro hh; simp only [Bool.and_eq_true] at hh; exact h (Nat.eq_of_beq_eq_true hh.1)]
theorem set_rev {e k n i j : Nat} {f : Nat → Nat → PV} {ys zs : List PV} (hj : j = n - 1 - i) (hij : i < j) (hjn : j < n) (hy : ys.length = k) (hz : zs.length = k)
    (hys : ∀ b, b < k → at_ .any ys b = revF n i f j b) (hzs : ∀ b, b < k → at_ .any zs b = revF n i f i b) :
    BlkLe (.row e k n (setF j 0 zs (setF i 0 ys (revF n i f)))) (.row e k n (revF n (i + 1) f)) := by
  refine BlkLe.rowLe rfl fun a b ha hb => ?_
  by_cases e1 : a = j
  · rw [setF_hit e1 (by omega), hzs b hb]
    have : revF n i f i b = revF n (i + 1) f a b := by
      unfold revF
      rw [if_neg (by omega), if_pos (by omega), e1, hj, show n - 1 - (n - 1 - i) = i by omega]
    rw [this]; exact PLe.refl _
  · rw [setF_miss e1]
    by_cases e2 : a = i
    · rw [setF_hit e2 (by omega), hys b hb]
      have : revF n i f j b = revF n (i + 1) f a b := by
        unfold revF
        rw [if_neg (by omega), if_pos (by omega), e2, hj]
      rw [this]; exact PLe.refl _
    · rw [setF_miss e2]
      have : revF n i f a b = revF n (i + 1) f a b := by
        unfold revF
        by_cases h : a < i ∨ n - 1 - i < a
        · rw [if_pos h, if_pos (by omega)]
        · rw [if_neg h, if_neg (by omega)]
      rw [this]; exact PLe.refl _
theorem rev_end {e k n i : Nat} {f : Nat → Nat → PV} (h : n - 1 - i ≤ i) : BlkLe (.row e k n (revF n i f)) (.row e k n fun a => f (n - 1 - a)) := by
  refine BlkLe.rowLe rfl fun a b ha hb => ?_
  have : revF n i f a b = f (n - 1 - a) b := by
    unfold revF
    by_cases h2 : a < i ∨ n - 1 - i < a
    · rw [if_pos h2]
    · rw [if_neg h2, show n - 1 - a = a by omega]
  rw [this]; exact PLe.refl _
theorem f324 (n : Nat) (f : Nat → Nat → PV) (h0 : 0 < n) (hn : n ≤ maxLen) : GCall Tryz.prog 43 [.sl 0] [some (.row 42 16 n f)] (.p .any) [some (.row 42 16 n fun a => f (n - 1 - a))] := by
  have hn : n ≤ 9223372036854775807 := hn
  refine gcode hT hM Tryz.func43 rfl rfl (rv := []) rfl rfl rfl fun G hG => ?_
  conv => whnf
  intro z hz
  have hz := wrap64_eq hz (by omega) (by omega)
  have hz2 : z = ((n - 1 : Nat) : Int) := by omega
  clear hz
  subst hz2
  conv => whnf
  refine AW.loop (X := Nat) (fun i => told 28 [(0, .sl 0), (2, vI .i64 (i : Int)), (3, vI .i64 ((n - 1 - i : Nat) : Int))] [(0, some (.row 42 16 n (revF n i f)))] [0]) (fun i => 2 * i ≤ n) (fun i => n - i)
    (used1 hG _ (fun _ => ⟨Nat.zero_lt_one, rfl⟩) (by rw [hG]; exact (by decide : 1 ≤ 64))) 0 (Nat.zero_le _) (stle ⟨RepLe.refl _, RepLe.refl _, RepLe.vi (by rw [Nat.sub_zero]), trivial⟩ ⟨⟨_, rfl, BlkLe.rowLe rfl fun a b ha hb => by
      have : revF n 0 f a b = f a b := by unfold revF; rw [if_neg (by omega)]
      rw [this]; exact PLe.refl _⟩, trivial⟩ rfl) ?_
  rintro i hi
  have hi : 2 * i ≤ n := hi
  refine codeK_aw hT hM _ _ _ ?_
  conv => whnf
  refine ⟨fun h4 => ?_, fun h4 => ?_⟩
  · have hlt : i < n - 1 - i := by rw [iLt_t] at h4; omega
    conv => whnf
    refine ⟨⟨Int.natCast_nonneg _, Int.ofNat_lt.2 (show n - 1 - i < n by omega)⟩, ?_⟩
    conv => whnf
    refine ⟨(show n - 1 - i < n by omega), ?_⟩
    conv => whnf
    refine ⟨⟨Int.natCast_nonneg _, Int.ofNat_lt.2 (show i < n by omega)⟩, ?_⟩
    conv => whnf
    refine ⟨(show i < n by omega), ?_⟩
    conv => whnf
    refine ⟨⟨Int.natCast_nonneg _, Int.ofNat_lt.2 (show i < n by omega)⟩, ?_⟩
    conv => whnf
    refine ⟨(show i < n by omega), ?_⟩
    conv => whnf
    refine ⟨⟨Int.natCast_nonneg _, Int.ofNat_lt.2 (show n - 1 - i < n by omega)⟩, ?_⟩
    conv => whnf
    refine ⟨(show n - 1 - i < n by omega), ?_⟩
    conv => whnf
    refine ⟨rfl, ?_⟩
    conv => whnf
    intro z hz
    have hy := wrap64_eq hz (by omega) (by omega)
    clear hz
    subst hy
    conv => whnf
    intro z hz
    have hz := wrap64_eq hz (by omega) (by omega)
    have hz2 : z = ((n - 1 - (i + 1) : Nat) : Int) := by omega
    clear hz
    subst hz2
    conv => whnf
    exact ⟨i + 1, (show 2 * (i + 1) ≤ n by omega), (show n - (i + 1) < n - i by omega), stle ⟨RepLe.refl _, RepLe.of rfl, RepLe.refl _, trivial⟩ ⟨⟨_, rfl, set_rev (n := n) (f := f) rfl hlt (by omega) rfl rfl (fun b hb => by
        have hb : b = 0 ∨ b = 1 ∨ b = 2 ∨ b = 3 ∨ b = 4 ∨ b = 5 ∨ b = 6 ∨ b = 7 ∨ b = 8 ∨ b = 9 ∨ b = 10 ∨ b = 11 ∨ b = 12 ∨ b = 13 ∨ b = 14 ∨ b = 15 := by omega
        rcases hb with rfl | rfl | rfl | rfl | rfl | rfl | rfl | rfl | rfl | rfl | rfl | rfl | rfl | rfl | rfl | rfl <;> rfl) (fun b hb => by
        have hb : b = 0 ∨ b = 1 ∨ b = 2 ∨ b = 3 ∨ b = 4 ∨ b = 5 ∨ b = 6 ∨ b = 7 ∨ b = 8 ∨ b = 9 ∨ b = 10 ∨ b = 11 ∨ b = 12 ∨ b = 13 ∨ b = 14 ∨ b = 15 := by omega
        rcases hb with rfl | rfl | rfl | rfl | rfl | rfl | rfl | rfl | rfl | rfl | rfl | rfl | rfl | rfl | rfl | rfl <;> rfl)⟩, trivial⟩ rfl⟩
  conv => whnf
  exact ⟨[], _, _, _, rfl, rfl, rfl, fun _ _ _ _ _ => trivial, rev_end (by rw [iLt_f] at h4; omega), trivial⟩
end Go.Proofs.YtalpbdabeffnlaaGreat

/- Rows of lenses: their ways back, by the program and by the reference. -/
set_option linter.unusedVariables false
set_option linter.unusedSimpArgs false
namespace Go.Proofs.YtalpbdabeffnlaaGreat
open Go Go.Av
set_option maxRecDepth 100000
set_option maxHeartbeats 4000000

theorem cat_le {e k n : Nat} {f g h : Nat → Nat → PV} (h1 : ∀ a b, a < n → b < k → PLe (f a b) (h a b)) (h2 : ∀ b, b < k → PLe (g 0 b) (h n b)) : BlkLe (.row e k (n + 1) (catF n f g)) (.row e k (n + 1) h) := by
  refine BlkLe.rowLe rfl fun a b ha hb => ?_
  by_cases hal : a < n
  · rw [catF_lt hal]; exact h1 a b hal hb
  · have : a = n := by omega
    subst this
    rw [catF_ge (Nat.le_refl _), Nat.sub_self]
    exact h2 b hb
def encRet (c : List SLens × Nat × Int) : AV := .tup 3 (at_ (.p .any) [.p (encRow c.1), .p (.val (.int .i64 ((c.2.1 : Nat) : Int))), .p (.val (.int .i64 c.2.2))])
theorem ret_ret {a : PV} {i c : Int} {p : List SLens × Nat × Int} {l : List SLens} {k : Nat} (h : p = (l, k, c)) (ha : PLe a (encRow l)) (hi : i = (k : Int)) : RepLe (.tup 3 (at_ (.p .any) [.p a, .p (.val (.int .i64 i)), .p (.val (.int .i64 c))])) (encRet p) := by
  subst h hi
  exact RepLe.tup (l := [.p a, .p (.val (.int .i64 (k : Int))), .p (.val (.int .i64 c))]) (m := [.p (encRow l), .p (.val (.int .i64 (k : Int))), .p (.val (.int .i64 c))]) ⟨PLe.rep ha, RepLe.refl _, RepLe.refl _, trivial⟩
theorem nil_row : PLe (.val (.slice none 0 0)) (encRow []) := PLe.nil
theorem turned_row (row : List SLens) : PLe (.rs 16 row.length fun a => at_ .any (lensCells (turnOf (row.getD (row.length - 1 - a) noLens)))) (encRow (retOf row)) := by
  refine PLe.rows (by unfold retOf; simp) fun a b ha hb => ?_
  have : (retOf row).getD a noLens = turnOf (row.getD (row.length - 1 - a) noLens) := by
    unfold retOf
    rw [List.getD_eq_getElem?_getD, List.getElem?_reverse (by simpa using ha), List.getElem?_map, List.length_map, List.getD_eq_getElem?_getD, List.getElem?_eq_getElem (by omega)]
    rfl
  rw [this]
theorem first16 (x : SLens) (b : Nat) (hb : b < 16) : PLe (at_ .any (lensCells (turnOf x)) (0 * 16 + b)) (at_ .any (lensCells (turnOf x)) b) := by rw [Nat.zero_mul, Nat.zero_add]; exact PLe.refl _
theorem same16 {x y : SLens} (h : x = y) (b : Nat) (hb : b < 16) : PLe (at_ .any (lensCells (turnOf x)) (0 * 16 + b)) (at_ .any (lensCells (turnOf y)) b) := by subst h; exact first16 x b hb
def brow (row : List SLens) (n : Nat) : Option Blk := some (.row 42 16 n fun a => at_ .any (lensCells (turnOf (row.getD a noLens))))
def rt0 (row : List SLens) : St := told 36 [(5, .p (.val (.slice none 0 0))), (10, .p (encRow row)), (11, vI .i64 (row.length : Int)), (12, vI .i64 0)] [] []
def rt1 (row : List SLens) (i : Nat) : St := told 36 [(5, .sl 4096), (10, .p (encRow row)), (11, vI .i64 (row.length : Int)), (12, vI .i64 (i : Int))] [(4096, brow row i)] [4096]
def rtS (row : List SLens) : Nat → St
  | 0 => rt0 row
  | i + 1 => rt1 row (i + 1)
theorem f324n : PCall Tryz.prog 43 [.val (.slice none 0 0)] (.p .any) [] := by
  refine gcode hT hM Tryz.func43 rfl rfl (rv := []) rfl rfl rfl fun G hG => ?_
  conv => whnf
  intro z hz
  have hz := wrap64_eq hz (by decide) (by decide)
  subst hz
  conv => whnf
  refine AW.loop (X := Unit) (fun _ => told 28 [(2, vI .i64 0), (3, vI .i64 (0 - 1))] [] []) (fun _ => True) (fun _ => 0) (used0 hG _) () trivial (stle ⟨RepLe.refl _, RepLe.refl _, trivial⟩ trivial rfl) ?_
  rintro ⟨⟩ _
  refine codeK_aw hT hM _ _ _ ?_
  conv => whnf
  refine ⟨fun h4 => ?_, fun h4 => ?_⟩
  · exact absurd (iLt_t.1 h4) (by decide)
  conv => whnf
  exact ⟨[], _, _, _, rfl, rfl, rfl, fun _ _ _ _ _ => trivial, trivial⟩

theorem f306 (row : List SLens) (hw : fitRow row) (h12 : row.length ≤ 12) : PCall Tryz.prog 13 [encRow row] (encRet (retF row)) [] := by
  refine gcode hT hM Tryz.func13 rfl rfl (rv := [(2, none), (3, none), (4, none)]) rfl rfl rfl fun G hG => ?_
  conv => whnf
  refine AW.loop (X := Nat) (rtS row) (fun i => i ≤ row.length ∧ firstBad row = findUpto (fun i => !lensOk (row.getD i noLens)) (row.length - i) i) (fun i => row.length - i) (used0 hG _) 0 ⟨Nat.zero_le _, rfl⟩ (show StLe _ (rt0 row) from stle ⟨RepLe.refl _, RepLe.refl _, RepLe.refl _, RepLe.refl _, trivial⟩ trivial rfl) ?_
  rintro i ⟨hi, hr⟩
  cases i with
  | zero =>
    refine codeK_aw hT hM _ _ _ ?_
    conv => whnf
    refine ⟨fun h4 => ?_, fun h4 => ?_⟩
    · have hlt : 0 < row.length := by rw [iLt_t] at h4; omega
      rw [findUpto_step _ hlt] at hr
      have c22 := f22 (row.getD 0 noLens) (hw.at 0)
      unfold inverse at c22
      conv => whnf
      refine ⟨⟨Int.natCast_nonneg _, Int.ofNat_lt.2 hlt⟩, ?_⟩
      conv => whnf
      cases hb : lensOk (row.getD 0 noLens) with
      | false =>
        rw [hb] at hr c22
        refine CallK.go [] (c22) rfl rfl rfl rfl rfl ?_
        conv => whnf
        refine ⟨fun g1 => ?_, fun g1 => ?_⟩
        · conv => whnf
          exact ⟨[], _, _, _, rfl, rfl, rfl, ret_ret (k := 0) (by unfold retF; rw [hr]; rfl) nil_row rfl, trivial⟩
        · exact absurd (iEq_t.1 (notf g1)) (show ¬ (5 : Int) = 0 by decide)
      | true =>
        rw [hb] at hr c22
        refine CallK.go [] (c22) rfl rfl rfl rfl rfl ?_
        conv => whnf
        refine ⟨fun g1 => ?_, fun g1 => ?_⟩
        · exact absurd rfl (iEq_f.1 (nott g1))
        conv => whnf
        refine ⟨⟨show 1 ≤ 9223372036854775807 by decide, show 1 * 232 ≤ 140737488355328 by decide⟩, ?_⟩
        conv => whnf
        intro z hz
        have hy := wrap64_eq hz (by omega) (by omega)
        clear hz
        subst hy
        conv => whnf
        exact ⟨0 + 1, ⟨hlt, hr⟩, (show row.length - (0 + 1) < row.length - 0 by omega), (show StLe _ (rt1 row (0 + 1)) from stleR [(4096, 32792)] ⟨RepLe.refl _, RepLe.refl _, RepLe.refl _, RepLe.of rfl, trivial⟩ ⟨⟨_, rfl, BlkLe.rowLe rfl fun a b ha hb => by
          have : a = 0 := by omega
          subst this
          exact first16 (row.getD 0 noLens) b hb⟩, trivial⟩ rfl)⟩
    have hz : row = [] := List.length_eq_zero_iff.1 (by rw [iLt_f] at h4; omega)
    conv => whnf
    refine CallK.go [] (f324n) rfl rfl rfl rfl rfl ?_
    conv => whnf
    exact ⟨[], _, _, _, rfl, rfl, rfl, ret_ret (k := 0) (by rw [hz]; rfl) nil_row rfl, trivial⟩
  | succ i =>
    refine codeK_aw hT hM _ _ _ ?_
    conv => whnf
    refine ⟨fun h4 => ?_, fun h4 => ?_⟩
    · have hlt : i + 1 < row.length := by rw [iLt_t] at h4; omega
      rw [findUpto_step _ hlt] at hr
      have c22 := f22 (row.getD (i + 1) noLens) (hw.at (i + 1))
      unfold inverse at c22
      conv => whnf
      refine ⟨⟨Int.natCast_nonneg _, Int.ofNat_lt.2 hlt⟩, ?_⟩
      conv => whnf
      cases hb : lensOk (row.getD (i + 1) noLens) with
      | false =>
        rw [hb] at hr c22
        refine CallK.go [] (c22) rfl rfl rfl rfl rfl ?_
        conv => whnf
        refine ⟨fun g1 => ?_, fun g1 => ?_⟩
        · conv => whnf
          exact ⟨[], _, _, _, rfl, rfl, rfl, ret_ret (k := i + 1) (by unfold retF; rw [hr]; rfl) nil_row rfl, trivial⟩
        · exact absurd (iEq_t.1 (notf g1)) (show ¬ (5 : Int) = 0 by decide)
      | true =>
        rw [hb] at hr c22
        refine CallK.go [] (c22) rfl rfl rfl rfl rfl ?_
        conv => whnf
        refine ⟨fun g1 => ?_, fun g1 => ?_⟩
        · exact absurd rfl (iEq_f.1 (nott g1))
        conv => whnf
        refine ⟨⟨show i + 1 + 1 ≤ 9223372036854775807 by omega, show (i + 1 + 1) * 232 ≤ 140737488355328 by omega⟩, ?_⟩
        conv => whnf
        intro z hz
        have hy := wrap64_eq hz (by omega) (by omega)
        clear hz
        subst hy
        conv => whnf
        exact ⟨(i + 1) + 1, ⟨hlt, hr⟩, (show row.length - (i + 1 + 1) < row.length - (i + 1) by omega), (show StLe _ (rt1 row ((i + 1) + 1)) from stleR [(4096, 32792)] ⟨RepLe.refl _, RepLe.refl _, RepLe.refl _, RepLe.of rfl, trivial⟩ ⟨⟨_, rfl, cat_le (fun a b _ _ => PLe.refl _) fun b hb => first16 (row.getD (i + 1) noLens) b hb⟩, trivial⟩ rfl)⟩
    have hge : i + 1 = row.length := by rw [iLt_f] at h4; omega
    rw [hge, Nat.sub_self] at hr
    have ht := turned_row row
    rw [← hge] at ht
    conv => whnf
    refine CallK.go [4096] (f324 (i + 1) (fun a => at_ .any (lensCells (turnOf (row.getD a noLens)))) (by omega) (show i + 1 ≤ 9223372036854775807 by omega)) rfl rfl rfl rfl rfl ?_
    conv => whnf
    exact ⟨[], _, _, _, rfl, rfl, rfl, ret_ret (l := retOf row) (k := row.length) (by unfold retF; rw [hr]; rfl) ht (by rw [← hge]), trivial⟩

def rrow (row : List SLens) (k : Nat) : Option Blk := some (.row 42 16 k fun a => at_ .any (lensCells (turnOf (row.getD (row.length - 1 - a) noLens))))
def rr (row : List SLens) (k : Nat) : St := told 46 [(0, .p (encRow row)), (6, .sl 24576), (7, vI .i64 ((row.length : Int) - 1 - (k : Int)))] [(24576, rrow row k)] [24576]
theorem f307 (row : List SLens) (hw : fitRow row) (h12 : row.length ≤ 12) : PCall Tryz.prog 14 [encRow row] (encRet (retF row)) [] := by
  refine gcode hT hM Tryz.func14 rfl rfl (rv := [(2, none), (3, none), (4, none)]) rfl rfl rfl fun G hG => ?_
  conv => whnf
  refine AW.loop (X := Nat) (fun i => told 46 [(0, .p (encRow row)), (5, vI .i64 (i : Int))] [] []) (fun i => i ≤ row.length ∧ firstBad row = findUpto (fun i => !lensOk (row.getD i noLens)) (row.length - i) i) (fun i => row.length - i) (used0 hG _) 0 ⟨by omega, rfl⟩ (stle ⟨RepLe.refl _, RepLe.refl _, trivial⟩ trivial rfl) ?_
  rintro i ⟨hi, hr⟩
  refine codeK_aw hT hM _ _ _ ?_
  conv => whnf
  refine ⟨fun h4 => ?_, fun h4 => ?_⟩
  · have hlt : i < row.length := by rw [iLt_t] at h4; omega
    rw [findUpto_step _ hlt] at hr
    conv => whnf
    refine ⟨⟨Int.natCast_nonneg _, Int.ofNat_lt.2 hlt⟩, ?_⟩
    conv => whnf
    refine CallK.lent (f56 (row.getD i noLens) (hw.at i)) rfl ?_
    conv => whnf
    refine ⟨fun g1 => ?_, fun g1 => ?_⟩
    · rw [g1] at hr
      conv => whnf
      exact ⟨[], _, _, _, rfl, rfl, rfl, ret_ret (k := i) (by unfold retF; rw [hr]) nil_row rfl, trivial⟩
    rw [g1] at hr
    conv => whnf
    intro z hz
    have hy := wrap64_eq hz (by omega) (by omega)
    clear hz
    subst hy
    conv => whnf
    exact ⟨i + 1, ⟨hlt, hr⟩, by omega, stle ⟨RepLe.refl _, RepLe.of rfl, trivial⟩ trivial rfl⟩
  have hge : i = row.length := by rw [iLt_f] at h4; omega
  rw [hge, Nat.sub_self] at hr
  have hn : firstBad row = none := hr
  have hall : ∀ j, j < row.length → lensOk (row.getD j noLens) = true := fun j hj => by
    have := findUpto_none _ _ _ hn j (Nat.zero_le _) (by omega)
    simpa using this
  conv => whnf
  intro z hz
  have hz := wrap64_eq hz (by omega) (by omega)
  subst hz
  conv => whnf
  refine AW.loop (X := Nat) (rr row) (fun k => k ≤ row.length) (fun k => row.length - k) (used0 hG _) 0 (Nat.zero_le _) (stle ⟨RepLe.refl _, RepLe.refl _, RepLe.vi (by omega), trivial⟩ ⟨⟨_, rfl, BlkLe.rowLe rfl fun a b ha hb => absurd ha (Nat.not_lt_zero _)⟩, trivial⟩ rfl) ?_
  rintro k hk
  have hk : k ≤ row.length := hk
  refine codeK_aw hT hM _ _ _ ?_
  conv => whnf
  refine ⟨fun h5 => ?_, fun h5 => ?_⟩
  · have hlt : k < row.length := by rw [iLe_t] at h5; omega
    have ht : Int.toNat ((row.length : Int) - 1 - (k : Int)) = row.length - 1 - k := by omega
    have c23 := f23 (row.getD (Int.toNat ((row.length : Int) - 1 - (k : Int))) noLens) (hw.at _)
    rw [inverse_ref] at c23
    unfold inverse at c23
    rw [hall _ (show Int.toNat ((row.length : Int) - 1 - (k : Int)) < row.length by omega)] at c23
    conv => whnf
    refine ⟨⟨by omega, by omega⟩, ?_⟩
    conv => whnf
    refine CallK.go [] (c23) rfl rfl rfl rfl rfl ?_
    conv => whnf
    refine ⟨⟨show k + 1 ≤ 9223372036854775807 by omega, show (k + 1) * 232 ≤ 140737488355328 by omega⟩, ?_⟩
    conv => whnf
    intro z hz
    have hz := wrap64_eq hz (by omega) (by omega)
    subst hz
    conv => whnf
    exact ⟨k + 1, hlt, (show row.length - (k + 1) < row.length - k by omega), (show StLe _ (rr row (k + 1)) from stleR [(24576, 45080)] ⟨RepLe.refl _, RepLe.refl _, RepLe.vi (by omega), trivial⟩ ⟨⟨_, rfl, cat_le (fun a b _ _ => PLe.refl _) fun b hb => same16 (x := row.getD (Int.toNat ((row.length : Int) - 1 - (k : Int))) noLens) (y := row.getD (row.length - 1 - k) noLens) (by rw [ht]) b hb⟩, trivial⟩ rfl)⟩
  have hge2 : k = row.length := by rw [iLe_f] at h5; omega
  have ht := turned_row row
  rw [← hge2] at ht
  conv => whnf
  exact ⟨[], _, _, _, rfl, rfl, rfl, ret_ret (l := retOf row) (k := row.length) (by unfold retF; rw [hn]) (hge2 ▸ turned_row row) (by rw [hge2]), trivial⟩

def sameRow (l m : List SLens) : Bool := decide (l.length = m.length) && allUpto (fun i => sameLens (l.getD i noLens) (m.getD i noLens)) l.length 0
theorem f308 (l m : List SLens) (hl : fitRow l) : PCall Tryz.prog 16 [encRow l, encRow m] (.p (.val (.bool (sameRow l m)))) [] := by
  have hlen : l.length ≤ 4611686018427387904 := hl.1
  refine gcode hT hM Tryz.func16 rfl rfl (rv := [(4, none)]) rfl rfl rfl fun G hG => ?_
  conv => whnf
  refine ⟨fun h => ?_, fun h => ?_⟩
  · conv => whnf
    exact ⟨[], _, _, _, rfl, rfl, rfl, RepLe.bl (by simp [iEq_f] at h; simp [sameRow]; omega), trivial⟩
  conv => whnf
  have heq : l.length = m.length := by simp [iEq_t] at h; omega
  refine AW.loop (X := Nat) (fun i => told 27 [(0, .p (encRow l)), (1, .p (encRow m)), (5, vI .i64 (i : Int))] [] []) (fun i => i ≤ l.length ∧ sameRow l m = allUpto (fun i => sameLens (l.getD i noLens) (m.getD i noLens)) (l.length - i) i) (fun i => l.length - i) (used0 hG _) 0 ⟨by omega, by simp [sameRow, heq]⟩ (stle ⟨RepLe.refl _, RepLe.refl _, RepLe.refl _, trivial⟩ trivial rfl) ?_
  rintro i ⟨hi, hr⟩
  refine codeK_aw hT hM _ _ _ ?_
  conv => whnf
  refine ⟨fun h4 => ?_, fun h4 => ?_⟩
  · have hlt : i < l.length := by rw [iLt_t] at h4; omega
    rw [allUpto_step _ hlt] at hr
    conv => whnf
    refine ⟨by omega, ?_⟩
    conv => whnf
    refine ⟨by omega, ?_⟩
    conv => whnf
    refine CallK.lent (f24 (l.getD i noLens) (m.getD i noLens) (hl.at i).ok) rfl ?_
    conv => whnf
    refine ⟨rfl, ?_⟩
    conv => whnf
    refine ⟨fun h5 => ?_, fun h5 => ?_⟩
    · have h5 : sameLens (l.getD i noLens) (m.getD i noLens) = false := nott h5
      conv => whnf
      exact ⟨[], _, _, _, rfl, rfl, rfl, RepLe.bl (by rw [hr, h5]; simp), trivial⟩
    have h5 : sameLens (l.getD i noLens) (m.getD i noLens) = true := notf h5
    conv => whnf
    intro z hz
    have hy := wrap64_eq hz (by omega) (by omega)
    clear hz
    subst hy
    conv => whnf
    exact ⟨i + 1, ⟨by omega, by rw [hr, h5]; simp⟩, by omega, stle ⟨RepLe.refl _, RepLe.refl _, RepLe.of rfl, trivial⟩ trivial rfl⟩
  · have hge : i = l.length := by rw [iLt_f] at h4; omega
    subst hge
    conv => whnf
    exact ⟨[], _, _, _, rfl, rfl, rfl, RepLe.bl (by rw [hr, allUpto_end]), trivial⟩
end Go.Proofs.YtalpbdabeffnlaaGreat
