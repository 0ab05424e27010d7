import Derived.Test.YtalpbdabeffnlaaGreatJoEB
import Derived.Test.YtalpbdabeffnlaaGreatJoH
import Derived.Test.YtalpbdabeffnlaaGreatJoCR
import Derived.Test.YtalpbdabeffnlaaGreatJoAH
import Derived.Test.YtalpbdabeffnlaaGreatJoAR
/- Documents in new memory. -/
set_option linter.unusedVariables false
set_option linter.unusedSimpArgs false
namespace Go.Proofs.YtalpbdabeffnlaaGreat
open Go Go.Av
set_option maxRecDepth 100000
set_option maxHeartbeats 4000000

def rowEntries (l : List SEntry) : Option Blk := some (.row 101 5 l.length fun i => at_ .any (entryCells (l.getD i noEntry)))
def rowRows (l : List SRow) : Option Blk := some (.row 103 2 l.length fun i => at_ .any (rowCells (l.getD i noRow)))
theorem f352 (l : List SEntry) (hl : fitEntries l) : PCall Tryz.prog 124 [encEntries l] (.p (encEntries l)) [] := by
  have hl := hl.1
  refine GCall.slice (fun h0 => ?_) ?_
  · refine gcode hT hM Tryz.func124 rfl rfl (rv := [(2, none)]) rfl rfl rfl fun G hG => ?_
    conv => whnf
    have : l = [] := List.length_eq_zero_iff.1 h0
    subst this
    exact ⟨[], _, _, _, rfl, rfl, rfl, PLe.rep PLe.nil, trivial⟩
  · refine gcode hT hM Tryz.func124 rfl rfl (rv := [(2, none)]) rfl rfl rfl fun G hG => ?_
    conv => whnf
    refine ⟨⟨show 0 + l.length ≤ 9223372036854775807 by omega, show (0 + l.length) * 72 ≤ 140737488355328 by omega⟩, ?_⟩
    conv => whnf
    exact ⟨[], _, _, _, rfl, rfl, rfl, PLe.rep (PLe.rows (Nat.zero_add _) fun i j hi hj => catF_ge (Nat.zero_le _)), trivial⟩
theorem f352o (l : List SEntry) (hl : fitEntries l) (h0 : 0 < l.length) : PCall Tryz.prog 124 [encEntries l] (.sl 0) [rowEntries l] := by
  have hl := hl.1
  refine GCall.slice (fun h => absurd h (by omega)) ?_
  refine gcode hT hM Tryz.func124 rfl rfl (rv := [(2, none)]) rfl rfl rfl fun G hG => ?_
  conv => whnf
  refine ⟨⟨show 0 + l.length ≤ 9223372036854775807 by omega, show (0 + l.length) * 72 ≤ 140737488355328 by omega⟩, ?_⟩
  conv => whnf
  exact ⟨[12304], _, _, _, rfl, rfl, rfl, RepLe.of rfl, BlkLe.row (Nat.zero_add _) fun a b _ _ => catF_ge (Nat.zero_le _), trivial⟩
theorem set_same {e k n i j : Nat} {f : Nat → Nat → PV} {ys : List PV} (h : ∀ b, b < ys.length → at_ .any ys b = f i (j + b)) : BlkLe (.row e k n (setF i j ys f)) (.row e k n f) := by
  refine BlkLe.rowLe rfl fun a b ha hb => ?_
  have : setF i j ys f a b = f a b := by
    unfold setF
    cases q : (Nat.beq a i && (Nat.ble j b && Nat.blt b (j + ys.length))) with
    | false => rfl
    | true =>
      simp only [Bool.and_eq_true] at q
      have q1 := Nat.eq_of_beq_eq_true q.1
      have q2 := Nat.le_of_ble_eq_true q.2.1
      have q3 := Nat.le_of_ble_eq_true q.2.2
      subst q1
      have := h (b - j) (by omega)
      rw [show j + (b - j) = b by omega] at this
      exact this
  rw [this]; exact PLe.refl _
theorem f335 (l : List SEntry) (hl : fitEntries l) : PCall Tryz.prog 66 [encEntries l] (.p (encEntries l)) [] := by
  have hlen : l.length ≤ 1954687338211 := hl.1
  rcases Nat.eq_zero_or_pos l.length with h0 | h0
  · have e0 : l = [] := List.length_eq_zero_iff.1 h0
    subst e0
    refine gcode hT hM Tryz.func66 rfl rfl (rv := [(2, none)]) rfl rfl rfl fun G hG => ?_
    conv => whnf
    refine CallK.go [] (f352 [] hl) rfl rfl rfl rfl rfl ?_
    conv => whnf
    refine AW.loop (X := Unit) (fun _ => told 24 [(3, .p (encEntries [])), (8, vI .i64 0), (9, vI .i64 0)] [] []) (fun _ => True) (fun _ => 0) (used0 hG _) () trivial (stle ⟨RepLe.refl _, RepLe.refl _, RepLe.refl _, trivial⟩ trivial rfl) ?_
    rintro ⟨⟩ _
    refine codeK_aw hT hM _ _ _ ?_
    conv => whnf
    refine ⟨fun h4 => ?_, fun h4 => ?_⟩
    · rw [iLt_t] at h4; omega
    conv => whnf
    exact ⟨[], _, _, _, rfl, rfl, rfl, RepLe.refl _, trivial⟩
  refine gcode hT hM Tryz.func66 rfl rfl (rv := [(2, none)]) rfl rfl rfl fun G hG => ?_
  conv => whnf
  refine CallK.go [] (f352o l hl h0) rfl rfl rfl rfl rfl ?_
  conv => whnf
  refine AW.loop (X := Nat) (fun i => told 24 [(3, .sl 4104), (8, vI .i64 (l.length : Int)), (9, vI .i64 (i : Int))] [(4104, rowEntries l)] [4104]) (fun i => i ≤ l.length ∧ True) (fun i => l.length - i) (used0 hG _) 0 ⟨by omega, trivial⟩ (stle ⟨RepLe.refl _, RepLe.refl _, RepLe.refl _, trivial⟩ ⟨⟨_, rfl, BlkLe.refl _⟩, trivial⟩ rfl) ?_
  rintro i ⟨hi, hr⟩
  refine codeK_aw hT hM _ _ _ ?_
  conv => whnf
  refine ⟨fun h4 => ?_, fun h4 => ?_⟩
  · have hlt : i < l.length := by rw [iLt_t] at h4; omega
    conv => whnf
    refine ⟨by omega, ?_⟩
    conv => whnf
    refine ⟨by omega, ?_⟩
    conv => whnf
    refine CallK.go [] (f118 (l.getD i noEntry).texts (hl.at i)) rfl rfl rfl rfl rfl ?_
    conv => whnf
    refine ⟨by omega, ?_⟩
    conv => whnf
    refine ⟨by omega, ?_⟩
    conv => whnf
    intro z hz
    have hy := wrap64_eq hz (by omega) (by omega)
    clear hz
    subst hy
    conv => whnf
    exact ⟨i + 1, ⟨by omega, trivial⟩, by omega, stle ⟨RepLe.refl _, RepLe.refl _, RepLe.of rfl, trivial⟩ ⟨⟨_, rfl, set_same fun b hb => by have : b = 0 := (show b < 1 from hb) |> Nat.lt_one_iff.1; subst this; rfl⟩, trivial⟩ rfl⟩
  conv => whnf
  exact ⟨[], _, _, _, rfl, rfl, rfl, RepLe.refl _, trivial⟩
end Go.Proofs.YtalpbdabeffnlaaGreat

/- Documents in new memory: the whole. -/
set_option linter.unusedVariables false
set_option linter.unusedSimpArgs false
namespace Go.Proofs.YtalpbdabeffnlaaGreat
open Go Go.Av
set_option maxRecDepth 100000
set_option maxHeartbeats 4000000

theorem sameRef_comm (a b : SRef) : sameRef a b = sameRef b a := by
  rw [Bool.eq_iff_iff, same_ref, same_ref]; exact eq_comm
theorem f356 (l : List SRef) (r : SRef) (hl : l.length ≤ maxLen) : PCall Tryz.prog 131 [encRefs l, encRef r] (.p (.val (.int .i64 (posOf (idxRef l r))))) [] := by
  have hlen : l.length ≤ 9223372036854775807 := hl
  refine gcode hT hM Tryz.func131 rfl rfl (rv := [(4, none)]) rfl rfl rfl fun G hG => ?_
  conv => whnf
  refine AW.loop (X := Nat) (fun i => told 19 [(0, .p (encRefs l)), (3, .pt 0 0), (5, vI .i64 (i : Int))] [(0, some (.box 36 ((refCells r).map .p)))] [0]) (fun i => i ≤ l.length ∧ idxRef l r = findUpto (fun i => sameRef r (l.getD i noRef)) (l.length - i) i) (fun i => l.length - i) (used0 hG _) 0 ⟨by omega, rfl⟩ (stle ⟨RepLe.refl _, RepLe.refl _, RepLe.refl _, trivial⟩ ⟨⟨_, rfl, BlkLe.refl _⟩, trivial⟩ rfl) ?_
  rintro i ⟨hi, hr⟩
  refine codeK_aw hT hM _ _ _ ?_
  conv => whnf
  refine ⟨fun h4 => ?_, fun h4 => ?_⟩
  · have hlt : i < l.length := by rw [iLt_t] at h4; omega
    rw [findUpto_step _ hlt] at hr
    conv => whnf
    refine ⟨by omega, ?_⟩
    conv => whnf
    refine ⟨rfl, ?_⟩
    conv => whnf
    refine ⟨fun h5 => ?_, fun h5 => ?_⟩
    · have h5 : sameRef (l.getD i noRef) r = true := by unfold sameRef; simpa using h5
      rw [sameRef_comm] at h5
      rw [h5] at hr
      conv => whnf
      exact ⟨[], _, _, _, rfl, rfl, rfl, RepLe.vi (by rw [hr]; rfl), trivial⟩
    have h5 : sameRef (l.getD i noRef) r = false := by unfold sameRef; cases q : (iEq (l.getD i noRef).scope r.scope && (sEq (l.getD i noRef).group r.group && sEq (l.getD i noRef).name r.name)) <;> simp_all
    rw [sameRef_comm] at h5
    rw [h5] at hr
    conv => whnf
    intro z hz
    have hy := wrap64_eq hz (by omega) (by omega)
    clear hz
    subst hy
    conv => whnf
    exact ⟨i + 1, ⟨by omega, hr⟩, by omega, stle ⟨RepLe.refl _, RepLe.refl _, RepLe.of rfl, trivial⟩ ⟨⟨_, rfl, BlkLe.refl _⟩, trivial⟩ rfl⟩
  have hge : i = l.length := by rw [iLt_f] at h4; omega
  subst hge
  rw [Nat.sub_self] at hr
  conv => whnf
  exact ⟨[], _, _, _, rfl, rfl, rfl, RepLe.vi (by rw [hr]; rfl), trivial⟩
def ow0 (d : SDoc) : St :=
  told 30 [(2, .pt 8 0), (3, .pt 4128 0), (11, .p (encRows d.rows)), (12, vI .i64 (d.rows.length : Int)), (13, vI .i64 0)] [(8, some (.box 61 (List.replicate 2 (.p .any)))), (4128, some (.box 61 [.p (encEntries d.head), .p (.val (.slice none 0 0))]))] [8, 4128]
def ow1 (d : SDoc) (i : Nat) : St :=
  told 30 [(2, .pt 8 0), (3, .pt 4128 0), (11, .p (encRows d.rows)), (12, vI .i64 (d.rows.length : Int)), (13, vI .i64 (i : Int))] [(8, some (.box 61 (List.replicate 2 (.p .any)))), (4128, some (.box 61 [.p (encEntries d.head), .sl 4096])), (4096, rowRows (d.rows.take i))] [8, 4096, 4128]
def owS (d : SDoc) (i : Nat) : St := match i with | 0 => ow0 d | i + 1 => ow1 d (i + 1)
theorem f317n (h : List SEntry) (hd : fitEntries h) : PCall Tryz.prog 27 [encDoc ⟨h, []⟩] (.p (encDoc ⟨h, []⟩)) [] := by
  refine gcode hT hM Tryz.func27 rfl rfl (rv := [(2, some 61)]) rfl rfl rfl fun G hG => ?_
  conv => whnf
  refine CallK.go [] (f335 h hd) rfl rfl rfl rfl rfl ?_
  conv => whnf
  refine AW.loop (X := Unit) (fun _ => ow0 ⟨h, []⟩) (fun _ => True) (fun _ => 0) (used0 hG _) () trivial (show StLe _ (ow0 ⟨h, []⟩) from stle ⟨RepLe.refl _, RepLe.refl _, RepLe.refl _, RepLe.refl _, RepLe.refl _, trivial⟩ ⟨⟨_, rfl, BlkLe.anys rfl⟩, ⟨_, rfl, BlkLe.refl _⟩, trivial⟩ rfl) ?_
  rintro ⟨⟩ _
  refine codeK_aw hT hM _ _ _ ?_
  conv => whnf
  refine ⟨fun h4 => ?_, fun h4 => ?_⟩
  · exact absurd (iLt_t.1 h4) (show ¬ (0 : Int) < 0 by decide)
  conv => whnf
  exact ⟨[], _, _, _, rfl, rfl, rfl, PLe.rep (PLe.agg (PLes.cons (PLe.refl _) (PLes.cons PLe.nil PLes.end))), trivial⟩
theorem two {P : Nat → Prop} (h0 : P 0) (h1 : P 1) : ∀ b, b < 2 → P b
  | 0, _ => h0
  | 1, _ => h1
theorem rowOne2 {y : SRow} {g : Nat → Nat → PV} (hg : ∀ b, b < 2 → PLe (g 0 b) (at_ .any (rowCells y) b)) {l : List SRow} (hl : l = [y]) : BlkLe (.row 103 2 1 g) (.row 103 2 l.length fun i => at_ .any (rowCells (l.getD i noRow))) := by
  subst hl
  refine BlkLe.rowLe rfl fun a b ha hb => ?_
  have : a = 0 := by omega
  subst this
  exact hg b hb
theorem takeS {d : SDoc} {i : Nat} (h0 : i < d.rows.length) : d.rows.take (i + 1) = d.rows.take i ++ [d.rows.getD i noRow] := by
  rw [List.take_add_one, List.getD_eq_getElem?_getD, List.getElem?_eq_getElem h0]
  rfl
theorem rowSnoc2 {l m : List SRow} {y : SRow} {g : Nat → Nat → PV} (hg : ∀ b, b < 2 → PLe (g 0 b) (at_ .any (rowCells y) b)) (hm : m = l ++ [y]) :
    BlkLe (.row 103 2 (l.length + 1) (catF l.length (fun i => at_ .any (rowCells (l.getD i noRow))) g)) (.row 103 2 m.length fun i => at_ .any (rowCells (m.getD i noRow))) := by
  subst hm
  refine BlkLe.rowLe (by simp) fun a b ha hb => ?_
  by_cases hal : a < l.length
  · rw [catF_lt hal, show (l ++ [y]).getD a noRow = l.getD a noRow by simp [List.getD_eq_getElem?_getD, List.getElem?_append_left hal]]
    exact PLe.refl _
  · have : a = l.length := by omega
    subst this
    rw [catF_ge (Nat.le_refl _), Nat.sub_self, show (l ++ [y]).getD l.length noRow = y by simp [List.getD_eq_getElem?_getD]]
    exact hg b hb
theorem take1 {d : SDoc} (h0 : 0 < d.rows.length) : d.rows.take (0 + 1) = [d.rows.getD 0 noRow] := by
  rw [List.take_add_one, List.getD_eq_getElem?_getD, List.getElem?_eq_getElem h0]
  rfl
theorem f317o (d : SDoc) (hd : fitDoc d) (h0 : 0 < d.rows.length) : PCall Tryz.prog 27 [encDoc d] (.ag 2 (at_ (.p .any) [.p (encEntries d.head), .sl 0])) [rowRows d.rows] := by
  have hlen : d.rows.length ≤ 3518437208780 := hd.2.1
  refine gcode hT hM Tryz.func27 rfl rfl (rv := [(2, some 61)]) rfl rfl rfl fun G hG => ?_
  conv => whnf
  refine CallK.go [] (f335 d.head hd.1) rfl rfl rfl rfl rfl ?_
  conv => whnf
  refine AW.loop (X := Nat) (owS d) (fun i => i ≤ d.rows.length) (fun i => d.rows.length - i) (used0 hG _) 0 (Nat.zero_le _) (show StLe _ (ow0 d) from stle ⟨RepLe.refl _, RepLe.refl _, RepLe.refl _, RepLe.refl _, RepLe.refl _, trivial⟩ ⟨⟨_, rfl, BlkLe.anys rfl⟩, ⟨_, rfl, BlkLe.refl _⟩, trivial⟩ rfl) ?_
  rintro i hi
  have hi : i ≤ d.rows.length := hi
  cases i with
  | zero =>
    refine codeK_aw hT hM _ _ _ ?_
    conv => whnf
    refine ⟨fun h4 => ?_, fun h4 => ?_⟩
    · conv => whnf
      refine ⟨by omega, ?_⟩
      conv => whnf
      refine CallK.go [] (f335 (d.rows.getD 0 noRow).l (hd.row 0)) rfl rfl rfl rfl rfl ?_
      conv => whnf
      refine ⟨⟨show 1 ≤ 9223372036854775807 by decide, show 1 * 40 ≤ 140737488355328 by decide⟩, ?_⟩
      conv => whnf
      refine ⟨rfl, ?_⟩
      conv => whnf
      intro z hz
      have hy := wrap64_eq hz (by omega) (by omega)
      clear hz
      subst hy
      conv => whnf
      exact ⟨0 + 1, (show 0 + 1 ≤ _ by omega), (show d.rows.length - (0 + 1) < d.rows.length - 0 by omega), (show StLe _ (ow1 d (0 + 1)) from stleR [(4096, 20552)] ⟨RepLe.refl _, RepLe.refl _, RepLe.refl _, RepLe.refl _, RepLe.of rfl, trivial⟩ ⟨⟨_, rfl, BlkLe.anys rfl⟩, ⟨_, rfl, BlkLe.refl _⟩, ⟨_, rfl, rowOne2 (y := d.rows.getD 0 noRow) (two (PLe.refl _) (PLe.refl _)) (take1 h0)⟩, trivial⟩ rfl)⟩
    exact absurd h0 (by rw [iLt_f] at h4; omega)
  | succ i =>
    refine codeK_aw hT hM _ _ _ ?_
    conv => whnf
    refine ⟨fun h4 => ?_, fun h4 => ?_⟩
    · have hlt : i + 1 < d.rows.length := by rw [iLt_t] at h4; omega
      conv => whnf
      refine ⟨by omega, ?_⟩
      conv => whnf
      refine CallK.go [] (f335 (d.rows.getD (i + 1) noRow).l (hd.row (i + 1))) rfl rfl rfl rfl rfl ?_
      conv => whnf
      have hm : (d.rows.take (i + 1)).length = i + 1 := by rw [List.length_take]; omega
      refine ⟨⟨show (d.rows.take (i + 1)).length + 1 ≤ 9223372036854775807 by omega, show ((d.rows.take (i + 1)).length + 1) * 40 ≤ 140737488355328 by omega⟩, ?_⟩
      conv => whnf
      refine ⟨rfl, ?_⟩
      conv => whnf
      intro z hz
      have hy := wrap64_eq hz (by omega) (by omega)
      clear hz
      subst hy
      conv => whnf
      exact ⟨(i + 1) + 1, (show (i + 1) + 1 ≤ _ by omega), (show d.rows.length - ((i + 1) + 1) < d.rows.length - (i + 1) by omega), (show StLe _ (ow1 d ((i + 1) + 1)) from stleR [(4096, 20552)] ⟨RepLe.refl _, RepLe.refl _, RepLe.refl _, RepLe.refl _, RepLe.of rfl, trivial⟩ ⟨⟨_, rfl, BlkLe.anys rfl⟩, ⟨_, rfl, BlkLe.refl _⟩, ⟨_, rfl, rowSnoc2 (y := d.rows.getD (i + 1) noRow) (two (PLe.refl _) (PLe.refl _)) (takeS hlt)⟩, trivial⟩ rfl)⟩
    have hge : i + 1 = d.rows.length := by rw [iLt_f] at h4; omega
    conv => whnf
    refine .inr ?_
    conv => whnf
    refine .inr ?_
    conv => whnf
    exact ⟨[4096], _, _, _, rfl, rfl, rfl, RepLe.refl _, (by rw [hge, List.take_length]; exact BlkLe.refl _), trivial⟩
end Go.Proofs.YtalpbdabeffnlaaGreat

/- Entries of one scope over a lens: the program's. -/
set_option linter.unusedVariables false
set_option linter.unusedSimpArgs false
namespace Go.Proofs.YtalpbdabeffnlaaGreat
open Go Go.Av Go.Fl
set_option maxRecDepth 100000
set_option maxHeartbeats 4000000

theorem five {P : Nat → Prop} (h0 : P 0) (h1 : P 1) (h2 : P 2) (h3 : P 3) (h4 : P 4) : ∀ b, b < 5 → P b
  | 0, _ => h0
  | 1, _ => h1
  | 2, _ => h2
  | 3, _ => h3
  | 4, _ => h4
theorem rowOne5 {y : SEntry} {g : Nat → Nat → PV} (hg : ∀ b, b < 5 → PLe (g 0 b) (at_ .any (entryCells y) b)) {l m : List SEntry} (h : l = []) (hl : m = l ++ [y]) : BlkLe (.row 101 5 1 g) (.row 101 5 m.length fun i => at_ .any (entryCells (m.getD i noEntry))) := by
  subst h hl
  refine BlkLe.rowLe rfl fun a b ha hb => ?_
  have : a = 0 := by omega
  subst this
  exact hg b hb
theorem rowSnoc5 {l m : List SEntry} {y : SEntry} {g : Nat → Nat → PV} (hg : ∀ b, b < 5 → PLe (g 0 b) (at_ .any (entryCells y) b)) (hm : m = l ++ [y]) :
    BlkLe (.row 101 5 (l.length + 1) (catF l.length (fun i => at_ .any (entryCells (l.getD i noEntry))) g)) (.row 101 5 m.length fun i => at_ .any (entryCells (m.getD i noEntry))) := by
  subst hm
  refine BlkLe.rowLe (by simp) fun a b ha hb => ?_
  by_cases hal : a < l.length
  · rw [catF_lt hal, show (l ++ [y]).getD a noEntry = l.getD a noEntry by simp [List.getD_eq_getElem?_getD, List.getElem?_append_left hal]]
    exact PLe.refl _
  · have : a = l.length := by omega
    subst this
    rw [catF_ge (Nat.le_refl _), Nat.sub_self, show (l ++ [y]).getD l.length noEntry = y by simp [List.getD_eq_getElem?_getD]]
    exact hg b hb
theorem take_snoc {α : Type} (l : List α) (z : α) {i : Nat} (h : i < l.length) : l.take (i + 1) = l.take i ++ [l.getD i z] := by
  rw [List.take_add_one, List.getD_eq_getElem?_getD, List.getElem?_eq_getElem h]
  rfl
theorem drop_head {α : Type} (l : List α) (z : α) {i : Nat} (h : i < l.length) : l.drop i = l.getD i z :: l.drop (i + 1) := by
  rw [List.getD_eq_getElem?_getD, List.getElem?_eq_getElem h]
  exact List.drop_eq_getElem_cons h
theorem atF_fit {es : List SEntry} (he : fitEntries es) (r : SRef) : fitEntry (atF es r).1 := by
  unfold atF
  cases entryIn es r with
  | none => exact Nat.zero_le _
  | some i => exact he.at i
/-- The entries that go. -/
def wentP (x : SLens) (es : List SEntry) : List SEntry := (goesOf x).map fun r => (atF es r).1
theorem wentP_len (x : SLens) (es : List SEntry) : (wentP x es).length = (goesOf x).length := List.length_map _
theorem wentP_at (x : SLens) (es : List SEntry) {i : Nat} (h : i < (goesOf x).length) : (wentP x es).getD i noEntry = (atF es ((goesOf x).getD i noRef)).1 := by
  unfold wentP
  rw [List.getD_eq_getElem?_getD, List.getElem?_map, List.getD_eq_getElem?_getD, List.getElem?_eq_getElem h]
  rfl
theorem wentP_fit (x : SLens) {es : List SEntry} (he : fitEntries es) : fitEntry (e0 (wentP x es)) := by
  unfold e0
  rcases Nat.eq_zero_or_pos (goesOf x).length with h | h
  · have : wentP x es = [] := List.length_eq_zero_iff.1 (by rw [wentP_len, h])
    rw [this]; exact Nat.zero_le _
  · rw [wentP_at x es h]; exact atF_fit he _
def stepP (x : SLens) (w es : List SEntry) (f : SField) : SEntry × Int :=
  match idxRef (comesOf x) f.place with
  | none => ((atF es f.place).1, 0)
  | some k => comeP x f k w
def allP (x : SLens) (w es : List SEntry) : List SField → List SEntry → List SEntry × Int
  | [], acc => (acc, 0)
  | f :: l, acc => if iEq (stepP x w es f).2 0 then allP x w es l (acc ++ [(stepP x w es f).1]) else ([], (stepP x w es f).2)
def entriesP (x : SLens) (fields : List SField) (es : List SEntry) : List SEntry × Int := allP x (wentP x es) es fields []
def encEnts (p : List SEntry × Int) : AV := .tup 2 (at_ (.p .any) [.p (encEntries p.1), .p (.val (.int .i64 p.2))])
theorem ents_ret {a b : PV} {p : List SEntry × Int} {l : List SEntry} {c : Int} (h : p = (l, c)) (ha : PLe a (encEntries l)) (hb : PLe b (.val (.int .i64 c))) : RepLe (.tup 2 (at_ (.p .any) [.p a, .p b])) (encEnts p) := by
  subst h; exact RepLe.tup2 (PLe.rep ha) (PLe.rep hb)
theorem nil_entries : PLe (.val (.slice none 0 0)) (encEntries []) := PLe.nil
def en0 (x : SLens) (fields : List SField) (es : List SEntry) : St :=
  told 82 [(1, .p (encFields fields)), (2, .p (encEntries es)), (3, .pt 0 0), (8, .p (.val (.slice none 0 0))), (9, .p (.val (.slice none 0 0))), (23, .p (encRefs (goesOf x))), (24, vI .i64 ((goesOf x).length : Int)), (25, vI .i64 0)] [(0, some (.box 42 ((lensCells x).map .p)))] [0]
def en1 (x : SLens) (fields : List SField) (es : List SEntry) (i : Nat) : St :=
  told 82 [(1, .p (encFields fields)), (2, .p (encEntries es)), (3, .pt 0 0), (8, .sl 4096), (9, .p (.val (.slice none 0 0))), (23, .p (encRefs (goesOf x))), (24, vI .i64 ((goesOf x).length : Int)), (25, vI .i64 (i : Int))] [(0, some (.box 42 ((lensCells x).map .p))), (4096, rowEntries ((wentP x es).take i))] [0, 4096]
def enS (x : SLens) (fields : List SField) (es : List SEntry) (i : Nat) : St := match i with | 0 => en0 x fields es | i + 1 => en1 x fields es (i + 1)
def eo0 (x : SLens) (fields : List SField) (es : List SEntry) : St :=
  told 82 [(2, .p (encEntries es)), (3, .pt 0 0), (8, .p (encEntries (wentP x es))), (9, .p (.val (.slice none 0 0))), (14, .p (encRefs (comesOf x))), (42, .p (encFields fields)), (43, vI .i64 (fields.length : Int)), (44, vI .i64 0)] [(0, some (.box 42 ((lensCells x).map .p)))] [0]
def eo1 (x : SLens) (fields : List SField) (es : List SEntry) (i : Nat) (acc : List SEntry) : St :=
  told 82 [(2, .p (encEntries es)), (3, .pt 0 0), (8, .p (encEntries (wentP x es))), (9, .sl 4096), (14, .p (encRefs (comesOf x))), (42, .p (encFields fields)), (43, vI .i64 (fields.length : Int)), (44, vI .i64 (i : Int))] [(0, some (.box 42 ((lensCells x).map .p))), (4096, rowEntries acc)] [0, 4096]
def eoS (x : SLens) (fields : List SField) (es : List SEntry) (p : Nat × List SEntry) : St := match p with | (0, _) => eo0 x fields es | (i + 1, acc) => eo1 x fields es (i + 1) acc
theorem f336 (x : SLens) (fields : List SField) (es : List SEntry) (hx : okLens x) (hok : lensOk x = true) (hl : fitFields fields) (he : fitEntries es)
    (hc : ∀ f ∈ fields, (idxRef (comesOf x) f.place).isSome = true → comeOk x (wentP x es)) :
    PCall Tryz.prog 68 [encLens x, encFields fields, encEntries es] (encEnts (entriesP x fields es)) [] := by
  have hlen := hl.1
  have hgl : (goesOf x).length ≤ 2 := by rw [goes_len hok]; cases iEq x.kind 2 <;> cases iEq x.kind 3 <;> cases iEq x.kind 9 <;> decide
  have hcl : (comesOf x).length ≤ 2 := by
    cases h3 : iEq x.kind 3 with
    | true => rw [comes_nil h3]; exact Nat.zero_le _
    | false => refine Nat.le_trans (comes_len hok h3) ?_; cases iEq x.kind 6 <;> decide
  have hwl := wentP_len x es
  have hk1 : iEq x.kind 2 = false → 0 < (wentP x es).length := fun h => by rw [hwl, goes_len hok, h]; cases iEq x.kind 3 <;> cases iEq x.kind 9 <;> decide
  have hk2 : iEq x.kind 9 = true → 1 < (wentP x es).length := fun h => by rw [hwl, goes_len hok, h, iEq_ne 2 h (by decide), iEq_ne 3 h (by decide)]; decide
  have hwf := wentP_fit x he
  refine gcode hT hM Tryz.func68 rfl rfl (rv := [(6, none), (7, none)]) rfl rfl rfl fun G hG => ?_
  conv => whnf
  refine CallK.go [] (f51 x hx) rfl rfl rfl rfl rfl ?_
  conv => whnf
  refine AW.loop (X := Nat) (enS x fields es) (fun i => i ≤ (goesOf x).length) (fun i => (goesOf x).length - i) (used0 hG _) 0 (Nat.zero_le _) (show StLe _ (en0 x fields es) from stle ⟨RepLe.refl _, RepLe.refl _, RepLe.refl _, RepLe.refl _, RepLe.refl _, RepLe.refl _, RepLe.refl _, RepLe.refl _, trivial⟩ ⟨⟨_, rfl, BlkLe.refl _⟩, trivial⟩ rfl) ?_
  rintro i hi
  have hi : i ≤ (goesOf x).length := hi
  cases i with
  | zero =>
    refine codeK_aw hT hM _ _ _ ?_
    conv => whnf
    refine ⟨fun h4 => ?_, fun h4 => ?_⟩
    · have hlt : 0 < (goesOf x).length := by rw [iLt_t] at h4; omega
      conv => whnf
      refine ⟨by omega, ?_⟩
      conv => whnf
      refine CallK.go [] (f353 es ((goesOf x).getD 0 noRef) he) rfl rfl rfl rfl rfl ?_
      conv => whnf
      refine ⟨⟨show 1 ≤ 9223372036854775807 by decide, show 1 * 72 ≤ 140737488355328 by decide⟩, ?_⟩
      conv => whnf
      intro z hz
      have hy := wrap64_eq hz (by omega) (by omega)
      clear hz
      subst hy
      conv => whnf
      exact ⟨0 + 1, (show 0 + 1 ≤ _ from hlt), (show (goesOf x).length - (0 + 1) < (goesOf x).length - 0 by omega), (show StLe _ (en1 x fields es (0 + 1)) from stleR [(4096, 24600)] ⟨RepLe.refl _, RepLe.refl _, RepLe.refl _, RepLe.refl _, RepLe.refl _, RepLe.refl _, RepLe.refl _, RepLe.of rfl, trivial⟩ ⟨⟨_, rfl, BlkLe.refl _⟩, ⟨_, rfl, rowOne5 (y := (atF es ((goesOf x).getD 0 noRef)).1) (l := []) (five (PLe.refl _) (PLe.refl _) (PLe.refl _) (PLe.refl _) (PLe.refl _)) rfl (by rw [take_snoc _ noEntry (by rw [hwl]; exact hlt), wentP_at x es hlt]; rfl)⟩, trivial⟩ rfl)⟩
    have hz : 0 = (goesOf x).length := by rw [iLt_f] at h4; omega
    have hw0 : wentP x es = [] := List.length_eq_zero_iff.1 (by rw [hwl]; exact hz.symm)
    conv => whnf
    refine CallK.go [] (f52 x hx) rfl rfl rfl rfl rfl ?_
    conv => whnf
    refine AW.loop (X := Nat × List SEntry) (eoS x fields es) (fun p => p.1 ≤ fields.length ∧ p.2.length = p.1 ∧ entriesP x fields es = allP x (wentP x es) es (fields.drop p.1) p.2) (fun p => fields.length - p.1) (used0 hG _) (0, []) ⟨Nat.zero_le _, rfl, rfl⟩ (show StLe _ (eo0 x fields es) from stle ⟨RepLe.refl _, RepLe.refl _, PLe.rep (by rw [hw0]; exact nil_entries), RepLe.refl _, RepLe.refl _, RepLe.refl _, RepLe.refl _, RepLe.refl _, trivial⟩ ⟨⟨_, rfl, BlkLe.refl _⟩, trivial⟩ rfl) ?_
    rintro ⟨j, acc⟩ ⟨hj, hal, hr⟩
    have hj : j ≤ fields.length := hj
    have hal : acc.length = j := hal
    have hr : entriesP x fields es = allP x (wentP x es) es (fields.drop j) acc := hr
    cases j with
    | zero =>
      have ha0 : acc = [] := List.length_eq_zero_iff.1 hal
      have hrow : ∀ {y : SEntry} {g : Nat → Nat → PV}, (∀ b, b < 5 → PLe (g 0 b) (at_ .any (entryCells y) b)) → BlkLe (.row 101 5 1 g) (.row 101 5 (acc ++ [y]).length fun i => at_ .any (entryCells ((acc ++ [y]).getD i noEntry))) := fun hg => rowOne5 hg ha0 rfl
      refine codeK_aw hT hM _ _ _ ?_
      conv => whnf
      refine ⟨fun h5 => ?_, fun h5 => ?_⟩
      · have hlt : 0 < fields.length := by rw [iLt_t] at h5; omega
        have hmem : fields.getD 0 noField ∈ fields := by rw [List.getD_eq_getElem?_getD, List.getElem?_eq_getElem hlt]; exact List.getElem_mem hlt
        rw [drop_head fields noField hlt] at hr
        have hcf := hc _ hmem
        have hstep : stepP x (wentP x es) es (fields.getD 0 noField) = match idxRef (comesOf x) (fields.getD 0 noField).place with | none => ((atF es (fields.getD 0 noField).place).1, 0) | some k => comeP x (fields.getD 0 noField) k (wentP x es) := rfl
        have hr : entriesP x fields es = if iEq (stepP x (wentP x es) es (fields.getD 0 noField)).2 0 then allP x (wentP x es) es (fields.drop (0 + 1)) (acc ++ [(stepP x (wentP x es) es (fields.getD 0 noField)).1]) else ([], (stepP x (wentP x es) es (fields.getD 0 noField)).2) := hr
        conv => whnf
        refine ⟨by omega, ?_⟩
        conv => whnf
        refine CallK.go [] (f331 (comesOf x) (fields.getD 0 noField).place (Nat.le_trans hcl (by decide))) rfl rfl rfl rfl rfl ?_
        conv => whnf
        refine ⟨fun n1 => ?_, fun n1 => ?_⟩
        · have hnone : idxRef (comesOf x) (fields.getD 0 noField).place = none := by
            cases q : idxRef (comesOf x) (fields.getD 0 noField).place with
            | none => rfl
            | some k =>
              rw [q] at n1
              exact absurd (iLt_t.1 n1) (show ¬ ((k : Nat) : Int) < 0 by omega)
          rw [hnone] at hstep
          have hstep : stepP x (wentP x es) es (fields.getD 0 noField) = ((atF es (fields.getD 0 noField).place).1, 0) := hstep
          rw [hstep] at hr
          have hr : entriesP x fields es = allP x (wentP x es) es (fields.drop (0 + 1)) (acc ++ [(atF es (fields.getD 0 noField).place).1]) := hr.trans (if_pos (iEq_t.2 rfl))
          conv => whnf
          refine CallK.go [] (f353 es (fields.getD 0 noField).place he) rfl rfl rfl rfl rfl ?_
          conv => whnf
          refine ⟨⟨show 1 ≤ 9223372036854775807 by decide, show 1 * 72 ≤ 140737488355328 by decide⟩, ?_⟩
          conv => whnf
          intro z hz
          have hy := wrap64_eq hz (by omega) (by omega)
          clear hz
          subst hy
          conv => whnf
          exact ⟨(0 + 1, acc ++ [(atF es (fields.getD 0 noField).place).1]), ⟨(show 0 + 1 ≤ _ from hlt), (by simp [hal]), hr⟩, (show fields.length - (0 + 1) < fields.length - 0 by omega), (show StLe _ (eo1 x fields es (0 + 1) (acc ++ [(atF es (fields.getD 0 noField).place).1])) from stleR [(4096, 61464)] ⟨RepLe.refl _, RepLe.refl _, RepLe.refl _, RepLe.refl _, RepLe.refl _, RepLe.refl _, RepLe.refl _, RepLe.of rfl, trivial⟩ ⟨⟨_, rfl, BlkLe.refl _⟩, ⟨_, rfl, hrow (five (PLe.refl _) (PLe.refl _) (PLe.refl _) (PLe.refl _) (PLe.refl _))⟩, trivial⟩ rfl)⟩
        obtain ⟨k, hk⟩ : ∃ k, idxRef (comesOf x) (fields.getD 0 noField).place = some k := by
          cases q : idxRef (comesOf x) (fields.getD 0 noField).place with
          | some k => exact ⟨k, rfl⟩
          | none =>
            rw [q] at n1
            exact absurd (iLt_f.1 n1) (show ¬ (0 : Int) ≤ -1 by decide)
        rw [hk] at hstep
        have hstep : stepP x (wentP x es) es (fields.getD 0 noField) = comeP x (fields.getD 0 noField) ((k : Nat) : Int) (wentP x es) := hstep
        have hcf := hcf (by rw [hk]; rfl)
        rw [hstep] at hr
        have c354 := f354 x (fields.getD 0 noField) (posOf (idxRef (comesOf x) (fields.getD 0 noField).place)) (wentP x es) hx hcf hwf hk1 hk2
        rw [show comeP x (fields.getD 0 noField) (posOf (idxRef (comesOf x) (fields.getD 0 noField).place)) (wentP x es) = comeP x (fields.getD 0 noField) ((k : Nat) : Int) (wentP x es) by rw [hk]; rfl] at c354
        conv => whnf
        refine CallK.go [] (c354) rfl rfl rfl rfl rfl ?_
        conv => whnf
        refine ⟨fun n2 => ?_, fun n2 => ?_⟩
        · have n2 : iEq (comeP x (fields.getD 0 noField) ((k : Nat) : Int) (wentP x es)).2 0 = false := nott n2
          rw [n2] at hr
          have hr : entriesP x fields es = ([], (comeP x (fields.getD 0 noField) ((k : Nat) : Int) (wentP x es)).2) := hr
          conv => whnf
          exact ⟨[], _, _, _, rfl, rfl, rfl, ents_ret (l := []) hr nil_entries (PLe.refl _), trivial⟩
        have n2 : iEq (comeP x (fields.getD 0 noField) ((k : Nat) : Int) (wentP x es)).2 0 = true := notf n2
        rw [n2] at hr
        conv => whnf
        refine ⟨⟨show 1 ≤ 9223372036854775807 by decide, show 1 * 72 ≤ 140737488355328 by decide⟩, ?_⟩
        conv => whnf
        intro z hz
        have hy := wrap64_eq hz (by omega) (by omega)
        clear hz
        subst hy
        conv => whnf
        exact ⟨(0 + 1, acc ++ [(comeP x (fields.getD 0 noField) ((k : Nat) : Int) (wentP x es)).1]), ⟨(show 0 + 1 ≤ _ from hlt), (by simp [hal]), hr⟩, (show fields.length - (0 + 1) < fields.length - 0 by omega), (show StLe _ (eo1 x fields es (0 + 1) (acc ++ [(comeP x (fields.getD 0 noField) ((k : Nat) : Int) (wentP x es)).1])) from stleR [(4096, 77848)] ⟨RepLe.refl _, RepLe.refl _, RepLe.refl _, RepLe.refl _, RepLe.refl _, RepLe.refl _, RepLe.refl _, RepLe.of rfl, trivial⟩ ⟨⟨_, rfl, BlkLe.refl _⟩, ⟨_, rfl, hrow (five (PLe.refl _) (PLe.refl _) (PLe.refl _) (PLe.refl _) (PLe.refl _))⟩, trivial⟩ rfl)⟩
      have hz : 0 = fields.length := by rw [iLt_f] at h5; omega
      rw [hz, List.drop_length] at hr
      conv => whnf
      exact ⟨[], _, _, _, rfl, rfl, rfl, ents_ret (l := acc) (by rw [hr]; rfl) (by rw [ha0]; exact nil_entries) (PLe.refl _), trivial⟩
    | succ j =>
      refine codeK_aw hT hM _ _ _ ?_
      conv => whnf
      refine ⟨fun h5 => ?_, fun h5 => ?_⟩
      · have hlt : j + 1 < fields.length := by rw [iLt_t] at h5; omega
        have hmem : fields.getD (j + 1) noField ∈ fields := by rw [List.getD_eq_getElem?_getD, List.getElem?_eq_getElem hlt]; exact List.getElem_mem hlt
        rw [drop_head fields noField hlt] at hr
        have hcf := hc _ hmem
        have hstep : stepP x (wentP x es) es (fields.getD (j + 1) noField) = match idxRef (comesOf x) (fields.getD (j + 1) noField).place with | none => ((atF es (fields.getD (j + 1) noField).place).1, 0) | some k => comeP x (fields.getD (j + 1) noField) k (wentP x es) := rfl
        have hr : entriesP x fields es = if iEq (stepP x (wentP x es) es (fields.getD (j + 1) noField)).2 0 then allP x (wentP x es) es (fields.drop ((j + 1) + 1)) (acc ++ [(stepP x (wentP x es) es (fields.getD (j + 1) noField)).1]) else ([], (stepP x (wentP x es) es (fields.getD (j + 1) noField)).2) := hr
        conv => whnf
        refine ⟨by omega, ?_⟩
        conv => whnf
        refine CallK.go [] (f331 (comesOf x) (fields.getD (j + 1) noField).place (Nat.le_trans hcl (by decide))) rfl rfl rfl rfl rfl ?_
        conv => whnf
        refine ⟨fun n1 => ?_, fun n1 => ?_⟩
        · have hnone : idxRef (comesOf x) (fields.getD (j + 1) noField).place = none := by
            cases q : idxRef (comesOf x) (fields.getD (j + 1) noField).place with
            | none => rfl
            | some k =>
              rw [q] at n1
              exact absurd (iLt_t.1 n1) (show ¬ ((k : Nat) : Int) < 0 by omega)
          rw [hnone] at hstep
          have hstep : stepP x (wentP x es) es (fields.getD (j + 1) noField) = ((atF es (fields.getD (j + 1) noField).place).1, 0) := hstep
          rw [hstep] at hr
          have hr : entriesP x fields es = allP x (wentP x es) es (fields.drop ((j + 1) + 1)) (acc ++ [(atF es (fields.getD (j + 1) noField).place).1]) := hr.trans (if_pos (iEq_t.2 rfl))
          conv => whnf
          refine CallK.go [] (f353 es (fields.getD (j + 1) noField).place he) rfl rfl rfl rfl rfl ?_
          conv => whnf
          refine ⟨⟨show acc.length + 1 ≤ 9223372036854775807 by omega, show (acc.length + 1) * 72 ≤ 140737488355328 by omega⟩, ?_⟩
          conv => whnf
          intro z hz
          have hy := wrap64_eq hz (by omega) (by omega)
          clear hz
          subst hy
          conv => whnf
          exact ⟨((j + 1) + 1, acc ++ [(atF es (fields.getD (j + 1) noField).place).1]), ⟨(show (j + 1) + 1 ≤ _ from hlt), (by simp [hal]), hr⟩, (show fields.length - ((j + 1) + 1) < fields.length - (j + 1) by omega), (show StLe _ (eo1 x fields es ((j + 1) + 1) (acc ++ [(atF es (fields.getD (j + 1) noField).place).1])) from stleR [(4096, 61464)] ⟨RepLe.refl _, RepLe.refl _, RepLe.refl _, RepLe.refl _, RepLe.refl _, RepLe.refl _, RepLe.refl _, RepLe.of rfl, trivial⟩ ⟨⟨_, rfl, BlkLe.refl _⟩, ⟨_, rfl, rowSnoc5 (five (PLe.refl _) (PLe.refl _) (PLe.refl _) (PLe.refl _) (PLe.refl _)) rfl⟩, trivial⟩ rfl)⟩
        obtain ⟨k, hk⟩ : ∃ k, idxRef (comesOf x) (fields.getD (j + 1) noField).place = some k := by
          cases q : idxRef (comesOf x) (fields.getD (j + 1) noField).place with
          | some k => exact ⟨k, rfl⟩
          | none =>
            rw [q] at n1
            exact absurd (iLt_f.1 n1) (show ¬ (0 : Int) ≤ -1 by decide)
        rw [hk] at hstep
        have hstep : stepP x (wentP x es) es (fields.getD (j + 1) noField) = comeP x (fields.getD (j + 1) noField) ((k : Nat) : Int) (wentP x es) := hstep
        have hcf := hcf (by rw [hk]; rfl)
        rw [hstep] at hr
        have c354 := f354 x (fields.getD (j + 1) noField) (posOf (idxRef (comesOf x) (fields.getD (j + 1) noField).place)) (wentP x es) hx hcf hwf hk1 hk2
        rw [show comeP x (fields.getD (j + 1) noField) (posOf (idxRef (comesOf x) (fields.getD (j + 1) noField).place)) (wentP x es) = comeP x (fields.getD (j + 1) noField) ((k : Nat) : Int) (wentP x es) by rw [hk]; rfl] at c354
        conv => whnf
        refine CallK.go [] (c354) rfl rfl rfl rfl rfl ?_
        conv => whnf
        refine ⟨fun n2 => ?_, fun n2 => ?_⟩
        · have n2 : iEq (comeP x (fields.getD (j + 1) noField) ((k : Nat) : Int) (wentP x es)).2 0 = false := nott n2
          rw [n2] at hr
          have hr : entriesP x fields es = ([], (comeP x (fields.getD (j + 1) noField) ((k : Nat) : Int) (wentP x es)).2) := hr
          conv => whnf
          exact ⟨[], _, _, _, rfl, rfl, rfl, ents_ret (l := []) hr nil_entries (PLe.refl _), trivial⟩
        have n2 : iEq (comeP x (fields.getD (j + 1) noField) ((k : Nat) : Int) (wentP x es)).2 0 = true := notf n2
        rw [n2] at hr
        conv => whnf
        refine ⟨⟨show acc.length + 1 ≤ 9223372036854775807 by omega, show (acc.length + 1) * 72 ≤ 140737488355328 by omega⟩, ?_⟩
        conv => whnf
        intro z hz
        have hy := wrap64_eq hz (by omega) (by omega)
        clear hz
        subst hy
        conv => whnf
        exact ⟨((j + 1) + 1, acc ++ [(comeP x (fields.getD (j + 1) noField) ((k : Nat) : Int) (wentP x es)).1]), ⟨(show (j + 1) + 1 ≤ _ from hlt), (by simp [hal]), hr⟩, (show fields.length - ((j + 1) + 1) < fields.length - (j + 1) by omega), (show StLe _ (eo1 x fields es ((j + 1) + 1) (acc ++ [(comeP x (fields.getD (j + 1) noField) ((k : Nat) : Int) (wentP x es)).1])) from stleR [(4096, 77848)] ⟨RepLe.refl _, RepLe.refl _, RepLe.refl _, RepLe.refl _, RepLe.refl _, RepLe.refl _, RepLe.refl _, RepLe.of rfl, trivial⟩ ⟨⟨_, rfl, BlkLe.refl _⟩, ⟨_, rfl, rowSnoc5 (five (PLe.refl _) (PLe.refl _) (PLe.refl _) (PLe.refl _) (PLe.refl _)) rfl⟩, trivial⟩ rfl)⟩
      have hz : j + 1 = fields.length := by rw [iLt_f] at h5; omega
      rw [hz, List.drop_length] at hr
      conv => whnf
      exact ⟨[], _, _, _, rfl, rfl, rfl, ents_ret (l := acc) (by rw [hr]; rfl) (PLe.refl _) (PLe.refl _), trivial⟩
  | succ i =>
    refine codeK_aw hT hM _ _ _ ?_
    conv => whnf
    refine ⟨fun h4 => ?_, fun h4 => ?_⟩
    · have hlt : i + 1 < (goesOf x).length := by rw [iLt_t] at h4; omega
      have hm : ((wentP x es).take (i + 1)).length = i + 1 := by rw [List.length_take, hwl]; omega
      conv => whnf
      refine ⟨by omega, ?_⟩
      conv => whnf
      refine CallK.go [] (f353 es ((goesOf x).getD (i + 1) noRef) he) rfl rfl rfl rfl rfl ?_
      conv => whnf
      refine ⟨⟨show ((wentP x es).take (i + 1)).length + 1 ≤ 9223372036854775807 by omega, show (((wentP x es).take (i + 1)).length + 1) * 72 ≤ 140737488355328 by omega⟩, ?_⟩
      conv => whnf
      intro z hz
      have hy := wrap64_eq hz (by omega) (by omega)
      clear hz
      subst hy
      conv => whnf
      exact ⟨(i + 1) + 1, (show (i + 1) + 1 ≤ _ from hlt), (show (goesOf x).length - ((i + 1) + 1) < (goesOf x).length - (i + 1) by omega), (show StLe _ (en1 x fields es ((i + 1) + 1)) from stleR [(4096, 24600)] ⟨RepLe.refl _, RepLe.refl _, RepLe.refl _, RepLe.refl _, RepLe.refl _, RepLe.refl _, RepLe.refl _, RepLe.of rfl, trivial⟩ ⟨⟨_, rfl, BlkLe.refl _⟩, ⟨_, rfl, rowSnoc5 (y := (atF es ((goesOf x).getD (i + 1) noRef)).1) (five (PLe.refl _) (PLe.refl _) (PLe.refl _) (PLe.refl _) (PLe.refl _)) (by rw [take_snoc _ noEntry (by rw [hwl]; exact hlt), wentP_at x es hlt])⟩, trivial⟩ rfl)⟩
    have hz : i + 1 = (goesOf x).length := by rw [iLt_f] at h4; omega
    have hw0 : (wentP x es).take (i + 1) = wentP x es := by rw [hz, ← hwl, List.take_length]
    conv => whnf
    refine CallK.go [] (f52 x hx) rfl rfl rfl rfl rfl ?_
    conv => whnf
    refine AW.loop (X := Nat × List SEntry) (eoS x fields es) (fun p => p.1 ≤ fields.length ∧ p.2.length = p.1 ∧ entriesP x fields es = allP x (wentP x es) es (fields.drop p.1) p.2) (fun p => fields.length - p.1) (used0 hG _) (0, []) ⟨Nat.zero_le _, rfl, rfl⟩ (show StLe _ (eo0 x fields es) from stleF (t := 8) rfl rfl (stle ⟨RepLe.refl _, RepLe.refl _, PLe.rep (by rw [hw0]; exact PLe.refl _), RepLe.refl _, RepLe.refl _, RepLe.refl _, RepLe.refl _, RepLe.refl _, trivial⟩ ⟨⟨_, rfl, BlkLe.refl _⟩, trivial⟩ rfl)) ?_
    rintro ⟨j, acc⟩ ⟨hj, hal, hr⟩
    have hj : j ≤ fields.length := hj
    have hal : acc.length = j := hal
    have hr : entriesP x fields es = allP x (wentP x es) es (fields.drop j) acc := hr
    cases j with
    | zero =>
      have ha0 : acc = [] := List.length_eq_zero_iff.1 hal
      have hrow : ∀ {y : SEntry} {g : Nat → Nat → PV}, (∀ b, b < 5 → PLe (g 0 b) (at_ .any (entryCells y) b)) → BlkLe (.row 101 5 1 g) (.row 101 5 (acc ++ [y]).length fun i => at_ .any (entryCells ((acc ++ [y]).getD i noEntry))) := fun hg => rowOne5 hg ha0 rfl
      refine codeK_aw hT hM _ _ _ ?_
      conv => whnf
      refine ⟨fun h5 => ?_, fun h5 => ?_⟩
      · have hlt : 0 < fields.length := by rw [iLt_t] at h5; omega
        have hmem : fields.getD 0 noField ∈ fields := by rw [List.getD_eq_getElem?_getD, List.getElem?_eq_getElem hlt]; exact List.getElem_mem hlt
        rw [drop_head fields noField hlt] at hr
        have hcf := hc _ hmem
        have hstep : stepP x (wentP x es) es (fields.getD 0 noField) = match idxRef (comesOf x) (fields.getD 0 noField).place with | none => ((atF es (fields.getD 0 noField).place).1, 0) | some k => comeP x (fields.getD 0 noField) k (wentP x es) := rfl
        have hr : entriesP x fields es = if iEq (stepP x (wentP x es) es (fields.getD 0 noField)).2 0 then allP x (wentP x es) es (fields.drop (0 + 1)) (acc ++ [(stepP x (wentP x es) es (fields.getD 0 noField)).1]) else ([], (stepP x (wentP x es) es (fields.getD 0 noField)).2) := hr
        conv => whnf
        refine ⟨by omega, ?_⟩
        conv => whnf
        refine CallK.go [] (f331 (comesOf x) (fields.getD 0 noField).place (Nat.le_trans hcl (by decide))) rfl rfl rfl rfl rfl ?_
        conv => whnf
        refine ⟨fun n1 => ?_, fun n1 => ?_⟩
        · have hnone : idxRef (comesOf x) (fields.getD 0 noField).place = none := by
            cases q : idxRef (comesOf x) (fields.getD 0 noField).place with
            | none => rfl
            | some k =>
              rw [q] at n1
              exact absurd (iLt_t.1 n1) (show ¬ ((k : Nat) : Int) < 0 by omega)
          rw [hnone] at hstep
          have hstep : stepP x (wentP x es) es (fields.getD 0 noField) = ((atF es (fields.getD 0 noField).place).1, 0) := hstep
          rw [hstep] at hr
          have hr : entriesP x fields es = allP x (wentP x es) es (fields.drop (0 + 1)) (acc ++ [(atF es (fields.getD 0 noField).place).1]) := hr.trans (if_pos (iEq_t.2 rfl))
          conv => whnf
          refine CallK.go [] (f353 es (fields.getD 0 noField).place he) rfl rfl rfl rfl rfl ?_
          conv => whnf
          refine ⟨⟨show 1 ≤ 9223372036854775807 by decide, show 1 * 72 ≤ 140737488355328 by decide⟩, ?_⟩
          conv => whnf
          intro z hz
          have hy := wrap64_eq hz (by omega) (by omega)
          clear hz
          subst hy
          conv => whnf
          exact ⟨(0 + 1, acc ++ [(atF es (fields.getD 0 noField).place).1]), ⟨(show 0 + 1 ≤ _ from hlt), (by simp [hal]), hr⟩, (show fields.length - (0 + 1) < fields.length - 0 by omega), (show StLe _ (eo1 x fields es (0 + 1) (acc ++ [(atF es (fields.getD 0 noField).place).1])) from stleR [(4096, 61464)] ⟨RepLe.refl _, RepLe.refl _, RepLe.refl _, RepLe.refl _, RepLe.refl _, RepLe.refl _, RepLe.refl _, RepLe.of rfl, trivial⟩ ⟨⟨_, rfl, BlkLe.refl _⟩, ⟨_, rfl, hrow (five (PLe.refl _) (PLe.refl _) (PLe.refl _) (PLe.refl _) (PLe.refl _))⟩, trivial⟩ rfl)⟩
        obtain ⟨k, hk⟩ : ∃ k, idxRef (comesOf x) (fields.getD 0 noField).place = some k := by
          cases q : idxRef (comesOf x) (fields.getD 0 noField).place with
          | some k => exact ⟨k, rfl⟩
          | none =>
            rw [q] at n1
            exact absurd (iLt_f.1 n1) (show ¬ (0 : Int) ≤ -1 by decide)
        rw [hk] at hstep
        have hstep : stepP x (wentP x es) es (fields.getD 0 noField) = comeP x (fields.getD 0 noField) ((k : Nat) : Int) (wentP x es) := hstep
        have hcf := hcf (by rw [hk]; rfl)
        rw [hstep] at hr
        have c354 := f354 x (fields.getD 0 noField) (posOf (idxRef (comesOf x) (fields.getD 0 noField).place)) (wentP x es) hx hcf hwf hk1 hk2
        rw [show comeP x (fields.getD 0 noField) (posOf (idxRef (comesOf x) (fields.getD 0 noField).place)) (wentP x es) = comeP x (fields.getD 0 noField) ((k : Nat) : Int) (wentP x es) by rw [hk]; rfl] at c354
        conv => whnf
        refine CallK.go [] (c354) rfl rfl rfl rfl rfl ?_
        conv => whnf
        refine ⟨fun n2 => ?_, fun n2 => ?_⟩
        · have n2 : iEq (comeP x (fields.getD 0 noField) ((k : Nat) : Int) (wentP x es)).2 0 = false := nott n2
          rw [n2] at hr
          have hr : entriesP x fields es = ([], (comeP x (fields.getD 0 noField) ((k : Nat) : Int) (wentP x es)).2) := hr
          conv => whnf
          exact ⟨[], _, _, _, rfl, rfl, rfl, ents_ret (l := []) hr nil_entries (PLe.refl _), trivial⟩
        have n2 : iEq (comeP x (fields.getD 0 noField) ((k : Nat) : Int) (wentP x es)).2 0 = true := notf n2
        rw [n2] at hr
        conv => whnf
        refine ⟨⟨show 1 ≤ 9223372036854775807 by decide, show 1 * 72 ≤ 140737488355328 by decide⟩, ?_⟩
        conv => whnf
        intro z hz
        have hy := wrap64_eq hz (by omega) (by omega)
        clear hz
        subst hy
        conv => whnf
        exact ⟨(0 + 1, acc ++ [(comeP x (fields.getD 0 noField) ((k : Nat) : Int) (wentP x es)).1]), ⟨(show 0 + 1 ≤ _ from hlt), (by simp [hal]), hr⟩, (show fields.length - (0 + 1) < fields.length - 0 by omega), (show StLe _ (eo1 x fields es (0 + 1) (acc ++ [(comeP x (fields.getD 0 noField) ((k : Nat) : Int) (wentP x es)).1])) from stleR [(4096, 77848)] ⟨RepLe.refl _, RepLe.refl _, RepLe.refl _, RepLe.refl _, RepLe.refl _, RepLe.refl _, RepLe.refl _, RepLe.of rfl, trivial⟩ ⟨⟨_, rfl, BlkLe.refl _⟩, ⟨_, rfl, hrow (five (PLe.refl _) (PLe.refl _) (PLe.refl _) (PLe.refl _) (PLe.refl _))⟩, trivial⟩ rfl)⟩
      have hz : 0 = fields.length := by rw [iLt_f] at h5; omega
      rw [hz, List.drop_length] at hr
      conv => whnf
      exact ⟨[], _, _, _, rfl, rfl, rfl, ents_ret (l := acc) (by rw [hr]; rfl) (by rw [ha0]; exact nil_entries) (PLe.refl _), trivial⟩
    | succ j =>
      refine codeK_aw hT hM _ _ _ ?_
      conv => whnf
      refine ⟨fun h5 => ?_, fun h5 => ?_⟩
      · have hlt : j + 1 < fields.length := by rw [iLt_t] at h5; omega
        have hmem : fields.getD (j + 1) noField ∈ fields := by rw [List.getD_eq_getElem?_getD, List.getElem?_eq_getElem hlt]; exact List.getElem_mem hlt
        rw [drop_head fields noField hlt] at hr
        have hcf := hc _ hmem
        have hstep : stepP x (wentP x es) es (fields.getD (j + 1) noField) = match idxRef (comesOf x) (fields.getD (j + 1) noField).place with | none => ((atF es (fields.getD (j + 1) noField).place).1, 0) | some k => comeP x (fields.getD (j + 1) noField) k (wentP x es) := rfl
        have hr : entriesP x fields es = if iEq (stepP x (wentP x es) es (fields.getD (j + 1) noField)).2 0 then allP x (wentP x es) es (fields.drop ((j + 1) + 1)) (acc ++ [(stepP x (wentP x es) es (fields.getD (j + 1) noField)).1]) else ([], (stepP x (wentP x es) es (fields.getD (j + 1) noField)).2) := hr
        conv => whnf
        refine ⟨by omega, ?_⟩
        conv => whnf
        refine CallK.go [] (f331 (comesOf x) (fields.getD (j + 1) noField).place (Nat.le_trans hcl (by decide))) rfl rfl rfl rfl rfl ?_
        conv => whnf
        refine ⟨fun n1 => ?_, fun n1 => ?_⟩
        · have hnone : idxRef (comesOf x) (fields.getD (j + 1) noField).place = none := by
            cases q : idxRef (comesOf x) (fields.getD (j + 1) noField).place with
            | none => rfl
            | some k =>
              rw [q] at n1
              exact absurd (iLt_t.1 n1) (show ¬ ((k : Nat) : Int) < 0 by omega)
          rw [hnone] at hstep
          have hstep : stepP x (wentP x es) es (fields.getD (j + 1) noField) = ((atF es (fields.getD (j + 1) noField).place).1, 0) := hstep
          rw [hstep] at hr
          have hr : entriesP x fields es = allP x (wentP x es) es (fields.drop ((j + 1) + 1)) (acc ++ [(atF es (fields.getD (j + 1) noField).place).1]) := hr.trans (if_pos (iEq_t.2 rfl))
          conv => whnf
          refine CallK.go [] (f353 es (fields.getD (j + 1) noField).place he) rfl rfl rfl rfl rfl ?_
          conv => whnf
          refine ⟨⟨show acc.length + 1 ≤ 9223372036854775807 by omega, show (acc.length + 1) * 72 ≤ 140737488355328 by omega⟩, ?_⟩
          conv => whnf
          intro z hz
          have hy := wrap64_eq hz (by omega) (by omega)
          clear hz
          subst hy
          conv => whnf
          exact ⟨((j + 1) + 1, acc ++ [(atF es (fields.getD (j + 1) noField).place).1]), ⟨(show (j + 1) + 1 ≤ _ from hlt), (by simp [hal]), hr⟩, (show fields.length - ((j + 1) + 1) < fields.length - (j + 1) by omega), (show StLe _ (eo1 x fields es ((j + 1) + 1) (acc ++ [(atF es (fields.getD (j + 1) noField).place).1])) from stleR [(4096, 61464)] ⟨RepLe.refl _, RepLe.refl _, RepLe.refl _, RepLe.refl _, RepLe.refl _, RepLe.refl _, RepLe.refl _, RepLe.of rfl, trivial⟩ ⟨⟨_, rfl, BlkLe.refl _⟩, ⟨_, rfl, rowSnoc5 (five (PLe.refl _) (PLe.refl _) (PLe.refl _) (PLe.refl _) (PLe.refl _)) rfl⟩, trivial⟩ rfl)⟩
        obtain ⟨k, hk⟩ : ∃ k, idxRef (comesOf x) (fields.getD (j + 1) noField).place = some k := by
          cases q : idxRef (comesOf x) (fields.getD (j + 1) noField).place with
          | some k => exact ⟨k, rfl⟩
          | none =>
            rw [q] at n1
            exact absurd (iLt_f.1 n1) (show ¬ (0 : Int) ≤ -1 by decide)
        rw [hk] at hstep
        have hstep : stepP x (wentP x es) es (fields.getD (j + 1) noField) = comeP x (fields.getD (j + 1) noField) ((k : Nat) : Int) (wentP x es) := hstep
        have hcf := hcf (by rw [hk]; rfl)
        rw [hstep] at hr
        have c354 := f354 x (fields.getD (j + 1) noField) (posOf (idxRef (comesOf x) (fields.getD (j + 1) noField).place)) (wentP x es) hx hcf hwf hk1 hk2
        rw [show comeP x (fields.getD (j + 1) noField) (posOf (idxRef (comesOf x) (fields.getD (j + 1) noField).place)) (wentP x es) = comeP x (fields.getD (j + 1) noField) ((k : Nat) : Int) (wentP x es) by rw [hk]; rfl] at c354
        conv => whnf
        refine CallK.go [] (c354) rfl rfl rfl rfl rfl ?_
        conv => whnf
        refine ⟨fun n2 => ?_, fun n2 => ?_⟩
        · have n2 : iEq (comeP x (fields.getD (j + 1) noField) ((k : Nat) : Int) (wentP x es)).2 0 = false := nott n2
          rw [n2] at hr
          have hr : entriesP x fields es = ([], (comeP x (fields.getD (j + 1) noField) ((k : Nat) : Int) (wentP x es)).2) := hr
          conv => whnf
          exact ⟨[], _, _, _, rfl, rfl, rfl, ents_ret (l := []) hr nil_entries (PLe.refl _), trivial⟩
        have n2 : iEq (comeP x (fields.getD (j + 1) noField) ((k : Nat) : Int) (wentP x es)).2 0 = true := notf n2
        rw [n2] at hr
        conv => whnf
        refine ⟨⟨show acc.length + 1 ≤ 9223372036854775807 by omega, show (acc.length + 1) * 72 ≤ 140737488355328 by omega⟩, ?_⟩
        conv => whnf
        intro z hz
        have hy := wrap64_eq hz (by omega) (by omega)
        clear hz
        subst hy
        conv => whnf
        exact ⟨((j + 1) + 1, acc ++ [(comeP x (fields.getD (j + 1) noField) ((k : Nat) : Int) (wentP x es)).1]), ⟨(show (j + 1) + 1 ≤ _ from hlt), (by simp [hal]), hr⟩, (show fields.length - ((j + 1) + 1) < fields.length - (j + 1) by omega), (show StLe _ (eo1 x fields es ((j + 1) + 1) (acc ++ [(comeP x (fields.getD (j + 1) noField) ((k : Nat) : Int) (wentP x es)).1])) from stleR [(4096, 77848)] ⟨RepLe.refl _, RepLe.refl _, RepLe.refl _, RepLe.refl _, RepLe.refl _, RepLe.refl _, RepLe.refl _, RepLe.of rfl, trivial⟩ ⟨⟨_, rfl, BlkLe.refl _⟩, ⟨_, rfl, rowSnoc5 (five (PLe.refl _) (PLe.refl _) (PLe.refl _) (PLe.refl _) (PLe.refl _)) rfl⟩, trivial⟩ rfl)⟩
      have hz : j + 1 = fields.length := by rw [iLt_f] at h5; omega
      rw [hz, List.drop_length] at hr
      conv => whnf
      exact ⟨[], _, _, _, rfl, rfl, rfl, ents_ret (l := acc) (by rw [hr]; rfl) (PLe.refl _) (PLe.refl _), trivial⟩
end Go.Proofs.YtalpbdabeffnlaaGreat
