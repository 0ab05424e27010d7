import Derived.Test.YtalpbdabeffnlaaGreatJoDA
import Derived.Test.YtalpbdabeffnlaaGreatJoX
import Derived.LoopTactic
/- Documents: entries, rows; whether they are the same. -/
set_option linter.unusedVariables false
set_option linter.unusedSimpArgs false
namespace Go.Proofs.YtalpbdabeffnlaaGreat
open Go Go.Av
set_option maxRecDepth 100000
set_option maxHeartbeats 4000000

structure SEntry where
  place : SRef
  n : Int
  texts : List ByteArray
def noEntry : SEntry := ⟨noRef, 0, []⟩
def entryCells (e : SEntry) : List PV := [.val (.int .i64 e.place.scope), .val (.string e.place.group), .val (.string e.place.name), .val (.int .i64 e.n), encStrs e.texts]
def encEntry (e : SEntry) : PV := aggL (entryCells e)
def encEntries (l : List SEntry) : PV := .rs 5 l.length fun i => at_ .any (entryCells (l.getD i noEntry))
structure SRow where
  item : ByteArray
  l : List SEntry
def noRow : SRow := ⟨noS, []⟩
def rowCells (r : SRow) : List PV := [.val (.string r.item), encEntries r.l]
def encDocRow (r : SRow) : PV := aggL (rowCells r)
def encRows (l : List SRow) : PV := .rs 2 l.length fun i => at_ .any (rowCells (l.getD i noRow))
structure SDoc where
  head : List SEntry
  rows : List SRow
def noDoc : SDoc := ⟨[], []⟩
def docCells (d : SDoc) : List PV := [encEntries d.head, encRows d.rows]
def encDoc (d : SDoc) : PV := aggL (docCells d)
/-- Every list in it is one that memory can hold, and copy. -/
def fitEntry (e : SEntry) : Prop := e.texts.length ≤ 8796093022208
def fitEntries (l : List SEntry) : Prop := l.length ≤ 1954687338211 ∧ ∀ e ∈ l, fitEntry e
def fitDoc (d : SDoc) : Prop := fitEntries d.head ∧ d.rows.length ≤ 3518437208780 ∧ ∀ r ∈ d.rows, fitEntries r.l
theorem fitEntries.at {l : List SEntry} (h : fitEntries l) (i : Nat) : fitEntry (l.getD i noEntry) := by
  rw [List.getD_eq_getElem?_getD]
  rcases Nat.lt_or_ge i l.length with hi | hi
  · rw [List.getElem?_eq_getElem hi]; exact h.2 _ (List.getElem_mem hi)
  · rw [List.getElem?_eq_none hi]; exact Nat.zero_le _
theorem fitDoc.row {d : SDoc} (h : fitDoc d) (i : Nat) : fitEntries (d.rows.getD i noRow).l := by
  rw [List.getD_eq_getElem?_getD]
  rcases Nat.lt_or_ge i d.rows.length with hi | hi
  · rw [List.getElem?_eq_getElem hi]; exact h.2.2 _ (List.getElem_mem hi)
  · rw [List.getElem?_eq_none hi]; exact ⟨Nat.zero_le _, fun e he => by simp [noRow] at he⟩

theorem f371 (e : SEntry) (r : SRef) : PCall Tryz.prog 161 [encEntry e, ptRef r] (.p (.val (.bool (sameRef e.place r)))) [] := by
  refine gcode hT hM Tryz.func161 rfl rfl (rv := [(3, none)]) rfl rfl rfl fun G hG => ?_
  conv => whnf
  exact ⟨[], _, _, _, rfl, rfl, rfl, RepLe.vb (by simp [sameRef]), trivial⟩
def entryIn (l : List SEntry) (r : SRef) : Option Nat := findUpto (fun i => sameRef (l.getD i noEntry).place r) l.length 0
theorem f369 (l : List SEntry) (r : SRef) (hl : fitEntries l) (g : Nat) (hg : ∀ e, PCall Tryz.prog g [encEntry e, ptRef r] (.p (.val (.bool (sameRef e.place r)))) []) :
    PCall Tryz.prog 159 [encEntries l, .fn g 1 (at_ .any [ptRef r])] (.p (.val (.int .i64 (posOf (entryIn l r))))) [] := by
  have hlen : l.length ≤ 1954687338211 := hl.1
  refine gcode hT hM Tryz.func159 rfl rfl (rv := [(4, none)]) rfl rfl rfl fun G hG => ?_
  conv => whnf
  refine AW.loop (X := Nat) (fun i => told 19 [(0, .p (encEntries l)), (1, .p (.fn g 1 (at_ .any [ptRef r]))), (7, vI .i64 (l.length : Int)), (8, vI .i64 (i : Int))] [] []) (fun i => i ≤ l.length ∧ entryIn l r = findUpto (fun i => sameRef (l.getD i noEntry).place r) (l.length - i) i) (fun i => l.length - i) (used0 hG _) 0 ⟨by omega, rfl⟩ (stle ⟨RepLe.refl _, RepLe.refl _, RepLe.refl _, RepLe.refl _, trivial⟩ trivial rfl) ?_
  rintro i ⟨hi, hr⟩
  refine codeK_aw hT hM _ _ _ ?_
  conv => whnf
  refine ⟨fun h4 => ?_, fun h4 => ?_⟩
  · have hlt : i < l.length := by rw [iLt_t] at h4; omega
    rw [findUpto_step _ hlt] at hr
    conv => whnf
    refine ⟨by omega, ?_⟩
    conv => whnf
    refine CallK.lent (hg (l.getD i noEntry)) rfl ?_
    conv => whnf
    refine ⟨fun h5 => ?_, fun h5 => ?_⟩
    · rw [h5] at hr
      conv => whnf
      exact ⟨[], _, _, _, rfl, rfl, rfl, RepLe.vi (by rw [hr]; rfl), trivial⟩
    rw [h5] at hr
    conv => whnf
    intro z hz
    have hy := wrap64_eq hz (by omega) (by omega)
    clear hz
    subst hy
    conv => whnf
    exact ⟨i + 1, ⟨by omega, hr⟩, by omega, stle ⟨RepLe.refl _, RepLe.refl _, RepLe.refl _, RepLe.of rfl, trivial⟩ trivial rfl⟩
  have hge : i = l.length := by rw [iLt_f] at h4; omega
  subst hge
  rw [Nat.sub_self] at hr
  conv => whnf
  exact ⟨[], _, _, _, rfl, rfl, rfl, RepLe.vi (by rw [hr]; rfl), trivial⟩
def atF (l : List SEntry) (r : SRef) : SEntry × Bool := match entryIn l r with | none => (noEntry, false) | some i => (l.getD i noEntry, true)
def encAt (p : SEntry × Bool) : AV := .tup 2 (at_ (.p .any) [.p (encEntry p.1), .p (.val (.bool p.2))])
theorem at_ret {a b : PV} {p : SEntry × Bool} {e : SEntry} {c : Bool} (h : p = (e, c)) (ha : PLe a (encEntry e)) (hb : PLe b (.val (.bool c))) : RepLe (.tup 2 (at_ (.p .any) [.p a, .p b])) (encAt p) := by
  subst h; exact RepLe.tup2 (PLe.rep ha) (PLe.rep hb)
theorem f353 (l : List SEntry) (r : SRef) (hl : fitEntries l) : PCall Tryz.prog 128 [encEntries l, encRef r] (encAt (atF l r)) [] := by
  have c369 := f369 l r hl 161 (fun e => f371 e r)
  refine gcode hT hM Tryz.func128 rfl rfl (rv := [(4, some 101), (5, none)]) rfl rfl rfl fun G hG => ?_
  conv => whnf
  cases q : entryIn l r with
  | none =>
    rw [q] at c369
    refine CallK.lent (c369) rfl ?_
    conv => whnf
    refine ⟨fun h1 => ?_, fun h1 => ?_⟩
    · conv => whnf
      exact ⟨[], _, _, _, rfl, rfl, rfl, at_ret (by unfold atF; rw [q]) (PLe.agg (by repeat' (first | refine PLes.cons ?_ ?_ | exact PLe.refl _ | exact PLe.nil | exact PLes.end))) (PLe.bool _), trivial⟩
    · exact absurd (iLt_f.1 h1) (show ¬ (0 : Int) ≤ -1 by decide)
  | some i =>
    have hi : i < l.length := by obtain ⟨_, hi, _, _⟩ := findUpto_some _ _ _ _ q; omega
    rw [q] at c369
    refine CallK.lent (c369) rfl ?_
    conv => whnf
    refine ⟨fun h1 => ?_, fun h1 => ?_⟩
    · exact absurd (iLt_t.1 h1) (show ¬ ((i : Nat) : Int) < 0 by omega)
    conv => whnf
    refine ⟨⟨Int.natCast_nonneg _, Int.ofNat_lt.2 hi⟩, ?_⟩
    conv => whnf
    exact ⟨[], _, _, _, rfl, rfl, rfl, at_ret (by unfold atF; rw [q]; rfl) (PLe.refl _) (PLe.bool _), trivial⟩
theorem f357 (l : List SEntry) (r : SRef) (hl : fitEntries l) : PCall Tryz.prog 132 [encEntries l, encRef r] (encAt (atF l r)) [] := by
  have hlen : l.length ≤ 1954687338211 := hl.1
  refine gcode hT hM Tryz.func132 rfl rfl (rv := [(4, some 101), (5, none)]) rfl rfl rfl fun G hG => ?_
  conv => whnf
  refine AW.loop (X := Nat) (fun i => told 25 [(0, .p (encEntries l)), (3, .pt 0 0), (4, .pt 8 0), (6, vI .i64 (i : Int))] [(0, some (.box 36 ((refCells r).map .p))), (8, some (.box 101 (List.replicate 5 (.p .any))))] [0, 8]) (fun i => i ≤ l.length ∧ entryIn l r = findUpto (fun i => sameRef (l.getD i noEntry).place r) (l.length - i) i) (fun i => l.length - i) (used0 hG _) 0 ⟨by omega, rfl⟩ (stle ⟨RepLe.refl _, RepLe.refl _, RepLe.refl _, RepLe.refl _, trivial⟩ ⟨⟨_, rfl, BlkLe.refl _⟩, ⟨_, rfl, BlkLe.anys rfl⟩, trivial⟩ rfl) ?_
  rintro i ⟨hi, hr⟩
  refine codeK_aw hT hM _ _ _ ?_
  conv => whnf
  refine ⟨fun h4 => ?_, fun h4 => ?_⟩
  · have hlt : i < l.length := by rw [iLt_t] at h4; omega
    rw [findUpto_step _ hlt] at hr
    conv => whnf
    refine ⟨by omega, ?_⟩
    conv => whnf
    refine ⟨rfl, ?_⟩
    conv => whnf
    refine ⟨fun h5 => ?_, fun h5 => ?_⟩
    · have h5 : sameRef (l.getD i noEntry).place r = true := by unfold sameRef; simpa using h5
      rw [h5] at hr
      conv => whnf
      refine ⟨by omega, ?_⟩
      conv => whnf
      exact ⟨[], _, _, _, rfl, rfl, rfl, at_ret (by unfold atF; rw [hr]; rfl) (PLe.refl _) (PLe.bool _), trivial⟩
    have h5 : sameRef (l.getD i noEntry).place r = false := by unfold sameRef; cases q : (iEq (l.getD i noEntry).place.scope r.scope && (sEq (l.getD i noEntry).place.group r.group && sEq (l.getD i noEntry).place.name r.name)) with | false => rfl | true => simp_all
    rw [h5] at hr
    conv => whnf
    intro z hz
    have hy := wrap64_eq hz (by omega) (by omega)
    clear hz
    subst hy
    conv => whnf
    exact ⟨i + 1, ⟨by omega, hr⟩, by omega, stle ⟨RepLe.refl _, RepLe.refl _, RepLe.refl _, RepLe.of rfl, trivial⟩ ⟨⟨_, rfl, BlkLe.refl _⟩, ⟨_, rfl, BlkLe.refl _⟩, trivial⟩ rfl⟩
  have hge : i = l.length := by rw [iLt_f] at h4; omega
  subst hge
  rw [Nat.sub_self] at hr
  conv => whnf
  exact ⟨[], _, _, _, rfl, rfl, rfl, at_ret (by unfold atF; rw [hr]; rfl) (PLe.agg (by repeat' (first | refine PLes.cons ?_ ?_ | exact PLe.refl _ | exact PLe.nil | exact PLes.end))) (PLe.bool _), trivial⟩
def valueF (f : SField) : SEntry := ⟨f.place, 0, if !iEq f.kind 1 && !iEq f.kind 4 then [f.dflt] else []⟩
theorem strs1 {s : ByteArray} {g : Nat → Nat → PV} (h : PLe (g 0 0) (.val (.string s))) : PLe (.rs 1 1 g) (encStrs [s]) := by
  refine PLe.rowsLe rfl fun i j hi hj => ?_
  have h1 : i = 0 := by omega
  have h2 : j = 0 := by omega
  subst h1 h2
  exact h
theorem f372 (f : SField) : PCall Tryz.prog 162 [encField f] (.p (encEntry (valueF f))) [] := by
  refine gcode hT hM Tryz.func162 rfl rfl (rv := [(2, some 101)]) rfl rfl rfl fun G hG => ?_
  conv => whnf
  refine ⟨fun k1 => ?_, fun k1 => ?_⟩
  · have k1 : iEq f.kind 1 = false := nott k1
    conv => whnf
    refine ⟨fun k4 => ?_, fun k4 => ?_⟩
    · have k4 : iEq f.kind 4 = false := nott k4
      conv => whnf
      refine .inl ?_
      conv => whnf
      exact ⟨[], _, _, _, rfl, rfl, rfl, RepLe.as (fun y => .p (encEntry y)) (a := ⟨f.place, 0, [f.dflt]⟩) (by unfold valueF; rw [k1, k4]; rfl) (PLe.rep (PLe.agg (by repeat' (first | refine PLes.cons ?_ ?_ | exact PLe.refl _ | exact strs1 (PLe.refl _) | exact PLe.nil | exact PLes.end)))), trivial⟩
    have k4 : iEq f.kind 4 = true := notf k4
    conv => whnf
    exact ⟨[], _, _, _, rfl, rfl, rfl, RepLe.as (fun y => .p (encEntry y)) (a := ⟨f.place, 0, []⟩) (by unfold valueF; rw [k1, k4]; rfl) (PLe.rep (PLe.agg (by repeat' (first | refine PLes.cons ?_ ?_ | exact PLe.refl _ | exact strs1 (PLe.refl _) | exact PLe.nil | exact PLes.end)))), trivial⟩
  have k1 : iEq f.kind 1 = true := notf k1
  conv => whnf
  exact ⟨[], _, _, _, rfl, rfl, rfl, RepLe.as (fun y => .p (encEntry y)) (a := ⟨f.place, 0, []⟩) (by unfold valueF; rw [k1]; rfl) (PLe.rep (PLe.agg (by repeat' (first | refine PLes.cons ?_ ?_ | exact PLe.refl _ | exact strs1 (PLe.refl _) | exact PLe.nil | exact PLes.end)))), trivial⟩
theorem f375 (f : SField) : PCall Tryz.prog 165 [encField f] (.p (encEntry (valueF f))) [] := by
  refine gcode hT hM Tryz.func165 rfl rfl (rv := [(2, some 101)]) rfl rfl rfl fun G hG => ?_
  conv => whnf
  refine ⟨fun k1 => ?_, fun k1 => ?_⟩
  · conv => whnf
    exact ⟨[], _, _, _, rfl, rfl, rfl, RepLe.as (fun y => .p (encEntry y)) (a := ⟨f.place, 0, []⟩) (by unfold valueF; rw [k1]; rfl) (PLe.rep (PLe.agg (by repeat' (first | refine PLes.cons ?_ ?_ | exact PLe.refl _ | exact strs1 (PLe.refl _) | exact PLe.nil | exact PLes.end)))), trivial⟩
  conv => whnf
  refine ⟨fun k4 => ?_, fun k4 => ?_⟩
  · conv => whnf
    exact ⟨[], _, _, _, rfl, rfl, rfl, RepLe.as (fun y => .p (encEntry y)) (a := ⟨f.place, 0, []⟩) (by unfold valueF; rw [k1, k4]; rfl) (PLe.rep (PLe.agg (by repeat' (first | refine PLes.cons ?_ ?_ | exact PLe.refl _ | exact strs1 (PLe.refl _) | exact PLe.nil | exact PLes.end)))), trivial⟩
  conv => whnf
  exact ⟨[], _, _, _, rfl, rfl, rfl, RepLe.as (fun y => .p (encEntry y)) (a := ⟨f.place, 0, [f.dflt]⟩) (by unfold valueF; rw [k1, k4]; rfl) (PLe.rep (PLe.agg (by repeat' (first | refine PLes.cons ?_ ?_ | exact PLe.refl _ | exact strs1 (PLe.refl _) | exact PLe.nil | exact PLes.end)))), trivial⟩
theorem f376 (n : Int) : PCall Tryz.prog 166 [.val (.int .i64 n)] (.p (.val (.bool (farI n)))) [] := by
  refine gcode hT hM Tryz.func166 rfl rfl (rv := [(2, none)]) rfl rfl rfl fun G hG => ?_
  conv => whnf
  repeat' (first
    | (refine ⟨fun _ => ?_, fun _ => ?_⟩ <;> (conv => whnf))
    | (refine And.intro (by omega) ?_; conv => whnf)
    | (refine And.intro rfl ?_; conv => whnf)
    | (exact ⟨[], _, _, _, rfl, rfl, rfl, RepLe.bl (by first | (simp_all [farI]; done) | grind [farI]), trivial⟩)
    | (exact ⟨[], _, _, _, rfl, rfl, rfl, RepLe.vb (by first | (simp_all [farI]; done) | grind [farI]), trivial⟩)
    | (intro z hz; have hy := wrap64_eq hz (by omega) (by omega); clear hz; subst hy; conv => whnf)
    | (exact ⟨i + 1, ⟨by omega, by first | (simp_all [farI]; done) | grind [farI]⟩, by omega, stle ⟨trivial, trivial⟩ trivial rfl⟩))
end Go.Proofs.YtalpbdabeffnlaaGreat

/- What units and packs come to, by complex numbers. -/
set_option linter.unusedVariables false
set_option linter.unusedSimpArgs false
namespace Go.Proofs.YtalpbdabeffnlaaGreat
open Go Go.Av Go.Fl
set_option maxRecDepth 100000

/-! ### Words of any size -/
theorem read_near (s : Bool) {r : Nat} (h : r ≤ 2047 * 2 ^ 52) : (∃ t m e, Ieee.double.read (Ieee.double.word s r) = .number t m e) ∨ ∃ t, Ieee.double.read (Ieee.double.word s r) = .infinity t := by
  have hsw : Ieee.double.signWeight = 2 ^ 63 := rfl
  have hb : Ieee.double.binade = 2 ^ 52 := rfl
  have hi : Ieee.double.infRung = 2047 * 2 ^ 52 := by decide
  have hrung : Ieee.double.word s r % Ieee.double.signWeight = r := by
    unfold Ieee.Format.word
    rw [hsw]
    cases s with
    | false => rw [if_neg (by decide), Nat.mod_eq_of_lt (by omega)]
    | true => rw [if_pos rfl, Nat.add_mod_left, Nat.mod_eq_of_lt (by omega)]
  unfold Ieee.Format.read
  simp only [hrung]
  by_cases h1 : r < Ieee.double.binade
  · rw [if_pos h1]; exact .inl ⟨_, _, _, rfl⟩
  · rw [if_neg h1]
    by_cases h2 : r < Ieee.double.infRung
    · rw [if_pos h2]; exact .inl ⟨_, _, _, rfl⟩
    · rw [if_neg h2, if_pos (show r = Ieee.double.infRung by rw [hi] at h2 ⊢; omega)]; exact .inr ⟨_, rfl⟩
theorem write_near (s : Bool) (m : Nat) (e : Int) : ∃ t r, r ≤ 2047 * 2 ^ 52 ∧ Ieee.double.write (.number s m e) = Ieee.double.word t r := by
  have hi : Ieee.double.infRung = 2047 * 2 ^ 52 := by decide
  show ∃ t r, r ≤ 2047 * 2 ^ 52 ∧ Ieee.double.nearest s m e = Ieee.double.word t r
  unfold Ieee.Format.nearest
  split
  · exact ⟨s, 0, by decide, rfl⟩
  · exact ⟨s, _, by rw [← hi]; exact Nat.min_le_right _ _, rfl⟩
theorem mul_some {x y : Nat} {a b : Int} (hx : Fl x a) (hy : Fl y b) : ∃ t r, r ≤ 2047 * 2 ^ 52 ∧ Ieee.double.mul x y = some (Ieee.double.word t r) := by
  obtain ⟨s, m, i, _, hx2, _⟩ := hx.read
  obtain ⟨u, n, j, _, hy2, _⟩ := hy.read
  obtain ⟨t, r, h1, h2⟩ := write_near (s ^^ u) ((m <<< i) * (n <<< j)) (-(i : Int) + -(j : Int))
  refine ⟨t, r, h1, ?_⟩
  unfold Ieee.Format.mul
  rw [hx2, hy2]
  show some (Ieee.double.write (.number (s ^^ u) ((m <<< i) * (n <<< j)) (-(i : Int) + -(j : Int)))) = _
  rw [h2]
theorem add_some {t : Bool} {r y : Nat} {b : Int} (hr : r ≤ 2047 * 2 ^ 52) (hy : Fl y b) : ∃ z, Ieee.double.add (Ieee.double.word t r) y = some z := by
  obtain ⟨u, n, j, _, hy2, _⟩ := hy.read
  unfold Ieee.Format.add
  rw [hy2]
  rcases read_near t hr with ⟨s, m, e, h⟩ | ⟨s, h⟩
  · rw [h]; exact ⟨_, rfl⟩
  · rw [h]; exact ⟨_, rfl⟩
theorem fl_word {x : Nat} {s : Bool} (h : Fl x (sgn s 4503599627370496)) : x = Ieee.double.word s (rung 4503599627370496) := by
  obtain ⟨t, m, _, rfl, h⟩ := h
  unfold sgn at h
  have e : m = 4503599627370496 := by cases s <;> cases t <;> simp at h <;> omega
  subst e
  cases s <;> cases t <;> first | rfl | (exfalso; simp at h; done) | (exfalso; simp at h; omega)
theorem corner (s : Bool) : ∃ re, Ieee.double.sub (Ieee.double.word s (rung 4503599627370496)) (Ieee.double.word (!s) (rung 4503599627370496)) = some re ∧ floatToIntVal .f64 re .i64 = some (sgn s 9007199254740992) := by
  cases s
  · exact ⟨4845873199050653696, by decide +kernel, by decide +kernel⟩
  · exact ⟨14069245235905429504, by decide +kernel, by decide +kernel⟩
theorem fl_to_int {x : Nat} {a : Int} (h : Fl x a) : floatToIntVal .f64 x .i64 = some a := by
  have e : (FloatKind.f64.decode x).toInt .zero = some a := h.toInt .zero
  obtain ⟨s, m, hm, _, ha⟩ := h
  unfold floatToIntVal
  rw [e]
  unfold sgn at ha
  have h1 : IntKind.i64.min ≤ a ∧ a ≤ IntKind.i64.max := by
    constructor
    · show (-9223372036854775808 : Int) ≤ a
      cases s <;> simp at ha <;> omega
    · show a ≤ (9223372036854775807 : Int)
      cases s <;> simp at ha <;> omega
  simp only
  rw [if_pos h1]
/-- The product's real part, of any units. -/
theorem mul_real2 {x y : Nat} {a n f : Int} (h : Fl x a) (k : Fl y n) (ha : whole a) (hf : whole f) (hn : whole n) (hnf : whole (n * f)) :
    ∃ re im, cMulBits x y 4607182418800017408 (Op.negFloat .f64 (FloatKind.f64.nearest f)) = some (re, im) ∧ floatToIntVal .f64 re .i64 = some (a + n * f) := by
  have one : Fl 4607182418800017408 1 := ⟨false, 1, by decide, by decide +kernel, by decide⟩
  have hfl : Fl (Op.negFloat .f64 (FloatKind.f64.nearest f)) (-f) := (Fl.ofInt (n := f) (by unfold whole at hf; omega)).neg
  unfold whole at ha hf hn hnf
  obtain ⟨ac, e1, k1⟩ := h.mul one (by rw [Int.mul_one]; omega)
  obtain ⟨bd, e2, k2⟩ := k.mul hfl (by rw [Int.mul_neg, Int.natAbs_neg]; omega)
  obtain ⟨t, r, hr, e4⟩ := mul_some h hfl
  obtain ⟨bc, e5, k5⟩ := k.mul one (by rw [Int.mul_one]; omega)
  obtain ⟨im, e6⟩ := add_some (t := t) hr k5
  rw [Int.mul_one] at k1
  rw [Int.mul_neg] at k2
  have main : ∀ re, Ieee.double.sub ac bd = some re → floatToIntVal .f64 re .i64 = some (a + n * f) → ∃ re im, cMulBits x y 4607182418800017408 (Op.negFloat .f64 (FloatKind.f64.nearest f)) = some (re, im) ∧ floatToIntVal .f64 re .i64 = some (a + n * f) := by
    intro re e3 hv
    refine ⟨re, im, ?_, hv⟩
    unfold cMulBits floatBits
    simp only [show FloatKind.f64.format = Ieee.double from rfl, e1, e2, e3, e4, e5, e6, Option.bind_some]
  generalize n * f = p at *
  by_cases hs : (a + p).natAbs < 2 ^ 53
  · obtain ⟨re, e3, k3⟩ := k1.sub k2 (by rw [Int.sub_neg]; exact hs)
    rw [Int.sub_neg] at k3
    exact main re e3 (fl_to_int k3)
  · have hc : (a = 4503599627370496 ∧ p = 4503599627370496) ∨ (a = -4503599627370496 ∧ p = -4503599627370496) := by omega
    rcases hc with ⟨ha1, hp1⟩ | ⟨ha1, hp1⟩
    · obtain ⟨re, c1, c2⟩ := corner false
      have q1 : ac = Ieee.double.word false (rung 4503599627370496) := fl_word (s := false) (by rw [← show a = sgn false 4503599627370496 from ha1]; exact k1)
      have q2 : bd = Ieee.double.word true (rung 4503599627370496) := fl_word (s := true) (by rw [← show -p = sgn true 4503599627370496 by rw [hp1]; rfl]; exact k2)
      exact main re (by rw [q1, q2]; exact c1) (by rw [c2, ha1, hp1]; rfl)
    · obtain ⟨re, c1, c2⟩ := corner true
      have q1 : ac = Ieee.double.word true (rung 4503599627370496) := fl_word (s := true) (by rw [← show a = sgn true 4503599627370496 from ha1]; exact k1)
      have q2 : bd = Ieee.double.word false (rung 4503599627370496) := fl_word (s := false) (by rw [← show -p = sgn false 4503599627370496 by rw [hp1]; rfl]; exact k2)
      exact main re (by rw [q1, q2]; exact c1) (by rw [c2, ha1, hp1]; rfl)
theorem farI_iff (n : Int) : farI n = true ↔ n > 4503599627370496 ∨ n < -4503599627370496 := by
  unfold farI; rw [Bool.or_eq_true, iLt_t, iLt_t]
theorem farI_not {n : Int} (h : farI n = false) : ¬ n > 4503599627370496 ∧ ¬ n < -4503599627370496 := by
  have := farI_iff n
  rw [h] at this
  constructor <;> intro q
  · exact absurd (this.2 (.inl q)) (by decide)
  · exact absurd (this.2 (.inr q)) (by decide)
theorem whole_not {n : Int} (h : whole n) : ¬ n > 4503599627370496 ∧ ¬ n < -4503599627370496 := by unfold whole at h; omega
theorem not_whole {n : Int} (h1 : ¬ n > 4503599627370496) (h2 : ¬ n < -4503599627370496) : whole n := by unfold whole; omega
set_option maxHeartbeats 2000000 in
theorem calls366b (n : Int) (w : World) : Calls Tryz.prog 156 #[.int .i64 n] w fun e w' => e = .returned (.bool (farI n)) ∧ w' = w := by
  cases q : farI n with
  | false => exact calls366 n (farI_not q).1 (farI_not q).2 w
  | true =>
    rcases (farI_iff n).1 q with h1 | h1
    · go_enter Tryz.func156, Tryz.ntmps156
      go_wp2
      all_goals (go_ret)
      all_goals (first | (simp_all; done) | (simp_all; omega))
    · go_enter Tryz.func156, Tryz.ntmps156
      go_wp2
      all_goals (go_ret)
      all_goals (first | (simp_all; done) | (simp_all; omega))
set_option maxHeartbeats 2000000 in
theorem calls349b (a n : Int) (g1 : ¬ a > 4503599627370496) (g2 : ¬ a < -4503599627370496) (h1 : ¬ n > 4503599627370496) (h2 : ¬ n < -4503599627370496) (w : World) : Calls Tryz.prog 121 #[.int .i64 a, .int .i64 n] w fun e w' => e = .returned (.tuple #[.complex .f64 (FloatKind.f64.nearest a) (FloatKind.f64.nearest n), .int .i64 0]) ∧ w' = w := by
  go_enter Tryz.func121, Tryz.ntmps121
  go_wp2
  go_loop [11] (fun i => ∃ k : Nat, k ≤ 2 ∧ i = .int .i64 k) (fun i => match i with | .int _ n => 2 - n.toNat | _ => 0)
  case atStart => exact ⟨0, Nat.zero_le _, rfl⟩
  case round =>
    obtain ⟨k, hk, rfl⟩ := hrel
    have hk : k = 0 ∨ k = 1 ∨ k = 2 := by omega
    rcases hk with rfl | rfl | rfl
    · go_wp2
      rw [run_pick0]
      simp only [Result.andThen]
      rw [Oper.upon_value]
      go_wp2
      go_round
      case rel => exact ⟨1, by omega, rfl⟩
      case measure => simp
    · go_wp2
      rw [run_pick1]
      simp only [Result.andThen]
      rw [Oper.upon_value]
      go_wp2
      go_round
      case rel => exact ⟨2, by omega, rfl⟩
      case measure => simp
    · go_wp2
      go_ret2
      exact ⟨rfl, rfl⟩
end Go.Proofs.YtalpbdabeffnlaaGreat

/- merged: what units and packs come to. -/
set_option linter.unusedVariables false
set_option linter.unusedSimpArgs false
namespace Go.Proofs.YtalpbdabeffnlaaGreat
open Go Go.Av Go.Fl
set_option maxRecDepth 100000

def joinF (a n f : Int) : Int × Int := if farI (n * f) then (0, 3) else if farI (a + n * f) then (0, 3) else (a + n * f, 0)
theorem run_to_int2 {x : Nat} {a : Int} (h : floatToIntVal .f64 x .i64 = some a) (w : World) : (convert 166 2 (.float .f64 x)).run Tryz.prog w = .ok (.int .i64 a) w :=
  run_convert_float_int w 166 2 .f64 .i64 x a (by rw [Tryz.underlying166]; rfl) Tryz.underlying2 h
theorem mul_bound {n f : Int} (hn : whole n) (f1 : 2 ≤ f) (f2 : f ≤ 1000) : -4503599627370496000 ≤ n * f ∧ n * f ≤ 4503599627370496000 := by
  unfold whole at hn
  constructor
  · have : -4503599627370496 * f ≤ n * f := Int.mul_le_mul_of_nonneg_right (by omega) (by omega)
    omega
  · have : n * f ≤ 4503599627370496 * f := Int.mul_le_mul_of_nonneg_right (by omega) (by omega)
    omega
set_option maxHeartbeats 4000000 in
theorem calls350b (x y : Nat) {a n f : Int} (hx : Fl x a) (hy : Fl y n) (ha : whole a) (hn : whole n) (f1 : 2 ≤ f) (f2 : f ≤ 1000) (w : World) :
    Calls Tryz.prog 122 #[.complex .f64 x y, .int .i64 f] w fun e w' => e = .returned (.tuple #[.int .i64 (joinF a n f).1, .int .i64 (joinF a n f).2]) ∧ w' = w := by
  have hb := mul_bound hn f1 f2
  have hw : IntKind.i64.wrap (n * f) = n * f := wrap_id (by omega) (by omega)
  go_enter Tryz.func122, Tryz.ntmps122
  go_wp2_with fail
  refine (calls365 x y hx hy ha hn _).mono ?_
  rintro e w1 ⟨rfl, rfl⟩
  go_wp2_with fail
  refine (calls74 f f1 f2 _).mono ?_
  rintro e w1 ⟨rfl, rfl⟩
  go_wp2_with fail
  refine (calls366b (n * f) _).mono ?_
  rintro e w1 ⟨rfl, rfl⟩
  cases q : farI (n * f) with
  | true =>
    go_wp2
    go_ret2
    refine ⟨?_, rfl⟩
    unfold joinF
    rw [q]
    rfl
  | false =>
    obtain ⟨k1, k2⟩ := farI_not q
    obtain ⟨re, im, m1, m2⟩ := mul_real2 hx hy (f := f) ha (by unfold whole; omega) hn (not_whole k1 k2)
    have m1 : cMulBits x y 4607182418800017408 (Op.negFloat .f64 (floatOfInt .f64 f)) = some (re, im) := m1
    go_wp2_with fail
    rw [run_negf]
    simp only [Result.andThen]
    rw [Oper.upon_value]
    go_wp2_with fail
    rw [run_complex_mul _ _ _ _ _ _ _ _ m1]
    simp only [Result.andThen]
    rw [Oper.upon_value]
    go_wp2_with fail
    rw [run_to_int2 m2]
    simp only [Result.andThen]
    rw [Oper.upon_value]
    go_wp2_with fail
    refine (calls366b (a + n * f) _).mono ?_
    rintro e w1 ⟨rfl, rfl⟩
    cases r : farI (a + n * f) with
    | true =>
      go_wp2
      go_ret2
      refine ⟨?_, rfl⟩
      unfold joinF
      rw [q, r]
      rfl
    | false =>
      go_wp2
      go_ret2
      refine ⟨?_, rfl⟩
      unfold joinF
      rw [q, r]
      rfl
set_option maxHeartbeats 2000000 in
theorem calls373 {a n f : Int} (ha : whole a) (hn : whole n) (f1 : 2 ≤ f) (f2 : f ≤ 1000) (w : World) :
    Calls Tryz.prog 163 #[.int .i64 a, .int .i64 n, .int .i64 f] w fun e w' => e = .returned (.tuple #[.int .i64 (joinF a n f).1, .int .i64 (joinF a n f).2]) ∧ w' = w := by
  have hx : Fl (FloatKind.f64.nearest a) a := Fl.ofInt (by unfold whole at ha; omega)
  have hy : Fl (FloatKind.f64.nearest n) n := Fl.ofInt (by unfold whole at hn; omega)
  obtain ⟨a1, a2⟩ := whole_not ha
  obtain ⟨n1, n2⟩ := whole_not hn
  go_enter Tryz.func163, Tryz.ntmps163
  go_wp2_with fail
  refine (calls349b a n (by omega) (by omega) (by omega) (by omega) _).mono ?_
  rintro e w1 ⟨rfl, rfl⟩
  go_wp2_with fail
  refine (calls350b _ _ hx hy ha hn f1 f2 _).mono ?_
  rintro e w1 ⟨rfl, rfl⟩
  go_wp2
  go_ret2
  exact ⟨rfl, rfl⟩
theorem f373 {a n f : Int} (ha : whole a) (hn : whole n) (f1 : 2 ≤ f) (f2 : f ≤ 1000) : PCall Tryz.prog 163 [.val (.int .i64 a), .val (.int .i64 n), .val (.int .i64 f)] (.tup 2 (at_ (.p .any) [.p (.val (.int .i64 (joinF a n f).1)), .p (.val (.int .i64 (joinF a n f).2))])) [] :=
  GCall.resLe (PCall.vals (us := [.int .i64 a, .int .i64 n, .int .i64 f]) (Ent.of Tryz.func163 rfl (by kernel_rfl)) (calls373 ha hn f1 f2)) (tup_val2 _ _)
end Go.Proofs.YtalpbdabeffnlaaGreat
