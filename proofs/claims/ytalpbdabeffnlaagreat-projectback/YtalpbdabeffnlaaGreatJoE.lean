import Derived.Test.YtalpbdabeffnlaaGreatJoB
/- Places, cases, tables: what the program's functions answer. -/
set_option linter.unusedVariables false
set_option linter.unusedSimpArgs false
namespace Go.Proofs.YtalpbdabeffnlaaGreat
open Go Go.Av
set_option maxRecDepth 100000

def placeOk (r : SRef) : Bool := (iEq r.scope 0 || iEq r.scope 1) && (nameOk r.name && (sEq r.group noS || nameOk r.group))
def textOk (s : ByteArray) : Bool := iLe s.size 40
def posOf : Option Nat → Int
  | some i => i
  | none => -1
def idxOf (l : List ByteArray) (v : ByteArray) : Int := posOf (findUpto (fun i => sEq v (l.getD i noS)) l.length 0)

theorem f72 (r : SRef) : PCall Tryz.prog 102 [encRef r] (.p (.val (.bool (placeOk r)))) [] := by
  refine gcode hT hM Tryz.func102 rfl rfl (rv := [(2, none)]) rfl rfl rfl fun G hG => ?_
  conv => whnf
  repeat' (first
    | (refine ⟨fun _ => ?_, fun _ => ?_⟩ <;> (conv => whnf))
    | (refine And.intro (by omega) ?_; conv => whnf)
    | (refine CallK.lent (f73 _) rfl ?_; conv => whnf)
    | (refine And.intro rfl ?_; conv => whnf)
    | (exact ⟨[], _, _, _, rfl, rfl, rfl, RepLe.bl (by first | (simp_all [placeOk, noS]; done) | grind [placeOk, noS]), trivial⟩)
    | (exact ⟨[], _, _, _, rfl, rfl, rfl, RepLe.vb (by first | (simp_all [placeOk, noS]; done) | grind [placeOk, noS]), trivial⟩)
    | (intro z hz; have hy := wrap64_eq hz (by omega) (by omega); clear hz; subst hy; conv => whnf)
    | (exact ⟨i + 1, ⟨by omega, by first | (simp_all [placeOk, noS]; done) | grind [placeOk, noS]⟩, by omega, stle ⟨trivial, trivial⟩ trivial rfl⟩))

theorem f75 (s : ByteArray) : PCall Tryz.prog 104 [.val (.string s)] (.p (.val (.bool (textOk s)))) [] := by
  refine gcode hT hM Tryz.func104 rfl rfl (rv := [(2, none)]) rfl rfl rfl fun G hG => ?_
  conv => whnf
  repeat' (first
    | (refine ⟨fun _ => ?_, fun _ => ?_⟩ <;> (conv => whnf))
    | (refine And.intro (by omega) ?_; conv => whnf)
    | (refine And.intro rfl ?_; conv => whnf)
    | (exact ⟨[], _, _, _, rfl, rfl, rfl, RepLe.bl (by first | (simp_all [textOk]; done) | grind [textOk]), trivial⟩)
    | (exact ⟨[], _, _, _, rfl, rfl, rfl, RepLe.vb (by first | (simp_all [textOk]; done) | grind [textOk]), trivial⟩)
    | (intro z hz; have hy := wrap64_eq hz (by omega) (by omega); clear hz; subst hy; conv => whnf)
    | (exact ⟨i + 1, ⟨by omega, by first | (simp_all [textOk]; done) | grind [textOk]⟩, by omega, stle ⟨trivial, trivial⟩ trivial rfl⟩))

theorem f117 (l : List ByteArray) (v : ByteArray) (hl : l.length ≤ maxLen) : PCall Tryz.prog 150 [encStrs l, .val (.string v)] (.p (.val (.int .i64 (idxOf l v)))) [] := by
  have hl : l.length ≤ 9223372036854775807 := hl
  refine gcode hT hM Tryz.func150 rfl rfl (rv := [(4, none)]) rfl rfl rfl fun G hG => ?_
  conv => whnf
  refine AW.loop (X := Nat) (fun i => told 19 [(0, .p (encStrs l)), (1, .p (.val (.string v))), (7, vI .i64 (l.length : Int)), (8, vI .i64 (i : Int))] [] []) (fun i => i ≤ l.length ∧ idxOf l v = posOf (findUpto (fun i => sEq v (l.getD i noS)) (l.length - i) i)) (fun i => l.length - i) (used0 hG _) 0 ⟨by omega, by simp [idxOf]⟩ (stle ⟨RepLe.refl _, RepLe.refl _, RepLe.refl _, RepLe.refl _, trivial⟩ trivial rfl) ?_
  rintro i ⟨hi, hr⟩
  refine codeK_aw hT hM _ _ _ ?_
  conv => whnf
  refine ⟨fun h4 => ?_, fun h4 => ?_⟩
  · have hlt : i < l.length := by rw [iLt_t] at h4; omega
    rw [findUpto_step _ hlt] at hr
    conv => whnf
    refine ⟨by omega, ?_⟩
    conv => whnf
    refine ⟨fun h5 => ?_, fun h5 => ?_⟩
    · have h5 : sEq v (l.getD i noS) = true := h5
      conv => whnf
      exact ⟨[], _, _, _, rfl, rfl, rfl, RepLe.vi (by rw [hr, h5]; rfl), trivial⟩
    · have h5 : sEq v (l.getD i noS) = false := h5
      conv => whnf
      intro z hz
      have hy := wrap64_eq hz (by omega) (by omega)
      clear hz
      subst hy
      conv => whnf
      exact ⟨i + 1, ⟨by omega, by rw [hr, h5]⟩, by omega, stle ⟨RepLe.refl _, RepLe.refl _, RepLe.refl _, RepLe.of rfl, trivial⟩ trivial rfl⟩
  · have hge : i = l.length := by rw [iLt_f] at h4; omega
    subst hge
    conv => whnf
    exact ⟨[], _, _, _, rfl, rfl, rfl, RepLe.vi (by rw [hr, findUpto_end]; rfl), trivial⟩

theorem f138 (l : List ByteArray) (v : ByteArray) (hl : l.length ≤ maxLen) : PCall Tryz.prog 118 [encStrs l, .val (.string v)] (.p (.val (.bool (iLe 0 (idxOf l v))))) [] := by
  refine gcode hT hM Tryz.func118 rfl rfl (rv := [(4, none)]) rfl rfl rfl fun G hG => ?_
  conv => whnf
  refine CallK.lent (f117 _ _ hl) rfl ?_
  conv => whnf
  exact ⟨[], _, _, _, rfl, rfl, rfl, RepLe.refl _, trivial⟩

def casesOk (f : SField) : Bool := iLe 1 f.cases.length && (iLe f.cases.length 6 && (allUpto (fun i => nameOk (f.cases.getD i noS) && iEq (idxOf f.cases (f.cases.getD i noS)) (i : Nat)) f.cases.length 0 && iLe 0 (idxOf f.cases f.dflt)))

theorem f114 (f : SField) (hf : okField f) : PCall Tryz.prog 140 [encField f] (.p (.val (.bool (casesOk f)))) [] := by
  have hl : f.cases.length ≤ 9223372036854775807 := hf
  refine gcode hT hM Tryz.func140 rfl rfl (rv := [(2, none)]) rfl rfl rfl fun G hG => ?_
  conv => whnf
  have k1 : iLt (f.cases.length : Int) 1 = !iLe 1 (f.cases.length : Int) := iLt_not _ _
  have k2 : iLt 6 (f.cases.length : Int) = !iLe (f.cases.length : Int) 6 := iLt_not _ _
  refine ⟨fun h => ?_, fun h => ?_⟩
  · conv => whnf
    exact ⟨[], _, _, _, rfl, rfl, rfl, RepLe.bl (by simp_all [casesOk]), trivial⟩
  conv => whnf
  refine ⟨fun h2 => ?_, fun h2 => ?_⟩
  · conv => whnf
    exact ⟨[], _, _, _, rfl, rfl, rfl, RepLe.bl (by simp_all [casesOk]), trivial⟩
  conv => whnf
  refine AW.loop (X := Nat) (fun i => told 40 [(1, .pt 0 0), (16, .p (encStrs f.cases)), (17, vI .i64 (f.cases.length : Int)), (18, vI .i64 (i : Int))] [(0, some (.box 39 ((fieldCells f).map .p)))] [0]) (fun i => i ≤ f.cases.length ∧ casesOk f = (allUpto (fun i => nameOk (f.cases.getD i noS) && iEq (idxOf f.cases (f.cases.getD i noS)) (i : Nat)) (f.cases.length - i) i && iLe 0 (idxOf f.cases f.dflt))) (fun i => f.cases.length - i) (used0 hG _) 0 ⟨by omega, by simp_all [casesOk]⟩ (stle ⟨RepLe.refl _, RepLe.refl _, RepLe.refl _, RepLe.refl _, trivial⟩ ⟨⟨_, rfl, BlkLe.refl _⟩, trivial⟩ rfl) ?_
  rintro i ⟨hi, hr⟩
  refine codeK_aw hT hM _ _ _ ?_
  conv => whnf
  refine ⟨fun h4 => ?_, fun h4 => ?_⟩
  · have hlt : i < f.cases.length := by rw [iLt_t] at h4; omega
    rw [allUpto_step _ hlt] at hr
    conv => whnf
    refine ⟨by omega, ?_⟩
    conv => whnf
    refine CallK.lent (f73 _) rfl ?_
    conv => whnf
    refine ⟨fun h5 => ?_, fun h5 => ?_⟩
    · have h5 : nameOk (f.cases.getD i noS) = false := by simpa using h5
      conv => whnf
      exact ⟨[], _, _, _, rfl, rfl, rfl, RepLe.bl (by rw [hr, h5]; simp), trivial⟩
    have h5 : nameOk (f.cases.getD i noS) = true := by simpa using h5
    conv => whnf
    refine CallK.lent (f117 f.cases _ hf) rfl ?_
    conv => whnf
    refine ⟨fun h6 => ?_, fun h6 => ?_⟩
    · have h6 : iEq (idxOf f.cases (f.cases.getD i noS)) (i : Nat) = false := by simpa using h6
      conv => whnf
      exact ⟨[], _, _, _, rfl, rfl, rfl, RepLe.bl (by rw [hr, h6]; simp), trivial⟩
    have h6 : iEq (idxOf f.cases (f.cases.getD i noS)) (i : Nat) = true := by simpa using h6
    conv => whnf
    intro z hz
    have hy := wrap64_eq hz (by omega) (by omega)
    clear hz
    subst hy
    conv => whnf
    exact ⟨i + 1, ⟨by omega, by rw [hr, h5, h6]; simp⟩, by omega, stle ⟨RepLe.refl _, RepLe.refl _, RepLe.refl _, RepLe.of rfl, trivial⟩ ⟨⟨_, rfl, BlkLe.refl _⟩, trivial⟩ rfl⟩
  · have hge : i = f.cases.length := by rw [iLt_f] at h4; omega
    subst hge
    conv => whnf
    refine CallK.lent (f138 f.cases f.dflt hf) rfl ?_
    conv => whnf
    exact ⟨[], _, _, _, rfl, rfl, rfl, RepLe.vb (by rw [hr, allUpto_end]; simp), trivial⟩

def factorOk (n : Int) : Bool := iLe 2 n && iLe n 1000
theorem f74 (n : Int) : PCall Tryz.prog 103 [.val (.int .i64 n)] (.p (.val (.bool (factorOk n)))) [] := by
  refine gcode hT hM Tryz.func103 rfl rfl (rv := [(2, none)]) rfl rfl rfl fun G hG => ?_
  conv => whnf
  repeat' (first
    | (refine ⟨fun _ => ?_, fun _ => ?_⟩ <;> (conv => whnf))
    | (refine And.intro (by omega) ?_; conv => whnf)
    | (refine And.intro rfl ?_; conv => whnf)
    | (exact ⟨[], _, _, _, rfl, rfl, rfl, RepLe.bl (by first | (simp_all [factorOk]; done) | grind [factorOk]), trivial⟩)
    | (exact ⟨[], _, _, _, rfl, rfl, rfl, RepLe.vb (by first | (simp_all [factorOk]; done) | grind [factorOk]), trivial⟩)
    | (intro z hz; have hy := wrap64_eq hz (by omega) (by omega); clear hz; subst hy; conv => whnf)
    | (exact ⟨i + 1, ⟨by omega, by first | (simp_all [factorOk]; done) | grind [factorOk]⟩, by omega, stle ⟨trivial, trivial⟩ trivial rfl⟩))

def fieldOk (f : SField) : Bool :=
  placeOk f.place && ((iEq f.kind 3 || !iLt 0 f.cases.length) && ((iEq f.kind 1 || iEq f.worth 0) &&
    (if iEq f.kind 1 then sEq f.dflt noS && (iLe 1 f.worth && iLe f.worth 1048576) else if iEq f.kind 2 then textOk f.dflt else if iEq f.kind 3 then casesOk f else if iEq f.kind 4 then sEq f.dflt noS else false)))
theorem f71 (f : SField) (hf : okField f) : PCall Tryz.prog 79 [encField f] (.p (.val (.bool (fieldOk f)))) [] := by
  refine gcode hT hM Tryz.func79 rfl rfl (rv := [(2, none)]) rfl rfl rfl fun G hG => ?_
  conv => whnf
  repeat' (first
    | (refine ⟨fun _ => ?_, fun _ => ?_⟩ <;> (conv => whnf))
    | (refine And.intro (by omega) ?_; conv => whnf)
    | (refine CallK.lent (f72 f.place) rfl ?_; conv => whnf)
    | (refine CallK.lent (f75 _) rfl ?_; conv => whnf)
    | (refine CallK.lent (f114 f hf) rfl ?_; conv => whnf)
    | (refine And.intro rfl ?_; conv => whnf)
    | (exact ⟨[], _, _, _, rfl, rfl, rfl, RepLe.bl (by first | (simp_all [fieldOk, noS]; done) | grind [fieldOk, noS]), trivial⟩)
    | (exact ⟨[], _, _, _, rfl, rfl, rfl, RepLe.vb (by first | (simp_all [fieldOk, noS]; done) | grind [fieldOk, noS]), trivial⟩)
    | (intro z hz; have hy := wrap64_eq hz (by omega) (by omega); clear hz; subst hy; conv => whnf)
    | (exact ⟨i + 1, ⟨by omega, by first | (simp_all [fieldOk, noS]; done) | grind [fieldOk, noS]⟩, by omega, stle ⟨trivial, trivial⟩ trivial rfl⟩))
end Go.Proofs.YtalpbdabeffnlaaGreat

/- Tables, lenses: what the program's functions answer. -/
set_option linter.unusedVariables false
set_option linter.unusedSimpArgs false
namespace Go.Proofs.YtalpbdabeffnlaaGreat
open Go Go.Av
set_option maxRecDepth 100000

def pairAt (l : List SPair) : Option Nat → ByteArray × Bool
  | some i => ((l.getD i noPair).tto, true)
  | none => (noS, false)
def caseOf (l : List SPair) (s : ByteArray) : ByteArray × Bool := pairAt l (findUpto (fun i => sEq (l.getD i noPair).frm s) l.length 0)
def encTwo (x : ByteArray × Bool) : AV := .tup 2 (at_ (.p .any) [.p (.val (.string x.1)), .p (.val (.bool x.2))])

theorem f54 (l : List SPair) (s : ByteArray) (hl : l.length ≤ maxLen) : PCall Tryz.prog 63 [encPairs l, .val (.string s)] (encTwo (caseOf l s)) [] := by
  have hl : l.length ≤ 9223372036854775807 := hl
  refine gcode hT hM Tryz.func63 rfl rfl (rv := [(4, none), (5, none)]) rfl rfl rfl fun G hG => ?_
  conv => whnf
  refine AW.loop (X := Nat) (fun i => told 21 [(1, .p (.val (.string s))), (8, .p (encPairs l)), (9, vI .i64 (l.length : Int)), (10, vI .i64 (i : Int))] [] []) (fun i => i ≤ l.length ∧ caseOf l s = pairAt l (findUpto (fun i => sEq (l.getD i noPair).frm s) (l.length - i) i)) (fun i => l.length - i) (used0 hG _) 0 ⟨by omega, by simp [caseOf]⟩ (stle ⟨RepLe.refl _, RepLe.refl _, RepLe.refl _, RepLe.refl _, trivial⟩ trivial rfl) ?_
  rintro i ⟨hi, hr⟩
  refine codeK_aw hT hM _ _ _ ?_
  conv => whnf
  refine ⟨fun h4 => ?_, fun h4 => ?_⟩
  · have hlt : i < l.length := by rw [iLt_t] at h4; omega
    rw [findUpto_step _ hlt] at hr
    conv => whnf
    refine ⟨by omega, ?_⟩
    conv => whnf
    refine ⟨fun h5 => ?_, fun h5 => ?_⟩
    · have h5 : sEq (l.getD i noPair).frm s = true := h5
      conv => whnf
      rw [h5] at hr
      have hr : caseOf l s = ((l.getD i noPair).tto, true) := hr
      exact ⟨[], _, _, _, rfl, rfl, rfl, RepLe.as encTwo hr (RepLe.tup2 (RepLe.refl _) (RepLe.refl _)), trivial⟩
    · have h5 : sEq (l.getD i noPair).frm s = false := h5
      rw [h5] at hr
      conv => whnf
      intro z hz
      have hy := wrap64_eq hz (by omega) (by omega)
      clear hz
      subst hy
      conv => whnf
      exact ⟨i + 1, ⟨by omega, hr⟩, by omega, stle ⟨RepLe.refl _, RepLe.refl _, RepLe.refl _, RepLe.of rfl, trivial⟩ trivial rfl⟩
  · have hge : i = l.length := by rw [iLt_f] at h4; omega
    subst hge
    conv => whnf
    rw [findUpto_end] at hr
    have hr : caseOf l s = (noS, false) := hr
    exact ⟨[], _, _, _, rfl, rfl, rfl, RepLe.as encTwo hr (RepLe.tup2 (RepLe.refl _) (RepLe.bl rfl)), trivial⟩

def fromsOf (l : List SPair) : List ByteArray := l.map (·.frm)
def rowStrs (l : List ByteArray) : Option Blk := some (.row 9 1 l.length fun i _ => .val (.string (l.getD i noS)))
theorem froms_get (l : List SPair) (i : Nat) (h : i < l.length) : (fromsOf l).getD i noS = (l.getD i noPair).frm := by
  simp [fromsOf, h]
theorem froms_len (l : List SPair) : (fromsOf l).length = l.length := by simp [fromsOf]

theorem f116 (l : List SPair) (hl : l.length ≤ 4398046511104) : PCall Tryz.prog 110 [encPairs l] (.sl 0) [rowStrs (fromsOf l)] := by
  refine gcode hT hM Tryz.func110 rfl rfl (rv := [(2, none)]) rfl rfl rfl fun G hG => ?_
  conv => whnf
  refine ⟨⟨by omega, by omega, show (16 : Int) * (l.length : Int) ≤ 281474976710656 by omega, by omega⟩, ?_⟩
  conv => whnf
  refine AW.loop (X := Nat) (fun i => told 22 [(3, .sl 4112), (9, .p (encPairs l)), (10, vI .i64 (l.length : Int)), (11, vI .i64 (i : Int))] [(4112, some (.row 9 1 i fun j _ => .val (.string (l.getD j noPair).frm)))] [4112]) (fun i => i ≤ l.length ∧ True) (fun i => l.length - i) (used0 hG _) 0 ⟨by omega, trivial⟩ (stle ⟨RepLe.refl _, RepLe.refl _, RepLe.refl _, RepLe.refl _, trivial⟩ ⟨⟨_, rfl, BlkLe.row rfl (fun i j hi => absurd hi (Nat.not_lt_zero _))⟩, trivial⟩ rfl) ?_
  rintro i ⟨hi, hr⟩
  refine codeK_aw hT hM _ _ _ ?_
  conv => whnf
  refine ⟨fun h4 => ?_, fun h4 => ?_⟩
  · have hlt : i < l.length := by rw [iLt_t] at h4; omega
    conv => whnf
    refine ⟨by omega, ?_⟩
    conv => whnf
    refine ⟨⟨show i + 1 ≤ 9223372036854775807 by omega, show (i + 1) * 16 ≤ 140737488355328 by omega⟩, ?_⟩
    conv => whnf
    intro z hz
    have hy := wrap64_eq hz (by omega) (by omega)
    clear hz
    subst hy
    conv => whnf
    refine ⟨i + 1, ⟨by omega, trivial⟩, by omega, stleR [(4112, 20512)] ⟨RepLe.refl _, RepLe.refl _, RepLe.refl _, RepLe.of rfl, trivial⟩ ⟨⟨_, rfl, BlkLe.row rfl fun a b ha hb => ?_⟩, trivial⟩ rfl⟩
    by_cases hai : a < i
    · rw [catF_lt hai]
    · have : a = i := by omega
      subst this
      rw [catF_ge (Nat.le_refl _), Nat.sub_self]
      have hb : b < 1 := hb
      have : b = 0 := by omega
      subst this
      rfl
  · have hge : i = l.length := by rw [iLt_f] at h4; omega
    subst hge
    conv => whnf
    exact ⟨[4112], _, _, _, rfl, rfl, rfl, RepLe.of rfl, BlkLe.row (froms_len l).symm fun a b ha hb => by rw [froms_get l a ha], trivial⟩

def forthOk (l m : List SPair) : Bool := iLe 1 l.length && (iLe l.length 6 && allUpto (fun i => (caseOf m (l.getD i noPair).tto).2 && (nameOk (l.getD i noPair).frm && iEq (idxOf (fromsOf l) (l.getD i noPair).frm) (i : Nat))) l.length 0)
theorem f76 (l m : List SPair) (hl : l.length ≤ maxLen) (hm : m.length ≤ maxLen) : PCall Tryz.prog 105 [encPairs l, encPairs m] (.p (.val (.bool (forthOk l m)))) [] := by
  have hl : l.length ≤ 9223372036854775807 := hl
  have k1 : iLt (l.length : Int) 1 = !iLe 1 (l.length : Int) := iLt_not _ _
  have k2 : iLt 6 (l.length : Int) = !iLe (l.length : Int) 6 := iLt_not _ _
  refine gcode hT hM Tryz.func105 rfl rfl (rv := [(4, none)]) rfl rfl rfl fun G hG => ?_
  conv => whnf
  refine ⟨fun h => ?_, fun h => ?_⟩
  · conv => whnf
    exact ⟨[], _, _, _, rfl, rfl, rfl, RepLe.bl (by simp_all [forthOk]), trivial⟩
  conv => whnf
  refine ⟨fun h2 => ?_, fun h2 => ?_⟩
  · conv => whnf
    exact ⟨[], _, _, _, rfl, rfl, rfl, RepLe.bl (by simp_all [forthOk]), trivial⟩
  conv => whnf
  have h6 : l.length ≤ 6 := by rw [iLt_f] at h2; omega
  refine CallK.go [] (f116 l (by omega)) rfl rfl rfl rfl rfl ?_
  conv => whnf
  refine AW.loop (X := Nat) (fun i => told 51 [(1, .p (encPairs m)), (5, .sl 12296), (20, .p (encPairs l)), (21, vI .i64 (l.length : Int)), (22, vI .i64 (i : Int))] [(12296, rowStrs (fromsOf l))] [12296]) (fun i => i ≤ l.length ∧ forthOk l m = allUpto (fun i => (caseOf m (l.getD i noPair).tto).2 && (nameOk (l.getD i noPair).frm && iEq (idxOf (fromsOf l) (l.getD i noPair).frm) (i : Nat))) (l.length - i) i) (fun i => l.length - i) (used0 hG _) 0 ⟨by omega, by simp_all [forthOk]⟩ (stle ⟨RepLe.refl _, RepLe.refl _, RepLe.refl _, RepLe.refl _, RepLe.refl _, trivial⟩ ⟨⟨_, rfl, BlkLe.refl _⟩, trivial⟩ rfl) ?_
  rintro i ⟨hi, hr⟩
  refine codeK_aw hT hM _ _ _ ?_
  conv => whnf
  refine ⟨fun h4 => ?_, fun h4 => ?_⟩
  · have hlt : i < l.length := by rw [iLt_t] at h4; omega
    rw [allUpto_step _ hlt] at hr
    conv => whnf
    refine ⟨by omega, ?_⟩
    conv => whnf
    refine CallK.go [] (f54 m _ hm) rfl rfl rfl rfl rfl ?_
    conv => whnf
    refine ⟨fun h5 => ?_, fun h5 => ?_⟩
    · have h5 : (caseOf m (l.getD i noPair).tto).2 = false := by simpa using h5
      conv => whnf
      exact ⟨[], _, _, _, rfl, rfl, rfl, RepLe.bl (by rw [hr, h5]; simp), trivial⟩
    have h5 : (caseOf m (l.getD i noPair).tto).2 = true := by simpa using h5
    conv => whnf
    refine CallK.lent (f73 _) rfl ?_
    conv => whnf
    refine ⟨fun h7 => ?_, fun h7 => ?_⟩
    · have h7 : nameOk (l.getD i noPair).frm = false := by simpa using h7
      conv => whnf
      exact ⟨[], _, _, _, rfl, rfl, rfl, RepLe.bl (by rw [hr, h5, h7]; simp), trivial⟩
    have h7 : nameOk (l.getD i noPair).frm = true := by simpa using h7
    conv => whnf
    refine CallK.lent (f117 (fromsOf l) _ (by rw [froms_len]; assumption)) rfl ?_
    conv => whnf
    refine ⟨fun h8 => ?_, fun h8 => ?_⟩
    · have h8 : iEq (idxOf (fromsOf l) (l.getD i noPair).frm) (i : Nat) = false := by simpa using h8
      conv => whnf
      exact ⟨[], _, _, _, rfl, rfl, rfl, RepLe.bl (by rw [hr, h5, h7, h8]; simp), trivial⟩
    have h8 : iEq (idxOf (fromsOf l) (l.getD i noPair).frm) (i : Nat) = true := by simpa using h8
    conv => whnf
    intro z hz
    have hy := wrap64_eq hz (by omega) (by omega)
    clear hz
    subst hy
    conv => whnf
    exact ⟨i + 1, ⟨by omega, by rw [hr, h5, h7, h8]; simp⟩, by omega, stle ⟨RepLe.refl _, RepLe.refl _, RepLe.refl _, RepLe.refl _, RepLe.of rfl, trivial⟩ ⟨⟨_, rfl, BlkLe.refl _⟩, trivial⟩ rfl⟩
  · have hge : i = l.length := by rw [iLt_f] at h4; omega
    subst hge
    conv => whnf
    exact ⟨[], _, _, _, rfl, rfl, rfl, RepLe.bl (by rw [hr, allUpto_end]), trivial⟩

def takesOk (l : List SPair) (a b : ByteArray) : Bool := (caseOf l a).2 && sEq (caseOf l a).1 b
theorem f77 (l : List SPair) (a b : ByteArray) (hl : l.length ≤ maxLen) : PCall Tryz.prog 106 [encPairs l, .val (.string a), .val (.string b)] (.p (.val (.bool (takesOk l a b)))) [] := by
  refine gcode hT hM Tryz.func106 rfl rfl (rv := [(6, none)]) rfl rfl rfl fun G hG => ?_
  conv => whnf
  refine CallK.go [] (f54 l a hl) rfl rfl rfl rfl rfl ?_
  conv => whnf
  repeat' (first
    | (refine ⟨fun _ => ?_, fun _ => ?_⟩ <;> (conv => whnf))
    | (refine And.intro (by omega) ?_; conv => whnf)
    | (refine And.intro rfl ?_; conv => whnf)
    | (exact ⟨[], _, _, _, rfl, rfl, rfl, RepLe.bl (by first | (simp_all [takesOk]; done) | grind [takesOk]), trivial⟩)
    | (exact ⟨[], _, _, _, rfl, rfl, rfl, RepLe.vb (by first | (simp_all [takesOk]; done) | grind [takesOk]), trivial⟩)
    | (intro z hz; have hy := wrap64_eq hz (by omega) (by omega); clear hz; subst hy; conv => whnf)
    | (exact ⟨i + 1, ⟨by omega, by first | (simp_all [takesOk]; done) | grind [takesOk]⟩, by omega, stle ⟨trivial, trivial⟩ trivial rfl⟩))
end Go.Proofs.YtalpbdabeffnlaaGreat

/- Parts of a lens; is it right: what the program's functions answer. -/
set_option linter.unusedVariables false
set_option linter.unusedSimpArgs false
namespace Go.Proofs.YtalpbdabeffnlaaGreat
open Go Go.Av
set_option maxRecDepth 100000

def bareOf (x : SLens) : SLens := { kind := x.kind, place := x.place, name := noS, other := noS, factor := 0, field := noField, forth := [], back := [] }
def partsOf (x : SLens) : SLens :=
  if iEq x.kind 1 || iEq x.kind 5 then { bareOf x with name := x.name }
  else if iEq x.kind 2 || iEq x.kind 3 then { bareOf x with place := noRef, field := x.field }
  else if iEq x.kind 6 || iEq x.kind 9 then { bareOf x with name := x.name, other := x.other, factor := x.factor }
  else if iEq x.kind 7 || iEq x.kind 10 then { bareOf x with other := x.other }
  else if iEq x.kind 8 then { bareOf x with name := x.name, other := x.other, forth := x.forth, back := x.back }
  else bareOf x

theorem f70 (x : SLens) : PCall Tryz.prog 101 [encLens x] (.p (encLens (partsOf x))) [] := by
  refine gcode hT hM Tryz.func101 rfl rfl (rv := [(2, some 42)]) rfl rfl rfl fun G hG => ?_
  conv => whnf
  refine ⟨fun h1 => ?_, fun h1 => ?_⟩
  · conv => whnf
    refine ⟨fun _ => ?_, fun h => Bool.noConfusion (h1.symm.trans h)⟩
    conv => whnf
    exact ⟨[], _, _, _, rfl, rfl, rfl, RepLe.as (fun y => .p (encLens y)) (a := { bareOf x with name := x.name }) (by simp_all [partsOf]) (PLe.rep (PLe.agg (by repeat' (first | refine PLes.cons ?_ ?_ | exact PLe.refl _ | exact PLe.nil | exact PLes.end)))), trivial⟩
  conv => whnf
  refine ⟨fun h5 => ?_, fun h5 => ?_⟩
  · conv => whnf
    exact ⟨[], _, _, _, rfl, rfl, rfl, RepLe.as (fun y => .p (encLens y)) (a := { bareOf x with name := x.name }) (by simp_all [partsOf]) (PLe.rep (PLe.agg (by repeat' (first | refine PLes.cons ?_ ?_ | exact PLe.refl _ | exact PLe.nil | exact PLes.end)))), trivial⟩
  conv => whnf
  refine ⟨fun h2 => ?_, fun h2 => ?_⟩
  · conv => whnf
    refine ⟨fun _ => ?_, fun h => Bool.noConfusion (h2.symm.trans h)⟩
    conv => whnf
    refine ⟨rfl, ?_⟩
    conv => whnf
    exact ⟨[], _, _, _, rfl, rfl, rfl, RepLe.as (fun y => .p (encLens y)) (a := { bareOf x with place := noRef, field := x.field }) (by simp_all [partsOf]) (PLe.rep (PLe.agg (by repeat' (first | refine PLes.cons ?_ ?_ | exact PLe.refl _ | exact PLe.nil | exact PLes.end)))), trivial⟩
  conv => whnf
  refine ⟨fun h3 => ?_, fun h3 => ?_⟩
  · conv => whnf
    refine ⟨rfl, ?_⟩
    conv => whnf
    exact ⟨[], _, _, _, rfl, rfl, rfl, RepLe.as (fun y => .p (encLens y)) (a := { bareOf x with place := noRef, field := x.field }) (by simp_all [partsOf]) (PLe.rep (PLe.agg (by repeat' (first | refine PLes.cons ?_ ?_ | exact PLe.refl _ | exact PLe.nil | exact PLes.end)))), trivial⟩
  conv => whnf
  refine ⟨fun h6 => ?_, fun h6 => ?_⟩
  · conv => whnf
    refine ⟨fun _ => ?_, fun h => Bool.noConfusion (h6.symm.trans h)⟩
    conv => whnf
    refine ⟨rfl, ?_⟩
    conv => whnf
    exact ⟨[], _, _, _, rfl, rfl, rfl, RepLe.as (fun y => .p (encLens y)) (a := { bareOf x with name := x.name, other := x.other, factor := x.factor }) (by simp_all [partsOf]) (PLe.rep (PLe.agg (by repeat' (first | refine PLes.cons ?_ ?_ | exact PLe.refl _ | exact PLe.nil | exact PLes.end)))), trivial⟩
  conv => whnf
  refine ⟨fun h9 => ?_, fun h9 => ?_⟩
  · conv => whnf
    refine ⟨rfl, ?_⟩
    conv => whnf
    exact ⟨[], _, _, _, rfl, rfl, rfl, RepLe.as (fun y => .p (encLens y)) (a := { bareOf x with name := x.name, other := x.other, factor := x.factor }) (by simp_all [partsOf]) (PLe.rep (PLe.agg (by repeat' (first | refine PLes.cons ?_ ?_ | exact PLe.refl _ | exact PLe.nil | exact PLes.end)))), trivial⟩
  conv => whnf
  refine ⟨fun h7 => ?_, fun h7 => ?_⟩
  · conv => whnf
    refine ⟨fun _ => ?_, fun h => Bool.noConfusion (h7.symm.trans h)⟩
    conv => whnf
    exact ⟨[], _, _, _, rfl, rfl, rfl, RepLe.as (fun y => .p (encLens y)) (a := { bareOf x with other := x.other }) (by simp_all [partsOf]) (PLe.rep (PLe.agg (by repeat' (first | refine PLes.cons ?_ ?_ | exact PLe.refl _ | exact PLe.nil | exact PLes.end)))), trivial⟩
  conv => whnf
  refine ⟨fun h10 => ?_, fun h10 => ?_⟩
  · conv => whnf
    exact ⟨[], _, _, _, rfl, rfl, rfl, RepLe.as (fun y => .p (encLens y)) (a := { bareOf x with other := x.other }) (by simp_all [partsOf]) (PLe.rep (PLe.agg (by repeat' (first | refine PLes.cons ?_ ?_ | exact PLe.refl _ | exact PLe.nil | exact PLes.end)))), trivial⟩
  conv => whnf
  refine ⟨fun h8 => ?_, fun h8 => ?_⟩
  · conv => whnf
    refine ⟨rfl, ?_⟩
    conv => whnf
    exact ⟨[], _, _, _, rfl, rfl, rfl, RepLe.as (fun y => .p (encLens y)) (a := { bareOf x with name := x.name, other := x.other, forth := x.forth, back := x.back }) (by simp_all [partsOf]) (PLe.rep (PLe.agg (by repeat' (first | refine PLes.cons ?_ ?_ | exact PLe.refl _ | exact PLe.nil | exact PLes.end)))), trivial⟩
  conv => whnf
  exact ⟨[], _, _, _, rfl, rfl, rfl, RepLe.as (fun y => .p (encLens y)) (a := bareOf x) (by simp_all [partsOf]) (PLe.rep (PLe.agg (by repeat' (first | refine PLes.cons ?_ ?_ | exact PLe.refl _ | exact PLe.nil | exact PLes.end)))), trivial⟩
end Go.Proofs.YtalpbdabeffnlaaGreat
