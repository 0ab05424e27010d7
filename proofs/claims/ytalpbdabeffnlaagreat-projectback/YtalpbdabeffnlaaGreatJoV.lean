import Derived.Test.YtalpbdabeffnlaaGreatJoN
import Derived.ProofKit
import Derived.Laws.Externs
import Derived.Lib.Bytealg
/- What is heavy; the root. -/
set_option linter.unusedVariables false
set_option linter.unusedSimpArgs false
namespace Go.Proofs.YtalpbdabeffnlaaGreat
open Go Go.Av
set_option maxRecDepth 100000

def bigS (s : ByteArray) : Bool := iLt 200 s.size
def bigPair (p : SPair) : Bool := bigS p.frm || bigS p.tto
def heavyPairs (l : List SPair) : Bool := iLt 20 l.length || !allUpto (fun i => !bigPair (l.getD i noPair)) l.length 0
def heavyField (f : SField) : Bool := (bigS f.place.group || (bigS f.place.name || (bigS f.dflt || iLt 20 f.cases.length))) || !allUpto (fun i => !bigS (f.cases.getD i noS)) f.cases.length 0
def heavyLens (x : SLens) : Bool := bigS x.place.group || (bigS x.place.name || (bigS x.name || (bigS x.other || (heavyField x.field || (heavyPairs x.forth || heavyPairs x.back)))))

theorem f67 (l : List SPair) (hl : l.length ≤ maxLen) : PCall Tryz.prog 47 [encPairs l] (.p (.val (.bool (heavyPairs l)))) [] := by
  have hl : l.length ≤ 9223372036854775807 := hl
  refine gcode hT hM Tryz.func47 rfl rfl (rv := [(2, none)]) rfl rfl rfl fun G hG => ?_
  conv => whnf
  refine ⟨fun h => ?_, fun h => ?_⟩
  · conv => whnf
    exact ⟨[], _, _, _, rfl, rfl, rfl, RepLe.bl (by simp_all [heavyPairs]), trivial⟩
  conv => whnf
  refine AW.loop (X := Nat) (fun i => told 29 [(0, .p (encPairs l)), (3, vI .i64 (i : Int))] [] []) (fun i => i ≤ l.length ∧ heavyPairs l = !allUpto (fun i => !bigPair (l.getD i noPair)) (l.length - i) i) (fun i => l.length - i) (used0 hG _) 0 ⟨by omega, by simp_all [heavyPairs]⟩ (stle ⟨RepLe.refl _, RepLe.refl _, trivial⟩ trivial rfl) ?_
  rintro i ⟨hi, hr⟩
  refine codeK_aw hT hM _ _ _ ?_
  conv => whnf
  refine ⟨fun h4 => ?_, fun h4 => ?_⟩
  · have hlt : i < l.length := by rw [iLt_t] at h4; omega
    rw [allUpto_step _ hlt] at hr
    conv => whnf
    refine ⟨by omega, ?_⟩
    conv => whnf
    refine ⟨fun h5 => ?_, fun h5 => ?_⟩
    · have h5 : bigS (l.getD i noPair).frm = true := h5
      conv => whnf
      exact ⟨[], _, _, _, rfl, rfl, rfl, RepLe.bl (by rw [hr, bigPair, h5]; simp), trivial⟩
    have h5 : bigS (l.getD i noPair).frm = false := h5
    conv => whnf
    refine ⟨by omega, ?_⟩
    conv => whnf
    refine ⟨fun h6 => ?_, fun h6 => ?_⟩
    · have h6 : bigS (l.getD i noPair).tto = true := h6
      conv => whnf
      exact ⟨[], _, _, _, rfl, rfl, rfl, RepLe.bl (by rw [hr, bigPair, h5, h6]; simp), trivial⟩
    have h6 : bigS (l.getD i noPair).tto = false := h6
    conv => whnf
    intro z hz
    have hy := wrap64_eq hz (by omega) (by omega)
    clear hz
    subst hy
    conv => whnf
    exact ⟨i + 1, ⟨by omega, by rw [hr, bigPair, h5, h6]; simp⟩, by omega, stle ⟨RepLe.refl _, RepLe.of rfl, trivial⟩ trivial rfl⟩
  · have hge : i = l.length := by rw [iLt_f] at h4; omega
    subst hge
    conv => whnf
    exact ⟨[], _, _, _, rfl, rfl, rfl, RepLe.bl (by rw [hr, allUpto_end]; rfl), trivial⟩

theorem f44 (f : SField) (hf : okField f) : PCall Tryz.prog 38 [encField f] (.p (.val (.bool (heavyField f)))) [] := by
  have hl : f.cases.length ≤ 9223372036854775807 := hf
  refine gcode hT hM Tryz.func38 rfl rfl (rv := [(2, none)]) rfl rfl rfl fun G hG => ?_
  conv => whnf
  refine ⟨fun a1 => ?_, fun a1 => ?_⟩
  · conv => whnf
    exact ⟨[], _, _, _, rfl, rfl, rfl, RepLe.bl (by simp_all [heavyField, bigS]), trivial⟩
  conv => whnf
  refine ⟨fun a2 => ?_, fun a2 => ?_⟩
  · conv => whnf
    exact ⟨[], _, _, _, rfl, rfl, rfl, RepLe.bl (by simp_all [heavyField, bigS]), trivial⟩
  conv => whnf
  refine ⟨fun a3 => ?_, fun a3 => ?_⟩
  · conv => whnf
    exact ⟨[], _, _, _, rfl, rfl, rfl, RepLe.bl (by simp_all [heavyField, bigS]), trivial⟩
  conv => whnf
  refine ⟨fun a4 => ?_, fun a4 => ?_⟩
  · conv => whnf
    exact ⟨[], _, _, _, rfl, rfl, rfl, RepLe.bl (by simp_all [heavyField, bigS]), trivial⟩
  conv => whnf
  refine AW.loop (X := Nat) (fun i => told 42 [(1, .pt 0 0), (3, vI .i64 (i : Int))] [(0, some (.box 39 ((fieldCells f).map .p)))] [0]) (fun i => i ≤ f.cases.length ∧ heavyField f = !allUpto (fun i => !bigS (f.cases.getD i noS)) (f.cases.length - i) i) (fun i => f.cases.length - i) (used0 hG _) 0 ⟨by omega, by simp_all [heavyField, bigS]⟩ (stle ⟨RepLe.refl _, RepLe.refl _, trivial⟩ ⟨⟨_, rfl, BlkLe.refl _⟩, trivial⟩ rfl) ?_
  rintro i ⟨hi, hr⟩
  refine codeK_aw hT hM _ _ _ ?_
  conv => whnf
  refine ⟨fun h4 => ?_, fun h4 => ?_⟩
  · have hlt : i < f.cases.length := by rw [iLt_t] at h4; omega
    rw [allUpto_step _ hlt] at hr
    conv => whnf
    refine ⟨by omega, ?_⟩
    conv => whnf
    refine ⟨fun h5 => ?_, fun h5 => ?_⟩
    · have h5 : bigS (f.cases.getD i noS) = true := h5
      conv => whnf
      exact ⟨[], _, _, _, rfl, rfl, rfl, RepLe.bl (by rw [hr, h5]; simp), trivial⟩
    have h5 : bigS (f.cases.getD i noS) = false := h5
    conv => whnf
    intro z hz
    have hy := wrap64_eq hz (by omega) (by omega)
    clear hz
    subst hy
    conv => whnf
    exact ⟨i + 1, ⟨by omega, by rw [hr, h5]; simp⟩, by omega, stle ⟨RepLe.refl _, RepLe.of rfl, trivial⟩ ⟨⟨_, rfl, BlkLe.refl _⟩, trivial⟩ rfl⟩
  · have hge : i = f.cases.length := by rw [iLt_f] at h4; omega
    subst hge
    conv => whnf
    exact ⟨[], _, _, _, rfl, rfl, rfl, RepLe.bl (by rw [hr, allUpto_end]; rfl), trivial⟩

theorem f21 (x : SLens) (hx : okLens x) : PCall Tryz.prog 18 [encLens x] (.p (.val (.bool (heavyLens x)))) [] := by
  refine gcode hT hM Tryz.func18 rfl rfl (rv := [(2, none)]) rfl rfl rfl fun G hG => ?_
  conv => whnf
  conv => whnf
  repeat' (first
    | (refine ⟨fun _ => ?_, fun _ => ?_⟩ <;> (conv => whnf))
    | (refine CallK.lent (f44 x.field hx.1) rfl ?_; conv => whnf)
    | (refine CallK.lent (f67 x.forth hx.2.1) rfl ?_; conv => whnf)
    | (refine CallK.lent (f67 x.back hx.2.2) rfl ?_; conv => whnf)
    | (refine And.intro rfl ?_; conv => whnf)
    | (exact ⟨[], _, _, _, rfl, rfl, rfl, RepLe.bl (by first | (simp_all [heavyLens, bigS]; done) | grind [heavyLens, bigS]), trivial⟩)
    | (exact ⟨[], _, _, _, rfl, rfl, rfl, RepLe.vb (by first | (simp_all [heavyLens, bigS]; done) | grind [heavyLens, bigS]), trivial⟩))
end Go.Proofs.YtalpbdabeffnlaaGreat

/- The root; the awakening. -/
set_option linter.unusedVariables false
set_option linter.unusedSimpArgs false
namespace Go.Proofs.YtalpbdabeffnlaaGreat
open Go Go.Av
set_option maxRecDepth 100000

def word (l : List UInt8) : ByteArray := ⟨l.toArray⟩
def rootFields : List SField :=
  [{ noField with place := ⟨0, noS, word [99, 111, 117, 112, 111, 110]⟩, kind := 2 },
   { noField with place := ⟨1, noS, word [110, 111, 116, 101]⟩, kind := 2 },
   { noField with place := ⟨1, noS, word [113, 116, 121]⟩, kind := 1, worth := 1 },
   { noField with place := ⟨1, noS, word [115, 105, 122, 101]⟩, kind := 3, dflt := word [109, 101, 100, 105, 117, 109], cases := [word [115, 109, 97, 108, 108], word [109, 101, 100, 105, 117, 109], word [108, 97, 114, 103, 101]] },
   { noField with place := ⟨1, noS, word [116, 97, 103, 115]⟩, kind := 4 }]
def rowFields (l : List SField) : Option Blk := some (.row 39 7 l.length fun i => at_ .any (fieldCells (l.getD i noField)))

theorem f19 : PCall Tryz.prog 36 [] (.sl 0) [rowFields rootFields] := by
  refine gcode hT hM Tryz.func36 rfl rfl (rv := [(0, none)]) rfl rfl rfl fun G hG => ?_
  conv => whnf
  refine ⟨⟨show 0 + 1 ≤ 9223372036854775807 by omega, show (0 + 1) * 96 ≤ 140737488355328 by omega⟩, ?_⟩
  conv => whnf
  refine ⟨⟨show 0 + 1 + 1 ≤ 9223372036854775807 by omega, show (0 + 1 + 1) * 96 ≤ 140737488355328 by omega⟩, ?_⟩
  conv => whnf
  refine ⟨⟨show 0 + 1 + 1 + 1 ≤ 9223372036854775807 by omega, show (0 + 1 + 1 + 1) * 96 ≤ 140737488355328 by omega⟩, ?_⟩
  conv => whnf
  refine ⟨⟨show 0 + 1 + 1 + 1 + 1 ≤ 9223372036854775807 by omega, show (0 + 1 + 1 + 1 + 1) * 96 ≤ 140737488355328 by omega⟩, ?_⟩
  conv => whnf
  refine ⟨⟨show 0 + 1 + 1 + 1 + 1 + 1 ≤ 9223372036854775807 by omega, show (0 + 1 + 1 + 1 + 1 + 1) * 96 ≤ 140737488355328 by omega⟩, ?_⟩
  conv => whnf
  refine ⟨[24608], _, _, _, rfl, rfl, rfl, RepLe.of rfl, BlkLe.rowLe rfl fun i j hi hj => ?_, trivial⟩
  have hi : i < 5 := hi
  have hj : j < 7 := hj
  have hj : j = 0 ∨ j = 1 ∨ j = 2 ∨ j = 3 ∨ j = 4 ∨ j = 5 ∨ j = 6 := by omega
  have hi : i = 0 ∨ i = 1 ∨ i = 2 ∨ i = 3 ∨ i = 4 := by omega
  rcases hi with rfl | rfl | rfl | rfl | rfl <;> rcases hj with rfl | rfl | rfl | rfl | rfl | rfl | rfl
  all_goals first | exact PLe.refl _ | exact PLe.nil | skip
  refine PLe.rows rfl fun a b ha hb => ?_
  have ha : a < 3 := ha
  have hb : b < 1 := hb
  have ha : a = 0 ∨ a = 1 ∨ a = 2 := by omega
  have hb : b = 0 := by omega
  subst hb
  rcases ha with rfl | rfl | rfl <;> rfl

def firstField : SField := { noField with place := ⟨0, noS, word [99, 111, 117, 112, 111, 110]⟩, kind := 2 }
def awakeLens : SLens := { noLens with kind := 2, field := firstField }
theorem awake_turn : inverse awakeLens = ({ awakeLens with kind := 3 }, 0) := by
  have h : lensOk awakeLens = true := by decide +kernel
  have h2 : turnOf awakeLens = { awakeLens with kind := 3 } := by
    unfold turnOf
    rw [show iEq awakeLens.kind 1 = false from iEq_f.2 (by decide), show iEq awakeLens.kind 2 = true from iEq_t.2 rfl]
    rfl
  unfold inverse
  rw [h, h2]; rfl
theorem sameLens_self (x : SLens) : sameLens x x = true := by simp [sameLens, sameRef_self, sameField_self, samePairs_self, iEq_self, sEq_self]

theorem awake_fit : fitLens awakeLens := ⟨Nat.zero_le _, Nat.zero_le _, Nat.zero_le _⟩
theorem f20 : PCall Tryz.prog 8 [] (.p (.val (.bool true))) [] := by
  refine gcode hT hM Tryz.func8 rfl rfl (rv := [(0, none)]) rfl rfl rfl fun G hG => ?_
  conv => whnf
  refine CallK.go [] (f19) rfl rfl rfl rfl rfl ?_
  conv => whnf
  refine ⟨by decide, ?_⟩
  conv => whnf
  refine ⟨by decide, ?_⟩
  conv => whnf
  refine CallK.go [] (GCall.arg1 (f22 awakeLens awake_fit) ?hh) rfl rfl rfl rfl rfl ?_
  case hh => exact PLe.rep (PLe.agg (by repeat' (first | refine PLes.cons ?_ ?_ | exact PLe.refl _ | exact PLe.nil | exact PLes.end)))
  conv => whnf
  refine ⟨fun c => ?_, fun c => ?_⟩
  · conv => whnf
    refine CallK.lent (GCall.args (f24 (inverse awakeLens).1 { awakeLens with kind := 3 } (by rw [awake_turn]; exact awake_fit.ok)) ?hh) rfl ?_
    case hh => exact allLe2 (RepLe.refl _) (PLe.rep (PLe.agg (by repeat' (first | refine PLes.cons ?_ ?_ | exact PLe.refl _ | exact PLe.nil | exact PLes.end))))
    conv => whnf
    exact ⟨[], _, _, _, rfl, rfl, rfl, RepLe.vb (by rw [awake_turn]; exact sameLens_self _), trivial⟩
  · have c : iEq (inverse awakeLens).2 0 = false := c
    rw [awake_turn, iEq_self] at c
    cases c
end Go.Proofs.YtalpbdabeffnlaaGreat

/- Order of texts and of places: what the program's and the reference's functions answer. -/
set_option linter.unusedVariables false
set_option linter.unusedSimpArgs false
namespace Go.Proofs.YtalpbdabeffnlaaGreat
open Go Go.Av
set_option maxRecDepth 100000

theorem PCall.vals {P : Program} {f : FuncId} {us : List Value} {u : Value} (hE : Ent P f) (h : ∀ w, Calls P f us.toArray w fun e w' => e = .returned u ∧ w' = w) : PCall P f (us.map .val) (.p (.val u)) [] := by
  refine ⟨hE, fun w F ν vals hh hν hlen hargs => ?_⟩
  have hv : vals = us := by
    refine List.ext_getElem? fun i => ?_
    rcases Nat.lt_or_ge i us.length with hi | hi
    · have hi2 : i < vals.length := by rw [hlen]; simpa using hi
      have := hargs i (.p (.val us[i])) vals[i] (by simp [hi]) (List.getElem?_eq_getElem hi2)
      have this : vals[i] = us[i] := this
      rw [List.getElem?_eq_getElem hi, List.getElem?_eq_getElem hi2, this]
    · rw [List.getElem?_eq_none hi, List.getElem?_eq_none (by rw [hlen]; simpa using hi)]
  subst hv
  refine (h w).mono fun e w' ⟨he, hw⟩ => ?_
  subst hw
  exact ⟨u, F, ν, he, rfl, hh, ⟨Nat.le_refl _, fun _ _ _ => rfl, rfl, rfl, rfl⟩, fun _ _ => rfl, hν, fun g hg => .inl hg, fun _ h => h, fun _ h => .inl h, Nat.le_refl _⟩

theorem Ent.of {P : Program} {f : FuncId} {fn : Func} {c : Code} (hf : P.funcs[f]? = some fn) (hb : fn.body = some c) (hname : (fn.name == "runtime.NumGoroutine") = false) : Ent P f := fun args w => by
  have h1 : fn.name ≠ "runtime.NumGoroutine" := by simpa using hname
  simp [callFunc, hf, h1, hb, mark]

def cmpS (a b : ByteArray) : Int := Lib.compareBytes a.data.toList b.data.toList
set_option maxHeartbeats 1000000 in
theorem calls140 (a b : ByteArray) (w : World) : Calls Tryz.prog 171 #[.string a, .string b] w fun e w' => e = .returned (.int .i64 (cmpS a b)) ∧ w' = w := by
  go_enter Tryz.func171, Tryz.ntmps171
  go_wp2
  rw [run_callFunc_extern Tryz.func186 (by kernel_rfl) (by kernel_rfl) (by kernel_rfl) (e := Extern.BytealgCompare.compare) (by kernel_rfl), Lib.run_compareString]
  simp only [Result.andThen]
  rw [Oper.upon_value]
  go_wp2
  go_ret
  exact ⟨rfl, rfl⟩
theorem f140 (a b : ByteArray) : PCall Tryz.prog 171 [.val (.string a), .val (.string b)] (.p (.val (.int .i64 (cmpS a b)))) [] :=
  PCall.vals (us := [.string a, .string b]) (Ent.of Tryz.func171 rfl (by kernel_rfl)) (calls140 a b)

theorem f123 (a b : ByteArray) : PCall Tryz.prog 143 [.val (.string a), .val (.string b)] (.p (.val (.int .i64 (cmpS a b)))) [] := by
  refine gcode hT hM Tryz.func143 rfl rfl (rv := [(4, none)]) rfl rfl rfl fun G hG => ?_
  conv => whnf
  refine CallK.lent (f140 a b) rfl ?_
  conv => whnf
  exact ⟨[], _, _, _, rfl, rfl, rfl, RepLe.refl _, trivial⟩

theorem RepLe.vbl {b c : Bool} (h : b = c) : RepLe (.p (.val (.bool b))) (.p (.bl c)) := by subst h; exact fun _ _ _ _ h => h
theorem f139 (x : Int) : PCall Tryz.prog 170 [.val (.int .i64 x)] (.p (.bl false)) [] := by
  refine gcode hT hM Tryz.func170 rfl rfl (rv := [(2, none)]) rfl rfl rfl fun G hG => ?_
  conv => whnf
  exact ⟨[], _, _, _, rfl, rfl, rfl, RepLe.vbl (by simp [iEq_t]), trivial⟩

def cmpI (a b : Int) : Int := if iLt a b then -1 else if iLt b a then 1 else 0
theorem f122 (a b : Int) : PCall Tryz.prog 142 [.val (.int .i64 a), .val (.int .i64 b)] (.p (.val (.int .i64 (cmpI a b)))) [] := by
  refine gcode hT hM Tryz.func142 rfl rfl (rv := [(4, none)]) rfl rfl rfl fun G hG => ?_
  conv => whnf
  refine CallK.go [] (f139 a) rfl rfl rfl rfl rfl ?_
  conv => whnf
  refine CallK.go [] (f139 b) rfl rfl rfl rfl rfl ?_
  conv => whnf
  refine ⟨fun h1 => ?_, fun h1 => ?_⟩
  · conv => whnf
    exact ⟨[], _, _, _, rfl, rfl, rfl, RepLe.vi (by simp_all [cmpI]), trivial⟩
  conv => whnf
  refine ⟨fun h2 => ?_, fun h2 => ?_⟩
  · conv => whnf
    exact ⟨[], _, _, _, rfl, rfl, rfl, RepLe.vi (by simp_all [cmpI]), trivial⟩
  conv => whnf
  exact ⟨[], _, _, _, rfl, rfl, rfl, RepLe.vi (by simp_all [cmpI]), trivial⟩

/-- The first of a list that isn't 0. -/
def orI : List Int → Int
  | [] => 0
  | a :: l => if iEq a 0 then orI l else a
def encInts (l : List Int) : PV := .rs 1 l.length fun i _ => .val (.int .i64 (l.getD i 0))
theorem orI_step (l : List Int) {i : Nat} (h : i < l.length) : orI (l.drop i) = if iEq (l.getD i 0) 0 then orI (l.drop (i + 1)) else l.getD i 0 := by
  rw [List.drop_eq_getElem_cons h]
  simp [orI, List.getD_eq_getElem?_getD, h]
theorem f121 (l : List Int) (hl : l.length ≤ maxLen) : PCall Tryz.prog 141 [encInts l] (.p (.val (.int .i64 (orI l)))) [] := by
  have hl : l.length ≤ 9223372036854775807 := hl
  refine gcode hT hM Tryz.func141 rfl rfl (rv := [(2, none)]) rfl rfl rfl fun G hG => ?_
  conv => whnf
  refine AW.loop (X := Nat) (fun i => told 18 [(3, vI .i64 0), (6, .p (encInts l)), (7, vI .i64 (l.length : Int)), (8, vI .i64 (i : Int))] [] []) (fun i => i ≤ l.length ∧ orI l = orI (l.drop i)) (fun i => l.length - i) (used0 hG _) 0 ⟨by omega, by simp⟩ (stle ⟨RepLe.refl _, RepLe.refl _, RepLe.refl _, RepLe.refl _, trivial⟩ trivial rfl) ?_
  rintro i ⟨hi, hr⟩
  refine codeK_aw hT hM _ _ _ ?_
  conv => whnf
  refine ⟨fun h4 => ?_, fun h4 => ?_⟩
  · have hlt : i < l.length := by rw [iLt_t] at h4; omega
    rw [orI_step l hlt] at hr
    conv => whnf
    refine ⟨by omega, ?_⟩
    conv => whnf
    refine ⟨fun h5 => ?_, fun h5 => ?_⟩
    · have h5 : (!iEq (l.getD i 0) 0) = true := h5
      conv => whnf
      exact ⟨[], _, _, _, rfl, rfl, rfl, RepLe.vi (by rw [hr]; simp_all), trivial⟩
    · have h5 : (!iEq (l.getD i 0) 0) = false := h5
      conv => whnf
      intro z hz
      have hy := wrap64_eq hz (by omega) (by omega)
      clear hz
      subst hy
      conv => whnf
      exact ⟨i + 1, ⟨by omega, by rw [hr]; simp_all⟩, by omega, stle ⟨RepLe.refl _, RepLe.refl _, RepLe.refl _, RepLe.of rfl, trivial⟩ trivial rfl⟩
  · have hge : i = l.length := by rw [iLt_f] at h4; omega
    subst hge
    conv => whnf
    exact ⟨[], _, _, _, rfl, rfl, rfl, RepLe.vi (by rw [hr]; simp [orI]), trivial⟩

def lessRef (a b : SRef) : Bool := iLt (orI [cmpI a.scope b.scope, cmpS a.group b.group, cmpS a.name b.name]) 0
theorem row3 (a b c : Int) : PLe (.rs 1 3 fun i j => at_ .any [.val (.int .i64 a), .val (.int .i64 b), .val (.int .i64 c)] (i * 1 + j)) (encInts [a, b, c]) := by
  refine PLe.rows rfl fun i j hi hj => ?_
  have hj : j = 0 := by omega
  subst hj
  have hi : i = 0 ∨ i = 1 ∨ i = 2 := by omega
  rcases hi with rfl | rfl | rfl <;> rfl
theorem f84 (a b : SRef) : PCall Tryz.prog 80 [encRef a, encRef b] (.p (.val (.bool (lessRef a b)))) [] := by
  refine gcode hT hM Tryz.func80 rfl rfl (rv := [(4, none)]) rfl rfl rfl fun G hG => ?_
  conv => whnf
  refine CallK.lent (f122 a.scope b.scope) rfl ?_
  conv => whnf
  refine CallK.lent (f123 a.group b.group) rfl ?_
  conv => whnf
  refine CallK.lent (f123 a.name b.name) rfl ?_
  conv => whnf
  refine CallK.lent (GCall.arg1 (f121 [cmpI a.scope b.scope, cmpS a.group b.group, cmpS a.name b.name] (show 3 ≤ maxLen by decide)) ?hh) rfl ?_
  case hh => exact PLe.rep (row3 _ _ _)
  conv => whnf
  refine ⟨rfl, ?_⟩
  conv => whnf
  exact ⟨[], _, _, _, rfl, rfl, rfl, RepLe.refl _, trivial⟩
end Go.Proofs.YtalpbdabeffnlaaGreat
