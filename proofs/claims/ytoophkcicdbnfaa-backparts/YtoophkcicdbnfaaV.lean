/- Order of texts and of places: what the program's and the reference's functions answer. -/
import Derived.Test.YtoophkcicdbnfaaP
import Derived.ProofKit
import Derived.Laws.Externs
import Derived.Lib.Bytealg
set_option linter.unusedVariables false
set_option linter.unusedSimpArgs false
namespace Go.Proofs.Ytoophkcicdbnfaa
open Go Go.Av
set_option maxRecDepth 100000

theorem PCall.vals {P : Program} {f : FuncId} {us : List Value} {u : Value} (hE : Ent P f) (h : ∀ w, Calls P f us.toArray w fun e w' => e = .returned u ∧ w' = w) : PCall P f (us.map .val) (.p (.val u)) [] := by
  refine ⟨hE, fun w F ν vals hh hν hlen hargs => ?_⟩
  have hv : vals = us := by
    refine List.ext_getElem? fun i => ?_
    rcases Nat.lt_or_ge i us.length with hi | hi
    · have hi2 : i < vals.length := by rw [hlen]; simpa using hi
      have := hargs i (.p (.val us[i])) vals[i] (by simp [hi]) (List.getElem?_eq_getElem hi2)
      have this : vals[i] = us[i] := this
      rw [List.getElem?_eq_getElem hi, List.getElem?_eq_getElem hi2, this]
    · rw [List.getElem?_eq_none hi, List.getElem?_eq_none (by rw [hlen]; simpa using hi)]
  subst hv
  refine (h w).mono fun e w' ⟨he, hw⟩ => ?_
  subst hw
  exact ⟨u, F, ν, he, rfl, hh, ⟨Nat.le_refl _, fun _ _ _ => rfl, rfl, rfl, rfl⟩, fun _ _ => rfl, hν, fun g hg => .inl hg, fun _ h => h, fun _ h => .inl h, Nat.le_refl _⟩

theorem Ent.of {P : Program} {f : FuncId} {fn : Func} {c : Code} (hf : P.funcs[f]? = some fn) (hb : fn.body = some c) (hname : (fn.name == "runtime.NumGoroutine") = false) : Ent P f := fun args w => by
  have h1 : fn.name ≠ "runtime.NumGoroutine" := by simpa using hname
  simp [callFunc, hf, h1, hb, mark]

def cmpS (a b : ByteArray) : Int := Lib.compareBytes a.data.toList b.data.toList
set_option maxHeartbeats 1000000 in
theorem calls140 (a b : ByteArray) (w : World) : Calls Try.prog 140 #[.string a, .string b] w fun e w' => e = .returned (.int .i64 (cmpS a b)) ∧ w' = w := by
  go_enter Try.func140, Try.ntmps140
  go_wp2
  rw [run_callFunc_extern Try.func156 (by kernel_rfl) (by kernel_rfl) (by kernel_rfl) (e := Extern.BytealgCompare.compare) (by kernel_rfl), Lib.run_compareString]
  simp only [Result.andThen]
  rw [Oper.upon_value]
  go_wp2
  go_ret
  exact ⟨rfl, rfl⟩
theorem f140 (a b : ByteArray) : PCall Try.prog 140 [.val (.string a), .val (.string b)] (.p (.val (.int .i64 (cmpS a b)))) [] :=
  PCall.vals (us := [.string a, .string b]) (Ent.of Try.func140 rfl (by kernel_rfl)) (calls140 a b)

theorem f123 (a b : ByteArray) : PCall Try.prog 123 [.val (.string a), .val (.string b)] (.p (.val (.int .i64 (cmpS a b)))) [] := by
  refine gcode hT hM Try.func123 rfl rfl (rv := [(4, none)]) rfl rfl rfl fun G hG => ?_
  conv => whnf
  refine CallK.lent (f140 a b) rfl ?_
  conv => whnf
  exact ⟨[], _, _, _, rfl, rfl, rfl, RepLe.refl _, trivial⟩

theorem RepLe.vbl {b c : Bool} (h : b = c) : RepLe (.p (.val (.bool b))) (.p (.bl c)) := by subst h; exact fun _ _ _ _ h => h
theorem f139 (x : Int) : PCall Try.prog 139 [.val (.int .i64 x)] (.p (.bl false)) [] := by
  refine gcode hT hM Try.func139 rfl rfl (rv := [(2, none)]) rfl rfl rfl fun G hG => ?_
  conv => whnf
  exact ⟨[], _, _, _, rfl, rfl, rfl, RepLe.vbl (by simp [iEq_t]), trivial⟩

def cmpI (a b : Int) : Int := if iLt a b then -1 else if iLt b a then 1 else 0
theorem f122 (a b : Int) : PCall Try.prog 122 [.val (.int .i64 a), .val (.int .i64 b)] (.p (.val (.int .i64 (cmpI a b)))) [] := by
  refine gcode hT hM Try.func122 rfl rfl (rv := [(4, none)]) rfl rfl rfl fun G hG => ?_
  conv => whnf
  refine CallK.go [] (f139 a) rfl rfl rfl rfl rfl ?_
  conv => whnf
  refine CallK.go [] (f139 b) rfl rfl rfl rfl rfl ?_
  conv => whnf
  refine ⟨fun h1 => ?_, fun h1 => ?_⟩
  · conv => whnf
    exact ⟨[], _, _, _, rfl, rfl, rfl, RepLe.vi (by simp_all [cmpI]), trivial⟩
  conv => whnf
  refine ⟨fun h2 => ?_, fun h2 => ?_⟩
  · conv => whnf
    exact ⟨[], _, _, _, rfl, rfl, rfl, RepLe.vi (by simp_all [cmpI]), trivial⟩
  conv => whnf
  exact ⟨[], _, _, _, rfl, rfl, rfl, RepLe.vi (by simp_all [cmpI]), trivial⟩

/-- The first of a list that isn't 0. -/
def orI : List Int → Int
  | [] => 0
  | a :: l => if iEq a 0 then orI l else a
def encInts (l : List Int) : PV := .rs 1 l.length fun i _ => .val (.int .i64 (l.getD i 0))
theorem orI_step (l : List Int) {i : Nat} (h : i < l.length) : orI (l.drop i) = if iEq (l.getD i 0) 0 then orI (l.drop (i + 1)) else l.getD i 0 := by
  rw [List.drop_eq_getElem_cons h]
  simp [orI, List.getD_eq_getElem?_getD, h]
theorem f121 (l : List Int) (hl : l.length ≤ maxLen) : PCall Try.prog 121 [encInts l] (.p (.val (.int .i64 (orI l)))) [] := by
  have hl : l.length ≤ 9223372036854775807 := hl
  refine gcode hT hM Try.func121 rfl rfl (rv := [(2, none)]) rfl rfl rfl fun G hG => ?_
  conv => whnf
  refine AW.loop (X := Nat) (fun i => told 18 [(3, vI .i64 0), (6, .p (encInts l)), (7, vI .i64 (l.length : Int)), (8, vI .i64 (i : Int))] [] []) (fun i => i ≤ l.length ∧ orI l = orI (l.drop i)) (fun i => l.length - i) (used0 hG _) 0 ⟨by omega, by simp⟩ (stle ⟨RepLe.refl _, RepLe.refl _, RepLe.refl _, RepLe.refl _, trivial⟩ trivial rfl) ?_
  rintro i ⟨hi, hr⟩
  refine codeK_aw hT hM _ _ _ ?_
  conv => whnf
  refine ⟨fun h4 => ?_, fun h4 => ?_⟩
  · have hlt : i < l.length := by rw [iLt_t] at h4; omega
    rw [orI_step l hlt] at hr
    conv => whnf
    refine ⟨by omega, ?_⟩
    conv => whnf
    refine ⟨fun h5 => ?_, fun h5 => ?_⟩
    · have h5 : (!iEq (l.getD i 0) 0) = true := h5
      conv => whnf
      exact ⟨[], _, _, _, rfl, rfl, rfl, RepLe.vi (by rw [hr]; simp_all), trivial⟩
    · have h5 : (!iEq (l.getD i 0) 0) = false := h5
      conv => whnf
      intro z hz
      have hy := wrap64_eq hz (by omega) (by omega)
      clear hz
      subst hy
      conv => whnf
      exact ⟨i + 1, ⟨by omega, by rw [hr]; simp_all⟩, by omega, stle ⟨RepLe.refl _, RepLe.refl _, RepLe.refl _, RepLe.of rfl, trivial⟩ trivial rfl⟩
  · have hge : i = l.length := by rw [iLt_f] at h4; omega
    subst hge
    conv => whnf
    exact ⟨[], _, _, _, rfl, rfl, rfl, RepLe.vi (by rw [hr]; simp [orI]), trivial⟩

def lessRef (a b : SRef) : Bool := iLt (orI [cmpI a.scope b.scope, cmpS a.group b.group, cmpS a.name b.name]) 0
theorem row3 (a b c : Int) : PLe (.rs 1 3 fun i j => at_ .any [.val (.int .i64 a), .val (.int .i64 b), .val (.int .i64 c)] (i * 1 + j)) (encInts [a, b, c]) := by
  refine PLe.rows rfl fun i j hi hj => ?_
  have hj : j = 0 := by omega
  subst hj
  have hi : i = 0 ∨ i = 1 ∨ i = 2 := by omega
  rcases hi with rfl | rfl | rfl <;> rfl
theorem f84 (a b : SRef) : PCall Try.prog 84 [encRef a, encRef b] (.p (.val (.bool (lessRef a b)))) [] := by
  refine gcode hT hM Try.func84 rfl rfl (rv := [(4, none)]) rfl rfl rfl fun G hG => ?_
  conv => whnf
  refine CallK.lent (f122 a.scope b.scope) rfl ?_
  conv => whnf
  refine CallK.lent (f123 a.group b.group) rfl ?_
  conv => whnf
  refine CallK.lent (f123 a.name b.name) rfl ?_
  conv => whnf
  refine CallK.lent (GCall.arg1 (f121 [cmpI a.scope b.scope, cmpS a.group b.group, cmpS a.name b.name] (show 3 ≤ maxLen by decide)) ?hh) rfl ?_
  case hh => exact PLe.rep (row3 _ _ _)
  conv => whnf
  refine ⟨rfl, ?_⟩
  conv => whnf
  exact ⟨[], _, _, _, rfl, rfl, rfl, RepLe.refl _, trivial⟩
end Go.Proofs.Ytoophkcicdbnfaa
