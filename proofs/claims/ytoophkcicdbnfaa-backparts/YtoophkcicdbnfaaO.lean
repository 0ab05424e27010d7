/- What is heavy; the root. -/
import Derived.Test.YtoophkcicdbnfaaN
set_option linter.unusedVariables false
set_option linter.unusedSimpArgs false
namespace Go.Proofs.Ytoophkcicdbnfaa
open Go Go.Av
set_option maxRecDepth 100000

def bigS (s : ByteArray) : Bool := iLt 200 s.size
def bigPair (p : SPair) : Bool := bigS p.frm || bigS p.tto
def heavyPairs (l : List SPair) : Bool := iLt 20 l.length || !allUpto (fun i => !bigPair (l.getD i noPair)) l.length 0
def heavyField (f : SField) : Bool := (bigS f.place.group || (bigS f.place.name || (bigS f.dflt || iLt 20 f.cases.length))) || !allUpto (fun i => !bigS (f.cases.getD i noS)) f.cases.length 0
def heavyLens (x : SLens) : Bool := bigS x.place.group || (bigS x.place.name || (bigS x.name || (bigS x.other || (heavyField x.field || (heavyPairs x.forth || heavyPairs x.back)))))

theorem f67 (l : List SPair) (hl : l.length ≤ maxLen) : PCall Try.prog 67 [encPairs l] (.p (.val (.bool (heavyPairs l)))) [] := by
  have hl : l.length ≤ 9223372036854775807 := hl
  refine gcode hT hM Try.func67 rfl rfl (rv := [(2, none)]) rfl rfl rfl fun G hG => ?_
  conv => whnf
  refine ⟨fun h => ?_, fun h => ?_⟩
  · conv => whnf
    exact ⟨[], _, _, _, rfl, rfl, rfl, RepLe.bl (by simp_all [heavyPairs]), trivial⟩
  conv => whnf
  refine AW.loop (X := Nat) (fun i => told 29 [(0, .p (encPairs l)), (3, vI .i64 (i : Int))] [] []) (fun i => i ≤ l.length ∧ heavyPairs l = !allUpto (fun i => !bigPair (l.getD i noPair)) (l.length - i) i) (fun i => l.length - i) (used0 hG _) 0 ⟨by omega, by simp_all [heavyPairs]⟩ (stle ⟨RepLe.refl _, RepLe.refl _, trivial⟩ trivial rfl) ?_
  rintro i ⟨hi, hr⟩
  refine codeK_aw hT hM _ _ _ ?_
  conv => whnf
  refine ⟨fun h4 => ?_, fun h4 => ?_⟩
  · have hlt : i < l.length := by rw [iLt_t] at h4; omega
    rw [allUpto_step _ hlt] at hr
    conv => whnf
    refine ⟨by omega, ?_⟩
    conv => whnf
    refine ⟨fun h5 => ?_, fun h5 => ?_⟩
    · have h5 : bigS (l.getD i noPair).frm = true := h5
      conv => whnf
      exact ⟨[], _, _, _, rfl, rfl, rfl, RepLe.bl (by rw [hr, bigPair, h5]; simp), trivial⟩
    have h5 : bigS (l.getD i noPair).frm = false := h5
    conv => whnf
    refine ⟨by omega, ?_⟩
    conv => whnf
    refine ⟨fun h6 => ?_, fun h6 => ?_⟩
    · have h6 : bigS (l.getD i noPair).tto = true := h6
      conv => whnf
      exact ⟨[], _, _, _, rfl, rfl, rfl, RepLe.bl (by rw [hr, bigPair, h5, h6]; simp), trivial⟩
    have h6 : bigS (l.getD i noPair).tto = false := h6
    conv => whnf
    intro z hz
    have hy := wrap64_eq hz (by omega) (by omega)
    clear hz
    subst hy
    conv => whnf
    exact ⟨i + 1, ⟨by omega, by rw [hr, bigPair, h5, h6]; simp⟩, by omega, stle ⟨RepLe.refl _, RepLe.of rfl, trivial⟩ trivial rfl⟩
  · have hge : i = l.length := by rw [iLt_f] at h4; omega
    subst hge
    conv => whnf
    exact ⟨[], _, _, _, rfl, rfl, rfl, RepLe.bl (by rw [hr, allUpto_end]; rfl), trivial⟩

theorem f44 (f : SField) (hf : okField f) : PCall Try.prog 44 [encField f] (.p (.val (.bool (heavyField f)))) [] := by
  have hl : f.cases.length ≤ 9223372036854775807 := hf
  refine gcode hT hM Try.func44 rfl rfl (rv := [(2, none)]) rfl rfl rfl fun G hG => ?_
  conv => whnf
  refine ⟨fun a1 => ?_, fun a1 => ?_⟩
  · conv => whnf
    exact ⟨[], _, _, _, rfl, rfl, rfl, RepLe.bl (by simp_all [heavyField, bigS]), trivial⟩
  conv => whnf
  refine ⟨fun a2 => ?_, fun a2 => ?_⟩
  · conv => whnf
    exact ⟨[], _, _, _, rfl, rfl, rfl, RepLe.bl (by simp_all [heavyField, bigS]), trivial⟩
  conv => whnf
  refine ⟨fun a3 => ?_, fun a3 => ?_⟩
  · conv => whnf
    exact ⟨[], _, _, _, rfl, rfl, rfl, RepLe.bl (by simp_all [heavyField, bigS]), trivial⟩
  conv => whnf
  refine ⟨fun a4 => ?_, fun a4 => ?_⟩
  · conv => whnf
    exact ⟨[], _, _, _, rfl, rfl, rfl, RepLe.bl (by simp_all [heavyField, bigS]), trivial⟩
  conv => whnf
  refine AW.loop (X := Nat) (fun i => told 42 [(1, .pt 0 0), (3, vI .i64 (i : Int))] [(0, some (.box 30 ((fieldCells f).map .p)))] [0]) (fun i => i ≤ f.cases.length ∧ heavyField f = !allUpto (fun i => !bigS (f.cases.getD i noS)) (f.cases.length - i) i) (fun i => f.cases.length - i) (used0 hG _) 0 ⟨by omega, by simp_all [heavyField, bigS]⟩ (stle ⟨RepLe.refl _, RepLe.refl _, trivial⟩ ⟨⟨_, rfl, BlkLe.refl _⟩, trivial⟩ rfl) ?_
  rintro i ⟨hi, hr⟩
  refine codeK_aw hT hM _ _ _ ?_
  conv => whnf
  refine ⟨fun h4 => ?_, fun h4 => ?_⟩
  · have hlt : i < f.cases.length := by rw [iLt_t] at h4; omega
    rw [allUpto_step _ hlt] at hr
    conv => whnf
    refine ⟨by omega, ?_⟩
    conv => whnf
    refine ⟨fun h5 => ?_, fun h5 => ?_⟩
    · have h5 : bigS (f.cases.getD i noS) = true := h5
      conv => whnf
      exact ⟨[], _, _, _, rfl, rfl, rfl, RepLe.bl (by rw [hr, h5]; simp), trivial⟩
    have h5 : bigS (f.cases.getD i noS) = false := h5
    conv => whnf
    intro z hz
    have hy := wrap64_eq hz (by omega) (by omega)
    clear hz
    subst hy
    conv => whnf
    exact ⟨i + 1, ⟨by omega, by rw [hr, h5]; simp⟩, by omega, stle ⟨RepLe.refl _, RepLe.of rfl, trivial⟩ ⟨⟨_, rfl, BlkLe.refl _⟩, trivial⟩ rfl⟩
  · have hge : i = f.cases.length := by rw [iLt_f] at h4; omega
    subst hge
    conv => whnf
    exact ⟨[], _, _, _, rfl, rfl, rfl, RepLe.bl (by rw [hr, allUpto_end]; rfl), trivial⟩

theorem f21 (x : SLens) (hx : okLens x) : PCall Try.prog 21 [encLens x] (.p (.val (.bool (heavyLens x)))) [] := by
  refine gcode hT hM Try.func21 rfl rfl (rv := [(2, none)]) rfl rfl rfl fun G hG => ?_
  conv => whnf
  conv => whnf
  repeat' (first
    | (refine ⟨fun _ => ?_, fun _ => ?_⟩ <;> (conv => whnf))
    | (refine CallK.lent (f44 x.field hx.1) rfl ?_; conv => whnf)
    | (refine CallK.lent (f67 x.forth hx.2.1) rfl ?_; conv => whnf)
    | (refine CallK.lent (f67 x.back hx.2.2) rfl ?_; conv => whnf)
    | (refine And.intro rfl ?_; conv => whnf)
    | (exact ⟨[], _, _, _, rfl, rfl, rfl, RepLe.bl (by first | (simp_all [heavyLens, bigS]; done) | grind [heavyLens, bigS]), trivial⟩)
    | (exact ⟨[], _, _, _, rfl, rfl, rfl, RepLe.vb (by first | (simp_all [heavyLens, bigS]; done) | grind [heavyLens, bigS]), trivial⟩))
end Go.Proofs.Ytoophkcicdbnfaa
