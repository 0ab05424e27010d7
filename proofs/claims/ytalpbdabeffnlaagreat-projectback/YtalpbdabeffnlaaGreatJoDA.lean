import Derived.Test.YtalpbdabeffnlaaGreatJoCW
/- Whether a lens keeps a place; whether two ops are the same. -/
set_option linter.unusedVariables false
set_option linter.unusedSimpArgs false
namespace Go.Proofs.YtalpbdabeffnlaaGreat
open Go Go.Av
set_option maxRecDepth 100000
set_option maxHeartbeats 4000000

def badPair (b : List SPair) (p : SPair) : Bool := !(caseOf b p.tto).2 || !sEq (caseOf b p.tto).1 p.frm
def ptPairs (b : List SPair) : PV := .rp 1 (at_ .any [encPairs b])
theorem f362 (p : SPair) (b : List SPair) (hb : b.length ≤ maxLen) : PCall Tryz.prog 139 [encPair p, ptPairs b] (.p (.val (.bool (badPair b p)))) [] := by
  refine gcode hT hM Tryz.func139 rfl rfl (rv := [(3, none)]) rfl rfl rfl fun G hG => ?_
  conv => whnf
  refine CallK.go [] (f54 b p.tto hb) rfl rfl rfl rfl rfl ?_
  conv => whnf
  refine ⟨fun h1 => ?_, fun h1 => ?_⟩
  · conv => whnf
    exact ⟨[], _, _, _, rfl, rfl, rfl, RepLe.bl (by unfold badPair; rw [h1]; rfl), trivial⟩
  conv => whnf
  exact ⟨[], _, _, _, rfl, rfl, rfl, RepLe.vb (by unfold badPair; rw [h1]; rfl), trivial⟩
def badAt (a b : List SPair) : Option Nat := findUpto (fun i => badPair b (a.getD i noPair)) a.length 0
theorem f379 (a b : List SPair) (ha : a.length ≤ maxLen) (hb : b.length ≤ maxLen) : PCall Tryz.prog 169 [encPairs a, .fn 139 1 (at_ .any [ptPairs b])] (.p (.val (.int .i64 (posOf (badAt a b))))) [] := by
  have hlen : a.length ≤ 9223372036854775807 := ha
  refine gcode hT hM Tryz.func169 rfl rfl (rv := [(4, none)]) rfl rfl rfl fun G hG => ?_
  conv => whnf
  refine AW.loop (X := Nat) (fun i => told 19 [(0, .p (encPairs a)), (1, .p (.fn 139 1 (at_ .any [ptPairs b]))), (7, vI .i64 (a.length : Int)), (8, vI .i64 (i : Int))] [] []) (fun i => i ≤ a.length ∧ badAt a b = findUpto (fun i => badPair b (a.getD i noPair)) (a.length - i) i) (fun i => a.length - i) (used0 hG _) 0 ⟨by omega, rfl⟩ (stle ⟨RepLe.refl _, RepLe.refl _, RepLe.refl _, RepLe.refl _, trivial⟩ trivial rfl) ?_
  rintro i ⟨hi, hr⟩
  refine codeK_aw hT hM _ _ _ ?_
  conv => whnf
  refine ⟨fun h4 => ?_, fun h4 => ?_⟩
  · have hlt : i < a.length := by rw [iLt_t] at h4; omega
    rw [findUpto_step _ hlt] at hr
    conv => whnf
    refine ⟨by omega, ?_⟩
    conv => whnf
    refine CallK.lent (f362 (a.getD i noPair) b hb) rfl ?_
    conv => whnf
    refine ⟨fun h5 => ?_, fun h5 => ?_⟩
    · rw [h5] at hr
      conv => whnf
      exact ⟨[], _, _, _, rfl, rfl, rfl, RepLe.vi (by rw [hr]; rfl), trivial⟩
    rw [h5] at hr
    conv => whnf
    intro z hz
    have hy := wrap64_eq hz (by omega) (by omega)
    clear hz
    subst hy
    conv => whnf
    exact ⟨i + 1, ⟨by omega, hr⟩, by omega, stle ⟨RepLe.refl _, RepLe.refl _, RepLe.refl _, RepLe.of rfl, trivial⟩ trivial rfl⟩
  have hge : i = a.length := by rw [iLt_f] at h4; omega
  subst hge
  rw [Nat.sub_self] at hr
  conv => whnf
  exact ⟨[], _, _, _, rfl, rfl, rfl, RepLe.vi (by rw [hr]; rfl), trivial⟩
theorem f361 (a b : List SPair) (ha : a.length ≤ maxLen) (hb : b.length ≤ maxLen) : PCall Tryz.prog 138 [encPairs a, .fn 139 1 (at_ .any [ptPairs b])] (.p (.val (.bool (iLe 0 (posOf (badAt a b)))))) [] := by
  refine gcode hT hM Tryz.func138 rfl rfl (rv := [(4, none)]) rfl rfl rfl fun G hG => ?_
  conv => whnf
  refine CallK.lent (f379 a b ha hb) rfl ?_
  conv => whnf
  exact ⟨[], _, _, _, rfl, rfl, rfl, RepLe.refl _, trivial⟩
def roundB (a b : List SPair) : Bool := !iLe 0 (posOf (badAt a b))
theorem f341 (a b : List SPair) (ha : a.length ≤ maxLen) (hb : b.length ≤ maxLen) : PCall Tryz.prog 76 [encPairs a, encPairs b] (.p (.val (.bool (roundB a b)))) [] := by
  refine gcode hT hM Tryz.func76 rfl rfl (rv := [(4, none)]) rfl rfl rfl fun G hG => ?_
  conv => whnf
  refine CallK.lent (f361 a b ha hb) rfl ?_
  conv => whnf
  exact ⟨[], _, _, _, rfl, rfl, rfl, RepLe.refl _, trivial⟩
def keptF (x : SLens) (r : SRef) : Bool :=
  lensOk x && (match idxRef (goesOf x) r with | none => true | some i => if iEq x.kind 3 then false else if iEq x.kind 8 then roundB x.forth x.back else iEq (i : Int) 0)
theorem f322 (x : SLens) (r : SRef) (hx : fitLens x) : PCall Tryz.prog 33 [encLens x, encRef r] (.p (.val (.bool (keptF x r)))) [] := by
  have hgl := goes_small x
  have c331 := f331 (goesOf x) r hgl
  refine gcode hT hM Tryz.func33 rfl rfl (rv := [(4, none)]) rfl rfl rfl fun G hG => ?_
  conv => whnf
  refine CallK.lent (f25 x hx.ok) rfl ?_
  conv => whnf
  refine ⟨fun h1 => ?_, fun h1 => ?_⟩
  · have h1 := nott h1
    conv => whnf
    exact ⟨[], _, _, _, rfl, rfl, rfl, RepLe.bl (by unfold keptF; rw [h1]; rfl), trivial⟩
  have h1 := notf h1
  conv => whnf
  refine CallK.go [] (f51 x hx.ok) rfl rfl rfl rfl rfl ?_
  conv => whnf
  cases q : idxRef (goesOf x) r with
  | none =>
    rw [q] at c331
    refine CallK.lent (c331) rfl ?_
    conv => whnf
    refine ⟨rfl, ?_⟩
    conv => whnf
    refine ⟨fun r1 => ?_, fun r1 => ?_⟩
    · conv => whnf
      exact ⟨[], _, _, _, rfl, rfl, rfl, RepLe.bl (by unfold keptF; rw [h1, q]; rfl), trivial⟩
    · exact absurd (iLt_f.1 r1) (show ¬ (0 : Int) ≤ -1 by decide)
  | some i =>
    have hk : keptF x r = (if iEq x.kind 3 then false else if iEq x.kind 8 then roundB x.forth x.back else iEq (i : Int) 0) := by unfold keptF; rw [h1, q]; rfl
    rw [q] at c331
    refine CallK.lent (c331) rfl ?_
    conv => whnf
    refine ⟨rfl, ?_⟩
    conv => whnf
    refine ⟨fun r1 => ?_, fun r1 => ?_⟩
    · exact absurd (iLt_t.1 r1) (show ¬ ((i : Nat) : Int) < 0 by omega)
    conv => whnf
    refine ⟨fun k3 => ?_, fun k3 => ?_⟩
    · conv => whnf
      exact ⟨[], _, _, _, rfl, rfl, rfl, RepLe.bl (by rw [hk, k3]; rfl), trivial⟩
    conv => whnf
    refine ⟨fun k8 => ?_, fun k8 => ?_⟩
    · conv => whnf
      refine CallK.lent (f341 x.forth x.back (Nat.le_trans hx.2.1 (by decide)) (Nat.le_trans hx.2.2 (by decide))) rfl ?_
      conv => whnf
      exact ⟨[], _, _, _, rfl, rfl, rfl, RepLe.vb (by rw [hk, k3, k8]; rfl), trivial⟩
    conv => whnf
    exact ⟨[], _, _, _, rfl, rfl, rfl, RepLe.vb (by rw [hk, k3, k8]; rfl), trivial⟩
theorem f342 (l m : List STag) (hl : l.length ≤ maxLen) : PCall Tryz.prog 77 [encTags l, encTags m] (.p (.val (.bool (sameTags l m)))) [] := by
  have hlen : l.length ≤ 9223372036854775807 := hl
  refine gcode hT hM Tryz.func77 rfl rfl (rv := [(4, none)]) rfl rfl rfl fun G hG => ?_
  conv => whnf
  refine ⟨fun h => ?_, fun h => ?_⟩
  · conv => whnf
    exact ⟨[], _, _, _, rfl, rfl, rfl, RepLe.bl (by simp [iEq_f] at h; simp [sameTags]; omega), trivial⟩
  conv => whnf
  have heq : l.length = m.length := by simp [iEq_t] at h; omega
  refine AW.loop (X := Nat) (fun i => told 26 [(0, .p (encTags l)), (1, .p (encTags m)), (5, vI .i64 (i : Int))] [] []) (fun i => i ≤ l.length ∧ sameTags l m = allUpto (fun i => sameTag (l.getD i noTag) (m.getD i noTag)) (l.length - i) i) (fun i => l.length - i) (used0 hG _) 0 ⟨by omega, by simp [sameTags, heq]⟩ (stle ⟨RepLe.refl _, RepLe.refl _, RepLe.refl _, trivial⟩ trivial rfl) ?_
  rintro i ⟨hi, hr⟩
  refine codeK_aw hT hM _ _ _ ?_
  conv => whnf
  refine ⟨fun h4 => ?_, fun h4 => ?_⟩
  · have hlt : i < l.length := by rw [iLt_t] at h4; omega
    rw [allUpto_step _ hlt] at hr
    conv => whnf
    refine ⟨by omega, ?_⟩
    conv => whnf
    refine ⟨by omega, ?_⟩
    conv => whnf
    refine ⟨rfl, ?_⟩
    conv => whnf
    refine ⟨fun h5 => ?_, fun h5 => ?_⟩
    · have h5 : sameTag (l.getD i noTag) (m.getD i noTag) = false := by unfold sameTag; have := nott h5; simpa using this
      conv => whnf
      exact ⟨[], _, _, _, rfl, rfl, rfl, RepLe.bl (by rw [hr, h5]; simp), trivial⟩
    have h5 : sameTag (l.getD i noTag) (m.getD i noTag) = true := by unfold sameTag; have := notf h5; simpa using this
    conv => whnf
    intro z hz
    have hy := wrap64_eq hz (by omega) (by omega)
    clear hz
    subst hy
    conv => whnf
    exact ⟨i + 1, ⟨by omega, by rw [hr, h5]; simp⟩, by omega, stle ⟨RepLe.refl _, RepLe.refl _, RepLe.of rfl, trivial⟩ trivial rfl⟩
  · have hge : i = l.length := by rw [iLt_f] at h4; omega
    subst hge
    conv => whnf
    exact ⟨[], _, _, _, rfl, rfl, rfl, RepLe.bl (by rw [hr, allUpto_end]), trivial⟩
theorem f323 (a b : SOp) (ha : a.drops.length ≤ maxLen) : PCall Tryz.prog 35 [encOp a, encOp b] (.p (.val (.bool (sameOp a b)))) [] := by
  refine gcode hT hM Tryz.func35 rfl rfl (rv := [(4, none)]) rfl rfl rfl fun G hG => ?_
  conv => whnf
  repeat' (first
    | (refine ⟨fun _ => ?_, fun _ => ?_⟩ <;> (conv => whnf))
    | (refine And.intro (by omega) ?_; conv => whnf)
    | (refine CallK.lent (f342 a.drops b.drops ha) rfl ?_; conv => whnf)
    | (refine And.intro rfl ?_; conv => whnf)
    | (exact ⟨[], _, _, _, rfl, rfl, rfl, RepLe.bl (by first | (simp_all [sameOp, sameTag, sameRef]; done) | grind [sameOp, sameTag, sameRef]), trivial⟩)
    | (exact ⟨[], _, _, _, rfl, rfl, rfl, RepLe.vb (by first | (simp_all [sameOp, sameTag, sameRef]; done) | grind [sameOp, sameTag, sameRef]), trivial⟩)
    | (intro z hz; have hy := wrap64_eq hz (by omega) (by omega); clear hz; subst hy; conv => whnf)
    | (exact ⟨i + 1, ⟨by omega, by first | (simp_all [sameOp, sameTag, sameRef]; done) | grind [sameOp, sameTag, sameRef]⟩, by omega, stle ⟨trivial, trivial⟩ trivial rfl⟩))
end Go.Proofs.YtalpbdabeffnlaaGreat

/- What is kept comes back as it was: plain law. -/
set_option linter.unusedVariables false
set_option linter.unusedSimpArgs false
namespace Go.Proofs.YtalpbdabeffnlaaGreat
open Go Go.Av
set_option maxRecDepth 100000

/-- The way back goes where the way forth comes, and the other way round. -/
theorem goes_turn {x : SLens} (h : lensOk x = true) : goesOf (turnOf x) = comesOf x ∧ comesOf (turnOf x) = goesOf x := by
  have hy := turn_ok x h
  rcases kind_range h with k | k | k | k | k | k | k | k | k | k
  · have kk : iEq x.kind 1 = true := iEq_t.2 k
    have e : turnOf x = { x with place := { x.place with name := x.name }, name := x.place.name } := by unfold turnOf; rw [kk]; rfl
    rw [e] at hy ⊢
    unfold goesOf comesOf
    simp only [h, hy, kk, kinds 1 kk 2 (by decide), kinds 1 kk 3 (by decide), kinds 1 kk 9 (by decide)]
    exact ⟨rfl, rfl⟩
  · have kk : iEq x.kind 2 = true := iEq_t.2 k
    have e : turnOf x = { x with kind := 3 } := by unfold turnOf; rw [kinds 2 kk 1 (by decide), kk]; rfl
    rw [e] at hy ⊢
    unfold goesOf comesOf
    simp only [h, hy, kk, kinds 2 kk 3 (by decide), iEq_same, show iEq 3 2 = false from iEq_f.2 (by decide)]
    exact ⟨rfl, rfl⟩
  · have kk : iEq x.kind 3 = true := iEq_t.2 k
    have e : turnOf x = { x with kind := 2 } := by unfold turnOf; rw [kinds 3 kk 1 (by decide), kinds 3 kk 2 (by decide), kk]; rfl
    rw [e] at hy ⊢
    unfold goesOf comesOf
    simp only [h, hy, kk, kinds 3 kk 2 (by decide), iEq_same, show iEq 2 3 = false from iEq_f.2 (by decide)]
    exact ⟨rfl, rfl⟩
  · have kk : iEq x.kind 4 = true := iEq_t.2 k
    have e : turnOf x = { x with kind := 5, name := x.place.group, place := { x.place with group := noS } } := by unfold turnOf; rw [kinds 4 kk 1 (by decide), kinds 4 kk 2 (by decide), kinds 4 kk 3 (by decide), kk]; rfl
    rw [e] at hy ⊢
    unfold goesOf comesOf
    simp only [h, hy, kk, kinds 4 kk 1 (by decide), kinds 4 kk 2 (by decide), kinds 4 kk 3 (by decide), kinds 4 kk 9 (by decide), iEq_same, show iEq 5 2 = false from iEq_f.2 (by decide), show iEq 5 3 = false from iEq_f.2 (by decide), show iEq 5 9 = false from iEq_f.2 (by decide), show iEq 5 1 = false from iEq_f.2 (by decide), show iEq 5 4 = false from iEq_f.2 (by decide)]
    exact ⟨rfl, rfl⟩
  · have kk : iEq x.kind 5 = true := iEq_t.2 k
    have hg := flat_facts h kk
    have e : turnOf x = { x with kind := 4, name := noS, place := { x.place with group := x.name } } := by unfold turnOf; rw [kinds 5 kk 1 (by decide), kinds 5 kk 2 (by decide), kinds 5 kk 3 (by decide), kinds 5 kk 4 (by decide), kk]; rfl
    rw [e] at hy ⊢
    unfold goesOf comesOf
    simp only [h, hy, kk, kinds 5 kk 1 (by decide), kinds 5 kk 2 (by decide), kinds 5 kk 3 (by decide), kinds 5 kk 4 (by decide), kinds 5 kk 9 (by decide), iEq_same, show iEq 4 2 = false from iEq_f.2 (by decide), show iEq 4 3 = false from iEq_f.2 (by decide), show iEq 4 9 = false from iEq_f.2 (by decide), show iEq 4 1 = false from iEq_f.2 (by decide)]
    refine ⟨rfl, ?_⟩
    show [({ x.place with group := noS } : SRef)] = [x.place]
    rw [← hg]
  · have kk : iEq x.kind 6 = true := iEq_t.2 k
    have e : turnOf x = { x with kind := 9 } := by unfold turnOf; rw [kinds 6 kk 1 (by decide), kinds 6 kk 2 (by decide), kinds 6 kk 3 (by decide), kinds 6 kk 4 (by decide), kinds 6 kk 5 (by decide), kk]; rfl
    rw [e] at hy ⊢
    unfold goesOf comesOf
    simp only [h, hy, kk, kinds 6 kk 1 (by decide), kinds 6 kk 2 (by decide), kinds 6 kk 3 (by decide), kinds 6 kk 4 (by decide), kinds 6 kk 5 (by decide), kinds 6 kk 9 (by decide), iEq_same, show iEq 9 2 = false from iEq_f.2 (by decide), show iEq 9 3 = false from iEq_f.2 (by decide), show iEq 9 1 = false from iEq_f.2 (by decide), show iEq 9 4 = false from iEq_f.2 (by decide), show iEq 9 5 = false from iEq_f.2 (by decide), show iEq 9 6 = false from iEq_f.2 (by decide)]
    exact ⟨rfl, rfl⟩
  · have kk : iEq x.kind 7 = true := iEq_t.2 k
    have e : turnOf x = { x with kind := 10 } := by unfold turnOf; rw [kinds 7 kk 1 (by decide), kinds 7 kk 2 (by decide), kinds 7 kk 3 (by decide), kinds 7 kk 4 (by decide), kinds 7 kk 5 (by decide), kinds 7 kk 6 (by decide), kinds 7 kk 9 (by decide), kk]; rfl
    rw [e] at hy ⊢
    unfold goesOf comesOf
    simp only [h, hy, kk, kinds 7 kk 1 (by decide), kinds 7 kk 2 (by decide), kinds 7 kk 3 (by decide), kinds 7 kk 4 (by decide), kinds 7 kk 5 (by decide), kinds 7 kk 6 (by decide), kinds 7 kk 9 (by decide), show iEq 10 2 = false from iEq_f.2 (by decide), show iEq 10 3 = false from iEq_f.2 (by decide), show iEq 10 1 = false from iEq_f.2 (by decide), show iEq 10 4 = false from iEq_f.2 (by decide), show iEq 10 5 = false from iEq_f.2 (by decide), show iEq 10 6 = false from iEq_f.2 (by decide), show iEq 10 9 = false from iEq_f.2 (by decide)]
    exact ⟨rfl, rfl⟩
  · have kk : iEq x.kind 8 = true := iEq_t.2 k
    have e : (turnOf x).kind = x.kind ∧ (turnOf x).place = x.place := by
      unfold turnOf
      rw [kinds 8 kk 1 (by decide), kinds 8 kk 2 (by decide), kinds 8 kk 3 (by decide), kinds 8 kk 4 (by decide), kinds 8 kk 5 (by decide), kinds 8 kk 6 (by decide), kinds 8 kk 9 (by decide), kinds 8 kk 7 (by decide), kinds 8 kk 10 (by decide), kk]
      exact ⟨rfl, rfl⟩
    unfold goesOf comesOf
    simp only [h, hy, e.1, e.2, kk, kinds 8 kk 1 (by decide), kinds 8 kk 2 (by decide), kinds 8 kk 3 (by decide), kinds 8 kk 4 (by decide), kinds 8 kk 5 (by decide), kinds 8 kk 6 (by decide), kinds 8 kk 9 (by decide)]
    exact ⟨rfl, rfl⟩
  · have kk : iEq x.kind 9 = true := iEq_t.2 k
    have e : turnOf x = { x with kind := 6 } := by
      unfold turnOf
      rw [kinds 9 kk 1 (by decide), kinds 9 kk 2 (by decide), kinds 9 kk 3 (by decide), kinds 9 kk 4 (by decide), kinds 9 kk 5 (by decide), kinds 9 kk 6 (by decide), kk]
      rfl
    rw [e] at hy ⊢
    unfold goesOf comesOf
    simp only [h, hy, kk, kinds 9 kk 1 (by decide), kinds 9 kk 2 (by decide), kinds 9 kk 3 (by decide), kinds 9 kk 4 (by decide), kinds 9 kk 5 (by decide), kinds 9 kk 6 (by decide), iEq_same, show iEq 6 2 = false from iEq_f.2 (by decide), show iEq 6 3 = false from iEq_f.2 (by decide), show iEq 6 1 = false from iEq_f.2 (by decide), show iEq 6 4 = false from iEq_f.2 (by decide), show iEq 6 5 = false from iEq_f.2 (by decide), show iEq 6 9 = false from iEq_f.2 (by decide)]
    exact ⟨rfl, rfl⟩
  · have kk : iEq x.kind 10 = true := iEq_t.2 k
    have e : turnOf x = { x with kind := 7 } := by
      unfold turnOf
      rw [kinds 10 kk 1 (by decide), kinds 10 kk 2 (by decide), kinds 10 kk 3 (by decide), kinds 10 kk 4 (by decide), kinds 10 kk 5 (by decide), kinds 10 kk 6 (by decide), kinds 10 kk 9 (by decide), kinds 10 kk 7 (by decide), kk]
      rfl
    rw [e] at hy ⊢
    unfold goesOf comesOf
    simp only [h, hy, kk, kinds 10 kk 1 (by decide), kinds 10 kk 2 (by decide), kinds 10 kk 3 (by decide), kinds 10 kk 4 (by decide), kinds 10 kk 5 (by decide), kinds 10 kk 6 (by decide), kinds 10 kk 9 (by decide), show iEq 7 2 = false from iEq_f.2 (by decide), show iEq 7 3 = false from iEq_f.2 (by decide), show iEq 7 1 = false from iEq_f.2 (by decide), show iEq 7 4 = false from iEq_f.2 (by decide), show iEq 7 5 = false from iEq_f.2 (by decide), show iEq 7 6 = false from iEq_f.2 (by decide), show iEq 7 9 = false from iEq_f.2 (by decide)]
    exact ⟨rfl, rfl⟩

theorem case_pair {t : List SPair} {s : ByteArray} (h : (caseOf t s).2 = true) : ∃ i, i < t.length ∧ (t.getD i noPair).frm = s ∧ (t.getD i noPair).tto = (caseOf t s).1 := by
  unfold caseOf at h ⊢
  cases q : findUpto (fun i => sEq (t.getD i noPair).frm s) t.length 0 with
  | none => rw [q] at h; cases h
  | some i =>
    obtain ⟨_, hi, hp, _⟩ := findUpto_some _ _ _ _ q
    exact ⟨i, by omega, sEq_t.1 hp, rfl⟩
theorem round_pair {a b : List SPair} (h : roundB a b = true) {i : Nat} (hi : i < a.length) : (caseOf b (a.getD i noPair).tto).2 = true ∧ (caseOf b (a.getD i noPair).tto).1 = (a.getD i noPair).frm := by
  have hn : badAt a b = none := by
    unfold roundB at h
    cases q : badAt a b with
    | none => rfl
    | some j => rw [q, posOf_has] at h; cases h
  have := findUpto_none _ _ _ hn i (Nat.zero_le _) (by omega)
  unfold badPair at this
  rw [Bool.or_eq_false_iff, Bool.not_eq_false', Bool.not_eq_false', sEq_t] at this
  exact this
theorem over_shape (x : SLens) (o : SOp) : overF x o = (noOp, false) ∨ ((overF x o).1.id = o.id ∧ (overF x o).1.time = o.time ∧ (overF x o).1.kind = o.kind ∧ (overF x o).1.drops = o.drops) := by
  unfold overF
  repeat' split
  all_goals first | exact .inl rfl | exact .inr ⟨rfl, rfl, rfl, rfl⟩
theorem over_same {x : SLens} {o : SOp} (h : (overF x o).2 = true) : (overF x o).1.id = o.id ∧ (overF x o).1.time = o.time ∧ (overF x o).1.kind = o.kind ∧ (overF x o).1.drops = o.drops := by
  rcases over_shape x o with e | e
  · rw [e] at h; cases h
  · exact e
theorem over_at {x : SLens} {o : SOp} {i : Nat} (h1 : lensOk x = true) (hk : (!iEq o.kind 3 && !iEq o.kind 4) = false) (ht : (traceF x o.place).2 = true) (q : idxRef (goesOf x) o.place = some i) :
    overF x o = (noOp, false) ∨ (overF x o).1.place = (traceF x o.place).1 := by
  rw [over_some h1 hk ht q]
  repeat' split
  all_goals first | exact .inl rfl | exact .inr rfl
theorem over_plain {x : SLens} {o : SOp} (hx : lensOk x = true) (hp : (!iEq o.kind 3 && !iEq o.kind 4) = true) : overF x o = (o, true) := by
  unfold overF; rw [hx, hp]; rfl
theorem idx_zero {l : List SRef} {r : SRef} (h0 : 0 < l.length) (h : l.getD 0 noRef = r) : idxRef l r = some 0 := by
  have hs := findUpto_step (fun i => sameRef r (l.getD i noRef)) h0
  rw [Nat.sub_zero] at hs
  unfold idxRef
  rw [hs]
  show (match sameRef r (l.getD 0 noRef) with | true => some 0 | false => _) = _
  rw [h, sameRef_self]
theorem fits_place {l : List SField} {o : SOp} (h : fitsOp l o = true) (hp : (!iEq o.kind 3 && !iEq o.kind 4) = false) :
    (∃ j, placeIn l o.place = some j) ∧ (iEq o.kind 3 = true → iEq (fieldAt l (placeIn l o.place)).1.kind 1 = true) ∧
    (iEq o.kind 3 = false → (if o.has then fitsText (fieldAt l (placeIn l o.place)).1 o.text else iEq (fieldAt l (placeIn l o.place)).1.kind 4) = true) := by
  unfold fitsOp at h
  rw [hp] at h
  simp only [Bool.false_eq_true, if_false, Bool.and_eq_true] at h
  obtain ⟨_, hc, hk⟩ := h
  refine ⟨?_, fun k3 => ?_, fun k3 => ?_⟩
  · cases q : placeIn l o.place with
    | some j => exact ⟨j, rfl⟩
    | none =>
      rw [q] at hc
      have hc : iEq 6 0 = true := hc
      exact absurd (iEq_t.1 hc) (by decide)
  · rw [k3] at hk; exact hk
  · rw [k3] at hk; exact hk
/-- A field of a kind that an op of the other kind does not fit. -/
theorem no_write {f : SField} {o : SOp} (k : iEq f.kind 1 = true) (h : (if o.has then fitsText f o.text else iEq f.kind 4) = true) : False := by
  unfold fitsText at h
  rw [kinds 1 k 2 (by decide), kinds 1 k 4 (by decide), kinds 1 k 3 (by decide)] at h
  cases o.has <;> simp at h
theorem trace_at {x : SLens} (hx : lensOk x = true) {r : SRef} {i : Nat} (q : idxRef (goesOf x) r = some i) {c : SRef} {cs : List SRef} (hc : comesOf x = c :: cs) : traceF x r = (c, true) := by
  unfold traceF
  rw [hx, q, hc]
  show (if iEq (((c :: cs).length : Nat) : Int) 0 = true then _ else (c, true)) = _
  rw [show iEq (((c :: cs).length : Nat) : Int) 0 = false by rw [iEq_f, List.length_cons]; omega]
  rfl
theorem met_law {l : List SField} {x : SLens} {o : SOp} (h0 : (applyF l x).2 = 0) (hf : fitsOp l o = true) (hp : (!iEq o.kind 3 && !iEq o.kind 4) = false) (hok : (overF x o).2 = true) :
    ∃ j, placeIn (applyF l x).1 (overF x o).1.place = some j := by
  obtain ⟨hx, hl⟩ := apply_ok h0
  obtain ⟨⟨j, hj⟩, _, _⟩ := fits_place hf hp
  have from_code : ∀ r f, fieldAt (applyF l x).1 (placeIn (applyF l x).1 r) = (f, 0) → ∃ j, placeIn (applyF l x).1 r = some j := fun r f e => by
    cases qq : placeIn (applyF l x).1 r with
    | some j => exact ⟨j, rfl⟩
    | none => rw [qq] at e; have : (6 : Int) = 0 := congrArg Prod.snd e; exact absurd this (by decide)
  cases q : idxRef (goesOf x) o.place with
  | none =>
    have e : overF x o = (o, true) := by
      have ht : (traceF x o.place).2 = true := by unfold traceF; rw [hx, q]; rfl
      unfold overF; rw [hx, hp, ht, q]; rfl
    rw [e]
    exact from_code o.place _ ((untouched h0 hj (idx_mem.1 q)).trans (by rw [hj]; rfl))
  | some i =>
    have hm1 : (traceF x o.place).2 = true := by
      cases t : (traceF x o.place).2 with
      | true => rfl
      | false =>
        have e : overF x o = (noOp, false) := by unfold overF; rw [hx, hp, t]; rfl
        rw [e] at hok; cases hok
    obtain ⟨c, cs, hc⟩ : ∃ c cs, comesOf x = c :: cs := by
      cases hcs : comesOf x with
      | nil =>
        unfold traceF at hm1
        rw [hx, q, hcs] at hm1
        have : (if iEq ((([] : List SRef).length : Nat) : Int) 0 = true then (noRef, false) else ((([] : List SRef).getD 0 noRef), true)).2 = true := hm1
        rw [show iEq ((([] : List SRef).length : Nat) : Int) 0 = true from iEq_same 0] at this; cases this
      | cons c cs => exact ⟨c, cs, rfl⟩
    have ht := trace_at hx q hc
    have hov := over_some hx hp hm1 q
    obtain ⟨was, _, _, _, hfirst⟩ := apply_first h0 hc
    have hpl : (overF x o).1.place = c := by
      rcases over_at hx hp hm1 q with e | e
      · rw [e] at hok; cases hok
      · rw [e, ht]
    rw [hpl]
    exact from_code c _ hfirst
/-- What is kept, of an op that fits, becomes one, and comes back. -/
theorem kept_law {l : List SField} {x : SLens} {o : SOp} (h0 : (applyF l x).2 = 0) (hf : fitsOp l o = true) (hp : (!iEq o.kind 3 && !iEq o.kind 4) = false) (hk : keptF x o.place = true) :
    (overF x o).2 = true ∧ overF (turnOf x) (overF x o).1 = (o, true) := by
  obtain ⟨hx, hl⟩ := apply_ok h0
  have hy := turn_ok x hx
  obtain ⟨gt, ct⟩ := goes_turn hx
  obtain ⟨⟨j, hj⟩, fa, fw⟩ := fits_place hf hp
  cases q : idxRef (goesOf x) o.place with
  | none =>
    have e : overF x o = (o, true) := by
      have ht : (traceF x o.place).2 = true := by unfold traceF; rw [hx, q]; rfl
      unfold overF; rw [hx, hp, ht, q]; rfl
    rw [e]
    refine ⟨rfl, ?_⟩
    have hn : o.place ∉ comesOf x := fun hc => by rw [comes_fresh h0 hc (idx_mem.1 q)] at hj; cases hj
    have q2 : idxRef (goesOf (turnOf x)) o.place = none := idx_mem.2 (by rw [gt]; exact hn)
    have ht : (traceF (turnOf x) o.place).2 = true := by unfold traceF; rw [hy, q2]; rfl
    show overF (turnOf x) o = _
    unfold overF; rw [hy, hp, ht, q2]; rfl
  | some i =>
    obtain ⟨hi, hig⟩ := idx_at q
    have hkk : (if iEq x.kind 3 then false else if iEq x.kind 8 then roundB x.forth x.back else iEq (i : Int) 0) = true := by unfold keptF at hk; rw [hx, q] at hk; exact hk
    have n3 : iEq x.kind 3 = false := by
      cases t : iEq x.kind 3 with
      | false => rfl
      | true => rw [t] at hkk; cases hkk
    have n2 : iEq x.kind 2 = false := by
      cases t : iEq x.kind 2 with
      | false => rfl
      | true =>
        have : goesOf x = [] := by unfold goesOf; rw [hx, t]; rfl
        rw [this] at hi; exact absurd hi (Nat.not_lt_zero _)
    have i0 : i = 0 := by
      cases t : iEq x.kind 8 with
      | true => rw [goes_one hx n2 n3 (kinds 8 t 9 (by decide))] at hi; simpa using hi
      | false => rw [n3, t] at hkk; have := iEq_t.1 hkk; omega
    subst i0
    obtain ⟨c, cs, hc⟩ : ∃ c cs, comesOf x = c :: cs := by
      cases hcs : comesOf x with
      | nil =>
        cases t : iEq x.kind 6 with
        | true => have := comes_two hx t; rw [hcs] at this; cases this
        | false => have := comes_one hx n3 t; rw [hcs] at this; cases this
      | cons c cs => exact ⟨c, cs, rfl⟩
    obtain ⟨g, gs, hg⟩ : ∃ g gs, goesOf x = g :: gs := by
      cases hgs : goesOf x with
      | nil => rw [hgs] at hi; exact absurd hi (Nat.not_lt_zero _)
      | cons g gs => exact ⟨g, gs, rfl⟩
    have hgo : g = o.place := by rw [hg] at hig; exact hig
    have ht := trace_at hx q hc
    have hov := over_some hx hp (by rw [ht]) q
    rw [ht] at hov
    have qy : idxRef (goesOf (turnOf x)) c = some 0 := idx_zero (by rw [gt, hc]; exact Nat.zero_lt_succ _) (by rw [gt, hc]; rfl)
    have hty : traceF (turnOf x) c = (o.place, true) := trace_at hy qy (by rw [ct, hg, hgo])
    have z1 : iEq ((0 : Nat) : Int) 1 = false := iEq_f.2 (by decide)
    rw [z1] at hov
    obtain ⟨was, hwas, hb, _, hfirst⟩ := apply_first h0 hc
    have hw0 : w0 was = (fieldAt l (placeIn l o.place)).1 := by unfold w0; rw [hwas, hg, ← hgo]; rfl
    have back : ∀ p : SOp, p.kind = o.kind → p.place = c → overF (turnOf x) p =
        (if iEq (turnOf x).kind 6 || iEq (turnOf x).kind 9 then (if !iEq p.kind 3 then (noOp, false) else ({ p with place := o.place }, true))
        else if iEq (turnOf x).kind 7 || (iEq (turnOf x).kind 10 || iEq (turnOf x).kind 8) then (if !iEq p.kind 4 then (noOp, false) else if iEq (turnOf x).kind 8 && p.has then (if (caseOf (turnOf x).forth p.text).2 then ({ p with place := o.place, text := (caseOf (turnOf x).forth p.text).1 }, true) else (noOp, false)) else ({ p with place := o.place }, true))
        else ({ p with place := o.place }, true)) := fun p e1 e2 => by
      have := over_some hy (show (!iEq p.kind 3 && !iEq p.kind 4) = false by rw [e1]; exact hp) (show (traceF (turnOf x) p.place).2 = true by rw [e2, hty]) (show idxRef (goesOf (turnOf x)) p.place = some 0 by rw [e2]; exact qy)
      rw [this, e2, hty, z1]; rfl
    have no3 : ∀ a : Int, iEq (fieldAt l (placeIn l o.place)).1.kind a = true → a ≠ 1 → iEq o.kind 3 = false ∧ iEq o.kind 4 = true := fun a ha hne => by
      cases t : iEq o.kind 3 with
      | true => have := fa t; exact absurd (iEq_t.1 ha ▸ iEq_t.1 this) hne
      | false =>
        refine ⟨rfl, ?_⟩
        rw [t] at hp
        simpa using hp
    have is3 : iEq (fieldAt l (placeIn l o.place)).1.kind 1 = true → iEq o.kind 3 = true := fun ha => by
      cases t : iEq o.kind 3 with
      | true => rfl
      | false => exact (no_write ha (fw t)).elim
    rcases kind_range hx with k | k | k | k | k | k | k | k | k | k
    · have kk : iEq x.kind 1 = true := iEq_t.2 k
      have yk : iEq (turnOf x).kind 1 = true := by unfold turnOf; rw [kk]; first | exact kk | exact iEq_same _
      rw [kinds 1 kk 6 (by decide), kinds 1 kk 9 (by decide), kinds 1 kk 7 (by decide), kinds 1 kk 10 (by decide), kinds 1 kk 8 (by decide)] at hov
      have hov : overF x o = ({ o with place := c }, true) := hov
      rw [hov]
      refine ⟨rfl, ?_⟩
      have hb2 := back { o with place := c } rfl rfl
      rw [kinds 1 yk 6 (by decide), kinds 1 yk 9 (by decide), kinds 1 yk 7 (by decide), kinds 1 yk 10 (by decide), kinds 1 yk 8 (by decide)] at hb2
      exact hb2
    · exact absurd (iEq_t.2 k) (by rw [n2]; decide)
    · exact absurd (iEq_t.2 k) (by rw [n3]; decide)
    · have kk : iEq x.kind 4 = true := iEq_t.2 k
      have yk : iEq (turnOf x).kind 5 = true := by unfold turnOf; rw [kinds 4 kk 1 (by decide), kinds 4 kk 2 (by decide), kinds 4 kk 3 (by decide), kk]; first | exact kk | exact iEq_same _
      rw [kinds 4 kk 6 (by decide), kinds 4 kk 9 (by decide), kinds 4 kk 7 (by decide), kinds 4 kk 10 (by decide), kinds 4 kk 8 (by decide)] at hov
      have hov : overF x o = ({ o with place := c }, true) := hov
      rw [hov]
      refine ⟨rfl, ?_⟩
      have hb2 := back { o with place := c } rfl rfl
      rw [kinds 5 yk 6 (by decide), kinds 5 yk 9 (by decide), kinds 5 yk 7 (by decide), kinds 5 yk 10 (by decide), kinds 5 yk 8 (by decide)] at hb2
      exact hb2
    · have kk : iEq x.kind 5 = true := iEq_t.2 k
      have yk : iEq (turnOf x).kind 4 = true := by unfold turnOf; rw [kinds 5 kk 1 (by decide), kinds 5 kk 2 (by decide), kinds 5 kk 3 (by decide), kinds 5 kk 4 (by decide), kk]; first | exact kk | exact iEq_same _
      rw [kinds 5 kk 6 (by decide), kinds 5 kk 9 (by decide), kinds 5 kk 7 (by decide), kinds 5 kk 10 (by decide), kinds 5 kk 8 (by decide)] at hov
      have hov : overF x o = ({ o with place := c }, true) := hov
      rw [hov]
      refine ⟨rfl, ?_⟩
      have hb2 := back { o with place := c } rfl rfl
      rw [kinds 4 yk 6 (by decide), kinds 4 yk 9 (by decide), kinds 4 yk 7 (by decide), kinds 4 yk 10 (by decide), kinds 4 yk 8 (by decide)] at hb2
      exact hb2
    · have kk : iEq x.kind 6 = true := iEq_t.2 k
      have yk : iEq (turnOf x).kind 9 = true := by unfold turnOf; rw [kinds 6 kk 1 (by decide), kinds 6 kk 2 (by decide), kinds 6 kk 3 (by decide), kinds 6 kk 4 (by decide), kinds 6 kk 5 (by decide), kk]; first | exact kk | exact iEq_same _
      have hb3 : iEq (w0 was).kind 1 = true := by
        have hb := hb
        unfold turnedOf at hb; rw [kinds 6 kk 2 (by decide), kinds 6 kk 3 (by decide), kk] at hb
        have hb := (Bool.and_eq_true _ _ ▸ hb : _ ∧ _)
        exact hb.1
      rw [hw0] at hb3
      have k3 := is3 hb3
      rw [kk, k3] at hov
      have hov : overF x o = ({ o with place := c }, true) := hov
      rw [hov]
      refine ⟨rfl, ?_⟩
      have hb2 := back { o with place := c } rfl rfl
      rw [kinds 9 yk 6 (by decide), yk, show iEq ({ o with place := c } : SOp).kind 3 = true from k3] at hb2
      exact hb2
    · have kk : iEq x.kind 7 = true := iEq_t.2 k
      have yk : iEq (turnOf x).kind 10 = true := by unfold turnOf; rw [kinds 7 kk 1 (by decide), kinds 7 kk 2 (by decide), kinds 7 kk 3 (by decide), kinds 7 kk 4 (by decide), kinds 7 kk 5 (by decide), kinds 7 kk 6 (by decide), kinds 7 kk 9 (by decide), kk]; first | exact kk | exact iEq_same _
      have hb3 : iEq (w0 was).kind 2 = true := by
        have hb := hb
        unfold turnedOf at hb; rw [kinds 7 kk 2 (by decide), kinds 7 kk 3 (by decide), kinds 7 kk 6 (by decide), kinds 7 kk 9 (by decide), kk] at hb
        have hb := (Bool.and_eq_true _ _ ▸ hb : _ ∧ _)
        exact hb.1
      rw [hw0] at hb3
      obtain ⟨k3, k4⟩ := no3 2 hb3 (by decide)
      rw [kinds 7 kk 6 (by decide), kinds 7 kk 9 (by decide), kk, kinds 7 kk 8 (by decide), k4] at hov
      have hov : overF x o = ({ o with place := c }, true) := hov
      rw [hov]
      refine ⟨rfl, ?_⟩
      have hb2 := back { o with place := c } rfl rfl
      rw [kinds 10 yk 6 (by decide), kinds 10 yk 9 (by decide), kinds 10 yk 7 (by decide), yk, kinds 10 yk 8 (by decide), show iEq ({ o with place := c } : SOp).kind 4 = true from k4] at hb2
      exact hb2
    · have kk : iEq x.kind 8 = true := iEq_t.2 k
      have yk : iEq (turnOf x).kind 8 = true := by unfold turnOf; rw [kinds 8 kk 1 (by decide), kinds 8 kk 2 (by decide), kinds 8 kk 3 (by decide), kinds 8 kk 4 (by decide), kinds 8 kk 5 (by decide), kinds 8 kk 6 (by decide), kinds 8 kk 9 (by decide), kinds 8 kk 7 (by decide), kinds 8 kk 10 (by decide), kk]; first | exact kk | exact iEq_same _
      have yf : (turnOf x).forth = x.back := by unfold turnOf; rw [kinds 8 kk 1 (by decide), kinds 8 kk 2 (by decide), kinds 8 kk 3 (by decide), kinds 8 kk 4 (by decide), kinds 8 kk 5 (by decide), kinds 8 kk 6 (by decide), kinds 8 kk 9 (by decide), kinds 8 kk 7 (by decide), kinds 8 kk 10 (by decide), kk]; rfl
      have hb3 : iEq (w0 was).kind 3 = true ∧ sameStrs (w0 was).cases (fromsOf x.forth) = true := by
        have hb := hb
        unfold turnedOf at hb; rw [kinds 8 kk 2 (by decide), kinds 8 kk 3 (by decide), kinds 8 kk 6 (by decide), kinds 8 kk 9 (by decide), kinds 8 kk 7 (by decide), kinds 8 kk 10 (by decide), kk] at hb
        have hb := (Bool.and_eq_true _ _ ▸ hb : _ ∧ _)
        exact ⟨hb.1, (Bool.and_eq_true _ _ ▸ hb.2 : _ ∧ _).2⟩
      rw [hw0] at hb3
      obtain ⟨k3, k4⟩ := no3 3 hb3.1 (by decide)
      have hcs := strs_eq hb3.2
      rw [n3, kk] at hkk
      have hkk : roundB x.forth x.back = true := hkk
      rw [kinds 8 kk 6 (by decide), kinds 8 kk 9 (by decide), kinds 8 kk 7 (by decide), kinds 8 kk 10 (by decide), kk, k4] at hov
      have hw := fw k3
      cases t : o.has with
      | false =>
        rw [show (true && o.has) = false by rw [t]; rfl] at hov
        have hov : overF x o = ({ o with place := c }, true) := hov
        rw [hov]
        refine ⟨rfl, ?_⟩
        have hb2 := back { o with place := c } rfl rfl
        rw [kinds 8 yk 6 (by decide), kinds 8 yk 9 (by decide), kinds 8 yk 7 (by decide), kinds 8 yk 10 (by decide), yk, show iEq ({ o with place := c } : SOp).kind 4 = true from k4, show (true && ({ o with place := c } : SOp).has) = false by show (true && o.has) = false; rw [t]; rfl] at hb2
        exact hb2
      | true =>
        rw [show (true && o.has) = true by rw [t]; rfl] at hov
        rw [t] at hw
        have hw : fitsText (fieldAt l (placeIn l o.place)).1 o.text = true := hw
        have hin : iLe 0 (idxOf (fromsOf x.forth) o.text) = true := by
          unfold fitsText at hw
          rw [kinds 3 hb3.1 2 (by decide), kinds 3 hb3.1 4 (by decide), hb3.1, hcs] at hw
          exact (Bool.and_eq_true _ _ ▸ hw : _ ∧ _).2
        have hcase : (caseOf x.forth o.text).2 = true := by
          unfold idxOf at hin
          cases qq : findUpto (fun i => sEq o.text ((fromsOf x.forth).getD i noS)) (fromsOf x.forth).length 0 with
          | none => rw [qq, posOf_none] at hin; cases hin
          | some n =>
            obtain ⟨_, hn, hpn, _⟩ := findUpto_some _ _ _ _ qq
            have hn : n < x.forth.length := by rw [froms_len] at hn; omega
            have hpn : sEq o.text ((fromsOf x.forth).getD n noS) = true := hpn
            rw [froms_get x.forth n hn] at hpn
            unfold caseOf
            cases q3 : findUpto (fun i => sEq (x.forth.getD i noPair).frm o.text) x.forth.length 0 with
            | some _ => rfl
            | none =>
              have := findUpto_none _ _ _ q3 n (Nat.zero_le _) (by omega)
              rw [sEq_comm, hpn] at this; cases this
        rw [hcase] at hov
        have hov : overF x o = ({ o with place := c, text := (caseOf x.forth o.text).1 }, true) := hov
        obtain ⟨n, hn, hn1, hn2⟩ := case_pair hcase
        obtain ⟨r1, r2⟩ := round_pair hkk hn
        rw [hn2, hn1] at r2
        rw [hn2] at r1
        rw [hov]
        refine ⟨rfl, ?_⟩
        have hb2 := back { o with place := c, text := (caseOf x.forth o.text).1 } rfl rfl
        rw [kinds 8 yk 6 (by decide), kinds 8 yk 9 (by decide), kinds 8 yk 7 (by decide), kinds 8 yk 10 (by decide), yk, yf, show iEq ({ o with place := c, text := (caseOf x.forth o.text).1 } : SOp).kind 4 = true from k4, show (true && ({ o with place := c, text := (caseOf x.forth o.text).1 } : SOp).has) = true by show (true && o.has) = true; rw [t]; rfl] at hb2
        have hb2 : overF (turnOf x) { o with place := c, text := (caseOf x.forth o.text).1 } = (if (caseOf x.back (caseOf x.forth o.text).1).2 then ({ o with place := o.place, text := (caseOf x.back (caseOf x.forth o.text).1).1 }, true) else (noOp, false)) := hb2
        rw [r1, r2] at hb2
        exact hb2
    · have kk : iEq x.kind 9 = true := iEq_t.2 k
      have yk : iEq (turnOf x).kind 6 = true := by unfold turnOf; rw [kinds 9 kk 1 (by decide), kinds 9 kk 2 (by decide), kinds 9 kk 3 (by decide), kinds 9 kk 4 (by decide), kinds 9 kk 5 (by decide), kinds 9 kk 6 (by decide), kk]; first | exact kk | exact iEq_same _
      have hb3 : iEq (w0 was).kind 1 = true := by
        have hb := hb
        unfold turnedOf at hb; rw [kinds 9 kk 2 (by decide), kinds 9 kk 3 (by decide), kinds 9 kk 6 (by decide), kk] at hb
        have hb := (Bool.and_eq_true _ _ ▸ hb : _ ∧ _)
        exact hb.1
      rw [hw0] at hb3
      have k3 := is3 hb3
      rw [kinds 9 kk 6 (by decide), kk, k3] at hov
      have hov : overF x o = ({ o with place := c }, true) := hov
      rw [hov]
      refine ⟨rfl, ?_⟩
      have hb2 := back { o with place := c } rfl rfl
      rw [yk, show iEq ({ o with place := c } : SOp).kind 3 = true from k3] at hb2
      exact hb2
    · have kk : iEq x.kind 10 = true := iEq_t.2 k
      have yk : iEq (turnOf x).kind 7 = true := by unfold turnOf; rw [kinds 10 kk 1 (by decide), kinds 10 kk 2 (by decide), kinds 10 kk 3 (by decide), kinds 10 kk 4 (by decide), kinds 10 kk 5 (by decide), kinds 10 kk 6 (by decide), kinds 10 kk 9 (by decide), kinds 10 kk 7 (by decide), kk]; first | exact kk | exact iEq_same _
      have hb3 : iEq (w0 was).kind 4 = true := by
        have hb := hb
        unfold turnedOf at hb; rw [kinds 10 kk 2 (by decide), kinds 10 kk 3 (by decide), kinds 10 kk 6 (by decide), kinds 10 kk 9 (by decide), kinds 10 kk 7 (by decide), kk] at hb
        exact hb
      rw [hw0] at hb3
      obtain ⟨k3, k4⟩ := no3 4 hb3 (by decide)
      rw [kinds 10 kk 6 (by decide), kinds 10 kk 9 (by decide), kinds 10 kk 7 (by decide), kk, kinds 10 kk 8 (by decide), k4] at hov
      have hov : overF x o = ({ o with place := c }, true) := hov
      rw [hov]
      refine ⟨rfl, ?_⟩
      have hb2 := back { o with place := c } rfl rfl
      rw [kinds 7 yk 6 (by decide), kinds 7 yk 9 (by decide), yk, kinds 7 yk 8 (by decide), show iEq ({ o with place := c } : SOp).kind 4 = true from k4] at hb2
      exact hb2
end Go.Proofs.YtalpbdabeffnlaaGreat

/- StepBack: the law's function. -/
set_option linter.unusedVariables false
set_option linter.unusedSimpArgs false
namespace Go.Proofs.YtalpbdabeffnlaaGreat
open Go Go.Av
set_option maxRecDepth 100000
set_option maxHeartbeats 4000000

theorem sameTag_self (t : STag) : sameTag t t = true := by simp [sameTag, iEq_self]
theorem sameTags_self (l : List STag) : sameTags l l = true := by
  unfold sameTags
  rw [Bool.and_eq_true, allUpto_iff]
  exact ⟨by simp, fun j _ _ => sameTag_self _⟩
theorem sameOp_self (o : SOp) : sameOp o o = true := by
  simp [sameOp, sameTag_self, sameTags_self, iEq_self, sEq_self, sameRef_self, bEq_self]
/-- An op that fits has a small delta. -/
theorem fits_small {l : List SField} {o : SOp} (h : fitsOp l o = true) : o.delta.natAbs ≤ 1048576 := by
  have hr : opRight o = true := by unfold fitsOp at h; exact (Bool.and_eq_true _ _ ▸ h : _ ∧ _).1
  cases k3 : iEq o.kind 3 with
  | true => exact (fits_facts h k3).1
  | false =>
    unfold opRight at hr
    simp only [Bool.and_eq_true] at hr
    have hs := hr.2.2.1
    unfold sameOp partsOp at hs
    simp only [Bool.and_eq_true] at hs
    have hd := hs.2.2.2.2.2.2.2.1
    rw [k3] at hd
    have hd := iEq_t.1 hd
    have hd : o.delta = 0 := hd
    rw [hd]; decide
theorem over_small {x : SLens} {o : SOp} (hd : o.delta.natAbs ≤ 1048576) : (overF x o).1.delta.natAbs ≤ 1099511627776 := by
  cases hx : lensOk x with
  | false =>
    have e : overF x o = (noOp, false) := by unfold overF; rw [hx]; rfl
    rw [e]; decide
  | true =>
    have plain : o.delta.natAbs ≤ 1099511627776 := Nat.le_trans hd (by decide)
    have zero : (noOp.delta).natAbs ≤ 1099511627776 := by decide
    cases hk6 : iEq x.kind 6 || iEq x.kind 9 with
    | true =>
      obtain ⟨f1, f2⟩ := factor_facts hx ((Bool.or_eq_true _ _ ▸ hk6 : _ ∨ _))
      have prod : (o.delta * x.factor).natAbs ≤ 1099511627776 := by
        rw [Int.natAbs_mul]
        exact Nat.le_trans (Nat.mul_le_mul hd (show x.factor.natAbs ≤ 1000 by omega)) (by decide)
      unfold overF
      rw [hk6]
      repeat' split
      all_goals first | exact plain | exact zero | exact prod
    | false =>
      unfold overF
      rw [hk6]
      simp only [Bool.false_eq_true, if_false]
      repeat' split
      all_goals first | exact plain | exact zero
theorem f303 (l : List SField) (x : SLens) (o : SOp) (hl : fitFields l) (hx : fitLens x) (ho : fitOp o) : PCall Tryz.prog 6 [encFields l, encLens x, encOp o] (.p (.val (.bool true))) [] := by
  have hm := apply_fit hl hx
  have hdl : o.drops.length ≤ maxLen := Nat.le_trans ho (by decide)
  refine gcode hT hM Tryz.func6 rfl rfl (rv := [(6, none)]) rfl rfl rfl fun G hG => ?_
  conv => whnf
  refine CallK.lent (f309) rfl ?_
  conv => whnf
  refine ⟨fun h => ?_, fun h => ?_⟩
  · cases h
  conv => whnf
  refine CallK.lent (f26 l hl.ok) rfl ?_
  conv => whnf
  refine ⟨fun h1 => ?_, fun h1 => ?_⟩
  · conv => whnf
    exact ⟨[], _, _, _, rfl, rfl, rfl, RepLe.bl rfl, trivial⟩
  conv => whnf
  refine CallK.lent (f21 x hx.ok) rfl ?_
  conv => whnf
  refine ⟨fun h2 => ?_, fun h2 => ?_⟩
  · conv => whnf
    exact ⟨[], _, _, _, rfl, rfl, rfl, RepLe.bl rfl, trivial⟩
  conv => whnf
  refine CallK.lent (f310 o) rfl ?_
  conv => whnf
  refine ⟨fun h3 => ?_, fun h3 => ?_⟩
  · conv => whnf
    exact ⟨[], _, _, _, rfl, rfl, rfl, RepLe.bl rfl, trivial⟩
  conv => whnf
  refine CallK.go [] (f49 l x hl hx) rfl rfl rfl rfl rfl ?_
  conv => whnf
  refine CallK.go [] (f22 x hx) rfl rfl rfl rfl rfl ?_
  conv => whnf
  refine ⟨fun b1 => ?_, fun b1 => ?_⟩
  · conv => whnf
    exact ⟨[], _, _, _, rfl, rfl, rfl, RepLe.bl rfl, trivial⟩
  have hz : (applyF l x).2 = 0 := iEq_t.1 (notf b1)
  clear b1
  obtain ⟨hxo, hlo⟩ := apply_ok hz
  have hi : inverse x = (turnOf x, 0) := by unfold inverse; rw [if_pos hxo]
  conv => whnf
  refine ⟨fun b1 => ?_, fun b1 => ?_⟩
  · rw [hi] at b1; exact absurd rfl (iEq_f.1 (nott b1))
  clear b1
  conv => whnf
  refine CallK.lent (f313 l o hl ho) rfl ?_
  conv => whnf
  refine ⟨fun b2 => ?_, fun b2 => ?_⟩
  · conv => whnf
    exact ⟨[], _, _, _, rfl, rfl, rfl, RepLe.bl rfl, trivial⟩
  have hf : fitsOp l o = true := notf b2
  clear b2
  have hd := fits_small hf
  have hd2 := over_small (x := x) hd
  have ho2 : fitOp (overF x o).1 := over_fit ho
  have hy : fitLens (inverse x).1 := by rw [hi]; exact turnOf_fit hx
  have hyo : lensOk (inverse x).1 = true := by rw [hi]; exact turn_ok x hxo
  conv => whnf
  refine ⟨fun k3 => ?_, fun k3 => ?_⟩
  · have k3 : iEq o.kind 3 = false := nott k3
    cases k4 : iEq o.kind 4 with
    | false =>
      have hp : (!iEq o.kind 3 && !iEq o.kind 4) = true := by rw [k3, k4]; rfl
      have e := over_plain hxo hp
      have p1 : (!iEq o.kind 4) = true := by rw [k4]; rfl
      have p2 : (!(!iEq o.kind 4)) = false := by rw [k4]; rfl
      have c1 := f314 x o hx ho (Nat.le_trans hd (by decide))
      rw [e] at c1
      have c2 := f314 (inverse x).1 o hy ho (Nat.le_trans hd (by decide))
      rw [over_plain hyo hp] at c2
      conv => whnf
      refine CallK.go [] (c1) rfl rfl rfl rfl rfl ?_
      conv => whnf
      refine ⟨fun g1 => ?_, fun g1 => ?_⟩
      · cases g1
      clear g1
      conv => whnf
      refine ⟨fun h => Bool.noConfusion (p2.symm.trans h), fun _ => ?_⟩
      conv => whnf
      refine CallK.go [] (c2) rfl rfl rfl rfl rfl ?_
      conv => whnf
      refine ⟨fun _ => ?_, fun h => Bool.noConfusion (p1.symm.trans h)⟩
      conv => whnf
      refine ⟨fun g1 => ?_, fun g1 => ?_⟩
      · conv => whnf
        refine CallK.lent (f323 o o hdl) rfl ?_
        conv => whnf
        exact ⟨[], _, _, _, rfl, rfl, rfl, RepLe.vb (sameOp_self o), trivial⟩
      · cases g1
    | true =>
      have hp : (!iEq o.kind 3 && !iEq o.kind 4) = false := by rw [k3, k4]; rfl
      have p1 : (!iEq o.kind 4) = false := by rw [k4]; rfl
      have p2 : (!(!iEq o.kind 4)) = true := by rw [k4]; rfl
      have c31 := f31 (applyF l x).1 (overF x o).1.place hm.ok
      conv => whnf
      refine CallK.go [] (f314 x o hx ho (Nat.le_trans hd (by decide))) rfl rfl rfl rfl rfl ?_
      conv => whnf
      refine ⟨fun g1 => ?_, fun g1 => ?_⟩
      · have g1 : (overF x o).2 = false := nott g1
        have hnk : keptF x o.place = false := by
          cases t : keptF x o.place with
          | false => rfl
          | true => rw [(kept_law hz hf hp t).1] at g1; cases g1
        conv => whnf
        refine ⟨fun _ => ?_, fun h => Bool.noConfusion (p2.symm.trans h)⟩
        conv => whnf
        refine CallK.lent (f322 x o.place hx) rfl ?_
        conv => whnf
        exact ⟨[], _, _, _, rfl, rfl, rfl, RepLe.vb (by rw [hnk]; rfl), trivial⟩
      have g1 : (overF x o).2 = true := notf g1
      obtain ⟨j, hj⟩ := met_law hz hf hp g1
      obtain ⟨s1, s2, s3, s4⟩ := over_same g1
      rw [hj] at c31
      conv => whnf
      refine ⟨fun _ => ?_, fun h => Bool.noConfusion (p2.symm.trans h)⟩
      conv => whnf
      refine CallK.lent (c31) rfl ?_
      conv => whnf
      refine ⟨fun g2 => ?_, fun g2 => ?_⟩
      · exact absurd (iLt_t.1 g2) (show ¬ ((j : Nat) : Int) < 0 by omega)
      clear g2
      cases hk : keptF x o.place with
      | true =>
        have c2 := f314 (inverse x).1 (overF x o).1 hy ho2 hd2
        rw [show overF (inverse x).1 (overF x o).1 = (o, true) by rw [hi]; exact (kept_law hz hf hp hk).2] at c2
        have c322 := f322 x o.place hx
        rw [hk] at c322
        conv => whnf
        refine CallK.go [] (c2) rfl rfl rfl rfl rfl ?_
        conv => whnf
        refine ⟨fun h => Bool.noConfusion (p1.symm.trans h), fun _ => ?_⟩
        conv => whnf
        refine CallK.lent (c322) rfl ?_
        conv => whnf
        refine ⟨fun g2 => ?_, fun g2 => ?_⟩
        · conv => whnf
          refine ⟨fun g3 => ?_, fun g3 => ?_⟩
          · conv => whnf
            refine CallK.lent (f323 o o hdl) rfl ?_
            conv => whnf
            exact ⟨[], _, _, _, rfl, rfl, rfl, RepLe.vb (sameOp_self o), trivial⟩
          · cases g3
        · cases g2
      | false =>
        have c322 := f322 x o.place hx
        rw [hk] at c322
        conv => whnf
        refine CallK.go [] (f314 (inverse x).1 (overF x o).1 hy ho2 hd2) rfl rfl rfl rfl rfl ?_
        conv => whnf
        refine ⟨fun h => Bool.noConfusion (p1.symm.trans h), fun _ => ?_⟩
        conv => whnf
        refine CallK.lent (c322) rfl ?_
        conv => whnf
        refine ⟨fun g2 => ?_, fun g2 => ?_⟩
        · cases g2
        clear g2
        conv => whnf
        refine ⟨fun g3 => ?_, fun g3 => ?_⟩
        · conv => whnf
          exact ⟨[], _, _, _, rfl, rfl, rfl, RepLe.bl rfl, trivial⟩
        have g3 : (overF (inverse x).1 (overF x o).1).2 = true := notf g3
        obtain ⟨r1, r2, r3, r4⟩ := over_same g3
        conv => whnf
        refine ⟨fun g4 => ?_, fun g4 => ?_⟩
        · conv => whnf
          refine ⟨fun g5 => ?_, fun g5 => ?_⟩
          · conv => whnf
            exact ⟨[], _, _, _, rfl, rfl, rfl, RepLe.vb (by rw [r3, s3]; exact iEq_same _), trivial⟩
          · rw [r2, s2, iEq_same] at g5; cases g5
        · rw [r1, s1, iEq_same, iEq_same] at g4; cases g4
  have k3 : iEq o.kind 3 = true := notf k3
  have hp : (!iEq o.kind 3 && !iEq o.kind 4) = false := by rw [k3]; rfl
  have c31 := f31 (applyF l x).1 (overF x o).1.place hm.ok
  conv => whnf
  refine CallK.go [] (f314 x o hx ho (Nat.le_trans hd (by decide))) rfl rfl rfl rfl rfl ?_
  conv => whnf
  refine ⟨fun g1 => ?_, fun g1 => ?_⟩
  · have g1 : (overF x o).2 = false := nott g1
    have hnk : keptF x o.place = false := by
      cases t : keptF x o.place with
      | false => rfl
      | true => rw [(kept_law hz hf hp t).1] at g1; cases g1
    conv => whnf
    refine CallK.lent (f322 x o.place hx) rfl ?_
    conv => whnf
    exact ⟨[], _, _, _, rfl, rfl, rfl, RepLe.vb (by rw [hnk]; rfl), trivial⟩
  have g1 : (overF x o).2 = true := notf g1
  obtain ⟨j, hj⟩ := met_law hz hf hp g1
  obtain ⟨s1, s2, s3, s4⟩ := over_same g1
  rw [hj] at c31
  conv => whnf
  refine CallK.lent (c31) rfl ?_
  conv => whnf
  refine ⟨fun g2 => ?_, fun g2 => ?_⟩
  · exact absurd (iLt_t.1 g2) (show ¬ ((j : Nat) : Int) < 0 by omega)
  clear g2
  cases hk : keptF x o.place with
  | true =>
    have c2 := f314 (inverse x).1 (overF x o).1 hy ho2 hd2
    rw [show overF (inverse x).1 (overF x o).1 = (o, true) by rw [hi]; exact (kept_law hz hf hp hk).2] at c2
    have c322 := f322 x o.place hx
    rw [hk] at c322
    conv => whnf
    refine CallK.go [] (c2) rfl rfl rfl rfl rfl ?_
    conv => whnf
    refine CallK.lent (c322) rfl ?_
    conv => whnf
    refine ⟨fun g2 => ?_, fun g2 => ?_⟩
    · conv => whnf
      refine ⟨fun g3 => ?_, fun g3 => ?_⟩
      · conv => whnf
        refine CallK.lent (f323 o o hdl) rfl ?_
        conv => whnf
        exact ⟨[], _, _, _, rfl, rfl, rfl, RepLe.vb (sameOp_self o), trivial⟩
      · cases g3
    · cases g2
  | false =>
    have c322 := f322 x o.place hx
    rw [hk] at c322
    conv => whnf
    refine CallK.go [] (f314 (inverse x).1 (overF x o).1 hy ho2 hd2) rfl rfl rfl rfl rfl ?_
    conv => whnf
    refine CallK.lent (c322) rfl ?_
    conv => whnf
    refine ⟨fun g2 => ?_, fun g2 => ?_⟩
    · cases g2
    clear g2
    conv => whnf
    refine ⟨fun g3 => ?_, fun g3 => ?_⟩
    · conv => whnf
      exact ⟨[], _, _, _, rfl, rfl, rfl, RepLe.bl rfl, trivial⟩
    have g3 : (overF (inverse x).1 (overF x o).1).2 = true := notf g3
    obtain ⟨r1, r2, r3, r4⟩ := over_same g3
    conv => whnf
    refine ⟨fun g4 => ?_, fun g4 => ?_⟩
    · conv => whnf
      refine ⟨fun g5 => ?_, fun g5 => ?_⟩
      · conv => whnf
        exact ⟨[], _, _, _, rfl, rfl, rfl, RepLe.vb (by rw [r3, s3]; exact iEq_same _), trivial⟩
      · rw [r2, s2, iEq_same] at g5; cases g5
    · rw [r1, s1, iEq_same, iEq_same] at g4; cases g4
end Go.Proofs.YtalpbdabeffnlaaGreat
