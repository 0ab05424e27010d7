import Derived.Test.YtalpbdabeffnlaaGreatJoEB
import Derived.Test.YtalpbdabeffnlaaGreatJoEL
/- Entries of one scope over a lens: the reference's. -/
set_option linter.unusedVariables false
set_option linter.unusedSimpArgs false
namespace Go.Proofs.YtalpbdabeffnlaaGreat
open Go Go.Av Go.Fl
set_option maxRecDepth 100000
set_option maxHeartbeats 4000000

def stepR (x : SLens) (es : List SEntry) (f : SField) : SEntry × Bool :=
  match idxRef (comes2 x) f.place with
  | none => ((atF es f.place).1, true)
  | some k => comeR x f k es
def allR (x : SLens) (es : List SEntry) : List SField → List SEntry → List SEntry × Bool
  | [], acc => (acc, true)
  | f :: l, acc => if (stepR x es f).2 then allR x es l (acc ++ [(stepR x es f).1]) else ([], false)
def entriesR (x : SLens) (fields : List SField) (es : List SEntry) : List SEntry × Bool := allR x es fields []
def encEntB (p : List SEntry × Bool) : AV := .tup 2 (at_ (.p .any) [.p (encEntries p.1), .p (.val (.bool p.2))])
theorem entb_ret {a b : PV} {p : List SEntry × Bool} {l : List SEntry} {c : Bool} (h : p = (l, c)) (ha : PLe a (encEntries l)) (hb : PLe b (.val (.bool c))) : RepLe (.tup 2 (at_ (.p .any) [.p a, .p b])) (encEntB p) := by
  subst h; exact RepLe.tup2 (PLe.rep ha) (PLe.rep hb)
theorem comes2_len (x : SLens) : (comes2 x).length ≤ 2 := by
  unfold comes2
  cases iEq x.kind 2
  · cases iEq x.kind 3
    · cases iEq x.kind 6
      · cases iEq x.kind 1
        · cases iEq x.kind 4
          · cases iEq x.kind 5
            · exact (show 1 ≤ 2 by decide)
            · exact (show 1 ≤ 2 by decide)
          · exact (show 1 ≤ 2 by decide)
        · exact (show 1 ≤ 2 by decide)
      · exact (show 2 ≤ 2 by decide)
    · exact (show 0 ≤ 2 by decide)
  · exact (show 1 ≤ 2 by decide)
def er (fields : List SField) (es : List SEntry) (x : SLens) (p : Nat × List SEntry) : St :=
  told 59 [(1, .p (encFields fields)), (2, .p (encEntries es)), (3, .pt 0 0), (8, .sl 4096), (9, vI .i64 (p.1 : Int))] [(0, some (.box 42 ((lensCells x).map .p))), (4096, rowEntries p.2)] [0, 4096]
theorem f338 (x : SLens) (fields : List SField) (es : List SEntry) (hx : okLens x) (hl : fitFields fields) (he : fitEntries es)
    (hc : ∀ f ∈ fields, (idxRef (comes2 x) f.place).isSome = true → comeOkR x es) :
    PCall Tryz.prog 70 [encLens x, encFields fields, encEntries es] (encEntB (entriesR x fields es)) [] := by
  have hlen := hl.1
  have hcl := comes2_len x
  have hwf : fitEntry (g0 x es) := atF_fit he _
  refine gcode hT hM Tryz.func70 rfl rfl (rv := [(6, none), (7, none)]) rfl rfl rfl fun G hG => ?_
  conv => whnf
  refine AW.loop (X := Nat × List SEntry) (er fields es x) (fun p => p.1 ≤ fields.length ∧ p.2.length = p.1 ∧ entriesR x fields es = allR x es (fields.drop p.1) p.2) (fun p => fields.length - p.1) (used0 hG _) (0, []) ⟨Nat.zero_le _, rfl, rfl⟩ (show StLe _ (er fields es x (0, [])) from stle ⟨RepLe.refl _, RepLe.refl _, RepLe.refl _, RepLe.refl _, RepLe.refl _, trivial⟩ ⟨⟨_, rfl, BlkLe.refl _⟩, ⟨_, rfl, BlkLe.rowLe rfl (fun a b ha hb => absurd ha (Nat.not_lt_zero _))⟩, trivial⟩ rfl) ?_
  rintro ⟨j, acc⟩ ⟨hj, hal, hr⟩
  have hj : j ≤ fields.length := hj
  have hal : acc.length = j := hal
  have hr : entriesR x fields es = allR x es (fields.drop j) acc := hr
  refine codeK_aw hT hM _ _ _ ?_
  conv => whnf
  refine ⟨fun h5 => ?_, fun h5 => ?_⟩
  · have hlt : j < fields.length := by rw [iLt_t] at h5; omega
    have hmem : fields.getD j noField ∈ fields := by rw [List.getD_eq_getElem?_getD, List.getElem?_eq_getElem hlt]; exact List.getElem_mem hlt
    rw [drop_head fields noField hlt] at hr
    have hcf := hc _ hmem
    have hstep : stepR x es (fields.getD j noField) = match idxRef (comes2 x) (fields.getD j noField).place with | none => ((atF es (fields.getD j noField).place).1, true) | some k => comeR x (fields.getD j noField) k es := rfl
    have hr : entriesR x fields es = if (stepR x es (fields.getD j noField)).2 then allR x es (fields.drop (j + 1)) (acc ++ [(stepR x es (fields.getD j noField)).1]) else ([], false) := hr
    conv => whnf
    refine CallK.go [] (f60 x) rfl rfl rfl rfl rfl ?_
    conv => whnf
    refine ⟨by omega, ?_⟩
    conv => whnf
    refine CallK.lent (f356 (comes2 x) (fields.getD j noField).place (Nat.le_trans hcl (by decide))) rfl ?_
    conv => whnf
    refine ⟨rfl, ?_⟩
    conv => whnf
    refine ⟨by omega, ?_⟩
    conv => whnf
    refine CallK.go [] (f357 es (fields.getD j noField).place he) rfl rfl rfl rfl rfl ?_
    conv => whnf
    refine ⟨fun n1 => ?_, fun n1 => ?_⟩
    · obtain ⟨k, hk⟩ : ∃ k, idxRef (comes2 x) (fields.getD j noField).place = some k := by
        cases q : idxRef (comes2 x) (fields.getD j noField).place with
        | some k => exact ⟨k, rfl⟩
        | none =>
          rw [q] at n1
          exact absurd (iLe_t.1 n1) (show ¬ (0 : Int) ≤ -1 by decide)
      rw [hk] at hstep
      have hstep : stepR x es (fields.getD j noField) = comeR x (fields.getD j noField) ((k : Nat) : Int) es := hstep
      have hcf := hcf (by rw [hk]; rfl)
      rw [hstep] at hr
      have c358 := f358 x (fields.getD j noField) (posOf (idxRef (comes2 x) (fields.getD j noField).place)) es hx he hcf hwf
      rw [show comeR x (fields.getD j noField) (posOf (idxRef (comes2 x) (fields.getD j noField).place)) es = comeR x (fields.getD j noField) ((k : Nat) : Int) es by rw [hk]; rfl] at c358
      conv => whnf
      refine ⟨by omega, ?_⟩
      conv => whnf
      refine CallK.go [] (c358) rfl rfl rfl rfl rfl ?_
      conv => whnf
      refine ⟨rfl, ?_⟩
      conv => whnf
      refine ⟨fun n2 => ?_, fun n2 => ?_⟩
      · have n2 : (comeR x (fields.getD j noField) ((k : Nat) : Int) es).2 = false := nott n2
        rw [n2] at hr
        have hr : entriesR x fields es = ([], false) := hr
        conv => whnf
        exact ⟨[], _, _, _, rfl, rfl, rfl, entb_ret (l := []) hr nil_entries (PLe.bool _), trivial⟩
      have n2 : (comeR x (fields.getD j noField) ((k : Nat) : Int) es).2 = true := notf n2
      rw [n2] at hr
      conv => whnf
      refine ⟨⟨show acc.length + 1 ≤ 9223372036854775807 by omega, show (acc.length + 1) * 72 ≤ 140737488355328 by omega⟩, ?_⟩
      conv => whnf
      intro z hz
      have hy := wrap64_eq hz (by omega) (by omega)
      clear hz
      subst hy
      conv => whnf
      exact ⟨(j + 1, acc ++ [(comeR x (fields.getD j noField) ((k : Nat) : Int) es).1]), ⟨(show j + 1 ≤ _ from hlt), (by simp [hal]), hr⟩, (show fields.length - (j + 1) < fields.length - j by omega), (show StLe _ (er fields es x (j + 1, acc ++ [(comeR x (fields.getD j noField) ((k : Nat) : Int) es).1])) from stleR [(4096, 49176)] ⟨RepLe.refl _, RepLe.refl _, RepLe.refl _, RepLe.refl _, RepLe.of rfl, trivial⟩ ⟨⟨_, rfl, BlkLe.refl _⟩, ⟨_, rfl, rowSnoc5 (five (PLe.refl _) (PLe.refl _) (PLe.refl _) (PLe.refl _) (PLe.refl _)) rfl⟩, trivial⟩ rfl)⟩
    have hnone : idxRef (comes2 x) (fields.getD j noField).place = none := by
      cases q : idxRef (comes2 x) (fields.getD j noField).place with
      | none => rfl
      | some k =>
        rw [q] at n1
        exact absurd (iLe_f.1 n1) (show ¬ ((k : Nat) : Int) < 0 by omega)
    rw [hnone] at hstep
    have hstep : stepR x es (fields.getD j noField) = ((atF es (fields.getD j noField).place).1, true) := hstep
    rw [hstep] at hr
    have hr : entriesR x fields es = allR x es (fields.drop (j + 1)) (acc ++ [(atF es (fields.getD j noField).place).1]) := hr
    conv => whnf
    refine ⟨⟨show acc.length + 1 ≤ 9223372036854775807 by omega, show (acc.length + 1) * 72 ≤ 140737488355328 by omega⟩, ?_⟩
    conv => whnf
    intro z hz
    have hy := wrap64_eq hz (by omega) (by omega)
    clear hz
    subst hy
    conv => whnf
    exact ⟨(j + 1, acc ++ [(atF es (fields.getD j noField).place).1]), ⟨(show j + 1 ≤ _ from hlt), (by simp [hal]), hr⟩, (show fields.length - (j + 1) < fields.length - j by omega), (show StLe _ (er fields es x (j + 1, acc ++ [(atF es (fields.getD j noField).place).1])) from stleR [(4096, 49176)] ⟨RepLe.refl _, RepLe.refl _, RepLe.refl _, RepLe.refl _, RepLe.of rfl, trivial⟩ ⟨⟨_, rfl, BlkLe.refl _⟩, ⟨_, rfl, rowSnoc5 (five (PLe.refl _) (PLe.refl _) (PLe.refl _) (PLe.refl _) (PLe.refl _)) rfl⟩, trivial⟩ rfl)⟩
  have hz : j = fields.length := by rw [iLt_f] at h5; omega
  rw [hz, List.drop_length] at hr
  conv => whnf
  exact ⟨[], _, _, _, rfl, rfl, rfl, entb_ret (l := acc) (by rw [hr]; rfl) (PLe.refl _) (PLe.bool _), trivial⟩
end Go.Proofs.YtalpbdabeffnlaaGreat

/- Documents: whether they are right. -/
set_option linter.unusedVariables false
set_option linter.unusedSimpArgs false
namespace Go.Proofs.YtalpbdabeffnlaaGreat
open Go Go.Av
set_option maxRecDepth 100000
set_option maxHeartbeats 4000000

theorem f382 (f : SField) (s : ByteArray) (hf : okField f) : PCall Tryz.prog 184 [encField f, .val (.string s)] (.p (.val (.bool (fitsText f s)))) [] := by
  have e4 : iLt (s.size : Int) 41 = textOk s := by unfold textOk; rw [Bool.eq_iff_iff, iLe_t, iLt_t]; omega
  refine gcode hT hM Tryz.func184 rfl rfl (rv := [(4, none)]) rfl rfl rfl fun G hG => ?_
  conv => whnf
  refine CallK.lent (f85 f hf) rfl ?_
  conv => whnf
  refine ⟨fun h1 => ?_, fun h1 => ?_⟩
  · have h1 := nott h1
    conv => whnf
    exact ⟨[], _, _, _, rfl, rfl, rfl, RepLe.bl (by unfold fitsText; rw [h1]; rfl), trivial⟩
  have h1 := notf h1
  conv => whnf
  refine ⟨fun k1 => ?_, fun k1 => ?_⟩
  · have k2 : iEq f.kind 2 = false := iEq_ne 2 k1 (by decide)
    have k3 : iEq f.kind 3 = false := iEq_ne 3 k1 (by decide)
    have k4 : iEq f.kind 4 = false := iEq_ne 4 k1 (by decide)
    conv => whnf
    exact ⟨[], _, _, _, rfl, rfl, rfl, RepLe.bl (by unfold fitsText; rw [h1, k2, k3, k4]; rfl), trivial⟩
  conv => whnf
  refine ⟨fun k3 => ?_, fun k3 => ?_⟩
  · have k2 : iEq f.kind 2 = false := iEq_ne 2 k3 (by decide)
    have k4 : iEq f.kind 4 = false := iEq_ne 4 k3 (by decide)
    conv => whnf
    refine CallK.lent (f124 f.cases s hf) rfl ?_
    conv => whnf
    exact ⟨[], _, _, _, rfl, rfl, rfl, RepLe.vb (by unfold fitsText; rw [h1, k2, k4, k3]; rfl), trivial⟩
  have k24 : (iEq f.kind 2 || iEq f.kind 4) = true := by
    unfold fieldOk at h1
    rw [k1, k3] at h1
    cases k2 : iEq f.kind 2 with
    | true => rfl
    | false =>
      cases k4 : iEq f.kind 4 with
      | true => rfl
      | false => rw [k2, k4] at h1; simp at h1
  conv => whnf
  exact ⟨[], _, _, _, rfl, rfl, rfl, RepLe.vb (by unfold fitsText; rw [h1, k24, ← e4]; rfl), trivial⟩
/-- Is an entry right for a field? -/
def fitsEntry (f : SField) (e : SEntry) : Bool :=
  fieldOk f && (sameRef e.place f.place && (if iEq f.kind 1 then iLe (-4503599627370496) e.n && (iLe e.n 4503599627370496 && iEq (e.texts.length : Int) 0)
    else iEq e.n 0 && ((iEq f.kind 4 || iEq (e.texts.length : Int) 1) && (!iLt 400 (e.texts.length : Int) && allUpto (fun i => fitsText f (e.texts.getD i noS)) e.texts.length 0))))
def ptField (f : SField) : PV := .rp 7 (at_ .any (fieldCells f))
theorem f378 (f : SField) (s : ByteArray) (hf : okField f) : PCall Tryz.prog 168 [.val (.string s), ptField f] (.p (.val (.bool (!fitsText f s)))) [] := by
  refine gcode hT hM Tryz.func168 rfl rfl (rv := [(3, none)]) rfl rfl rfl fun G hG => ?_
  conv => whnf
  refine CallK.lent (f328 f s hf) rfl ?_
  conv => whnf
  exact ⟨[], _, _, _, rfl, rfl, rfl, RepLe.refl _, trivial⟩
def noFit (f : SField) (l : List ByteArray) : Option Nat := findUpto (fun i => !fitsText f (l.getD i noS)) l.length 0
theorem f383 (l : List ByteArray) (f : SField) (hl : l.length ≤ 8796093022208) (hf : okField f) : PCall Tryz.prog 185 [encStrs l, .fn 168 1 (at_ .any [ptField f])] (.p (.val (.int .i64 (posOf (noFit f l))))) [] := by
  refine gcode hT hM Tryz.func185 rfl rfl (rv := [(4, none)]) rfl rfl rfl fun G hG => ?_
  conv => whnf
  refine AW.loop (X := Nat) (fun i => told 19 [(0, .p (encStrs l)), (1, .p (.fn 168 1 (at_ .any [ptField f]))), (7, vI .i64 (l.length : Int)), (8, vI .i64 (i : Int))] [] []) (fun i => i ≤ l.length ∧ noFit f l = findUpto (fun i => !fitsText f (l.getD i noS)) (l.length - i) i) (fun i => l.length - i) (used0 hG _) 0 ⟨by omega, rfl⟩ (stle ⟨RepLe.refl _, RepLe.refl _, RepLe.refl _, RepLe.refl _, trivial⟩ trivial rfl) ?_
  rintro i ⟨hi, hr⟩
  refine codeK_aw hT hM _ _ _ ?_
  conv => whnf
  refine ⟨fun h4 => ?_, fun h4 => ?_⟩
  · have hlt : i < l.length := by rw [iLt_t] at h4; omega
    rw [findUpto_step _ hlt] at hr
    conv => whnf
    refine ⟨by omega, ?_⟩
    conv => whnf
    refine CallK.lent (f378 f (l.getD i noS) hf) rfl ?_
    conv => whnf
    refine ⟨fun h5 => ?_, fun h5 => ?_⟩
    · have h5 : (!fitsText f (l.getD i noS)) = true := h5
      rw [h5] at hr
      conv => whnf
      exact ⟨[], _, _, _, rfl, rfl, rfl, RepLe.vi (by rw [hr]; rfl), trivial⟩
    have h5 : (!fitsText f (l.getD i noS)) = false := h5
    rw [h5] at hr
    conv => whnf
    intro z hz
    have hy := wrap64_eq hz (by omega) (by omega)
    clear hz
    subst hy
    conv => whnf
    exact ⟨i + 1, ⟨by omega, hr⟩, by omega, stle ⟨RepLe.refl _, RepLe.refl _, RepLe.refl _, RepLe.of rfl, trivial⟩ trivial rfl⟩
  have hge : i = l.length := by rw [iLt_f] at h4; omega
  subst hge
  rw [Nat.sub_self] at hr
  conv => whnf
  exact ⟨[], _, _, _, rfl, rfl, rfl, RepLe.vi (by rw [hr]; rfl), trivial⟩
theorem f377 (l : List ByteArray) (f : SField) (hl : l.length ≤ 8796093022208) (hf : okField f) : PCall Tryz.prog 167 [encStrs l, .fn 168 1 (at_ .any [ptField f])] (.p (.val (.bool (iLe 0 (posOf (noFit f l)))))) [] := by
  refine gcode hT hM Tryz.func167 rfl rfl (rv := [(4, none)]) rfl rfl rfl fun G hG => ?_
  conv => whnf
  refine CallK.lent (f383 l f hl hf) rfl ?_
  conv => whnf
  exact ⟨[], _, _, _, rfl, rfl, rfl, RepLe.refl _, trivial⟩
theorem noFit_all (f : SField) (l : List ByteArray) : (!iLe 0 (posOf (noFit f l))) = allUpto (fun i => fitsText f (l.getD i noS)) l.length 0 := by
  rw [Bool.eq_iff_iff, allUpto_iff]
  cases q : noFit f l with
  | none =>
    rw [posOf_none]
    refine ⟨fun _ j _ hj => ?_, fun _ => rfl⟩
    have := findUpto_none _ _ _ q j (Nat.zero_le _) (by omega)
    simpa using this
  | some i =>
    rw [posOf_has]
    obtain ⟨_, hi, hp, _⟩ := findUpto_some _ _ _ _ q
    refine ⟨fun h => (by cases h), fun h => ?_⟩
    have := h i (Nat.zero_le _) (by omega)
    rw [this] at hp; cases hp
theorem f360 (f : SField) (e : SEntry) (hf : okField f) (he : fitEntry e) : PCall Tryz.prog 135 [encField f, encEntry e] (.p (.val (.bool (fitsEntry f e)))) [] := by
  have hel : e.texts.length ≤ 8796093022208 := he
  refine gcode hT hM Tryz.func135 rfl rfl (rv := [(4, none)]) rfl rfl rfl fun G hG => ?_
  conv => whnf
  refine CallK.lent (f71 f hf) rfl ?_
  conv => whnf
  refine ⟨fun a1 => ?_, fun a1 => ?_⟩
  · have a1 := nott a1
    conv => whnf
    exact ⟨[], _, _, _, rfl, rfl, rfl, RepLe.bl (by unfold fitsEntry; rw [a1]; rfl), trivial⟩
  have a1 := notf a1
  conv => whnf
  refine ⟨fun a2 => ?_, fun a2 => ?_⟩
  · have a2 : sameRef e.place f.place = false := by unfold sameRef; have := nott a2; simpa using this
    conv => whnf
    exact ⟨[], _, _, _, rfl, rfl, rfl, RepLe.bl (by unfold fitsEntry; rw [a1, a2]; rfl), trivial⟩
  have a2 : sameRef e.place f.place = true := by unfold sameRef; have := notf a2; simpa using this
  have base : fitsEntry f e = (if iEq f.kind 1 then iLe (-4503599627370496) e.n && (iLe e.n 4503599627370496 && iEq (e.texts.length : Int) 0)
    else iEq e.n 0 && ((iEq f.kind 4 || iEq (e.texts.length : Int) 1) && (!iLt 400 (e.texts.length : Int) && allUpto (fun i => fitsText f (e.texts.getD i noS)) e.texts.length 0))) := by unfold fitsEntry; rw [a1, a2]; rfl
  conv => whnf
  refine ⟨fun k1 => ?_, fun k1 => ?_⟩
  · conv => whnf
    refine ⟨fun b1 => ?_, fun b1 => ?_⟩
    · conv => whnf
      refine ⟨fun b2 => ?_, fun b2 => ?_⟩
      · conv => whnf
        exact ⟨[], _, _, _, rfl, rfl, rfl, RepLe.vb (by rw [base, k1, b1, b2]; rfl), trivial⟩
      conv => whnf
      exact ⟨[], _, _, _, rfl, rfl, rfl, RepLe.bl (by rw [base, k1, b1, b2]; rfl), trivial⟩
    conv => whnf
    exact ⟨[], _, _, _, rfl, rfl, rfl, RepLe.bl (by rw [base, k1, b1]; rfl), trivial⟩
  conv => whnf
  refine ⟨fun b1 => ?_, fun b1 => ?_⟩
  · have b1 := nott b1
    conv => whnf
    exact ⟨[], _, _, _, rfl, rfl, rfl, RepLe.bl (by rw [base, k1, b1]; rfl), trivial⟩
  have b1 := notf b1
  have last : iLt 400 (e.texts.length : Int) = false → (iEq f.kind 4 || iEq (e.texts.length : Int) 1) = true → fitsEntry f e = !iLe 0 (posOf (noFit f e.texts)) := fun x y => by rw [base, k1, b1, x, y, noFit_all]; rfl
  conv => whnf
  refine ⟨fun k4 => ?_, fun k4 => ?_⟩
  · have k4 : iEq f.kind 4 = false := nott k4
    conv => whnf
    refine ⟨fun b2 => ?_, fun b2 => ?_⟩
    · have b2 := nott b2
      conv => whnf
      exact ⟨[], _, _, _, rfl, rfl, rfl, RepLe.bl (by rw [base, k1, b1, k4, b2]; rfl), trivial⟩
    have b2 := notf b2
    conv => whnf
    refine ⟨fun b3 => ?_, fun b3 => ?_⟩
    · conv => whnf
      exact ⟨[], _, _, _, rfl, rfl, rfl, RepLe.bl (by rw [base, k1, b1, k4, b2, b3]; rfl), trivial⟩
    conv => whnf
    refine CallK.lent (f377 e.texts f hel hf) rfl ?_
    conv => whnf
    exact ⟨[], _, _, _, rfl, rfl, rfl, RepLe.vb (by rw [last b3 (by rw [k4, b2]; rfl)]), trivial⟩
  have k4 : iEq f.kind 4 = true := notf k4
  conv => whnf
  refine ⟨fun b3 => ?_, fun b3 => ?_⟩
  · conv => whnf
    exact ⟨[], _, _, _, rfl, rfl, rfl, RepLe.bl (by rw [base, k1, b1, k4, b3]; rfl), trivial⟩
  conv => whnf
  refine CallK.lent (f377 e.texts f hel hf) rfl ?_
  conv => whnf
  exact ⟨[], _, _, _, rfl, rfl, rfl, RepLe.vb (by rw [last b3 (by rw [k4]; rfl)]), trivial⟩
end Go.Proofs.YtalpbdabeffnlaaGreat

/- Documents: whether they are right. -/
set_option linter.unusedVariables false
set_option linter.unusedSimpArgs false
namespace Go.Proofs.YtalpbdabeffnlaaGreat
open Go Go.Av
set_option maxRecDepth 100000
set_option maxHeartbeats 4000000

theorem f374 (f : SField) (e : SEntry) (hf : okField f) (he : fitEntry e) : PCall Tryz.prog 164 [encField f, encEntry e] (.p (.val (.bool (fitsEntry f e)))) [] := by
  have hel : e.texts.length ≤ 8796093022208 := he
  have e1 : iLt (-4503599627370497) e.n = iLe (-4503599627370496) e.n := by rw [Bool.eq_iff_iff, iLt_t, iLe_t]; omega
  have e2 : iLt e.n 4503599627370497 = iLe e.n 4503599627370496 := by rw [Bool.eq_iff_iff, iLt_t, iLe_t]; omega
  refine gcode hT hM Tryz.func164 rfl rfl (rv := [(4, none)]) rfl rfl rfl fun G hG => ?_
  conv => whnf
  refine CallK.lent (f85 f hf) rfl ?_
  conv => whnf
  refine ⟨fun a1 => ?_, fun a1 => ?_⟩
  · have a1 := nott a1
    conv => whnf
    exact ⟨[], _, _, _, rfl, rfl, rfl, RepLe.bl (by unfold fitsEntry; rw [a1]; rfl), trivial⟩
  have a1 := notf a1
  conv => whnf
  refine ⟨fun a2 => ?_, fun a2 => ?_⟩
  · have a2 : sameRef e.place f.place = false := by unfold sameRef; have := nott a2; simpa using this
    conv => whnf
    exact ⟨[], _, _, _, rfl, rfl, rfl, RepLe.bl (by unfold fitsEntry; rw [a1, a2]; rfl), trivial⟩
  have a2 : sameRef e.place f.place = true := by unfold sameRef; have := notf a2; simpa using this
  have base : fitsEntry f e = (if iEq f.kind 1 then iLe (-4503599627370496) e.n && (iLe e.n 4503599627370496 && iEq (e.texts.length : Int) 0)
    else iEq e.n 0 && ((iEq f.kind 4 || iEq (e.texts.length : Int) 1) && (!iLt 400 (e.texts.length : Int) && allUpto (fun i => fitsText f (e.texts.getD i noS)) e.texts.length 0))) := by unfold fitsEntry; rw [a1, a2]; rfl
  conv => whnf
  refine ⟨fun k1 => ?_, fun k1 => ?_⟩
  · rw [k1, if_pos rfl, ← e1, ← e2] at base
    conv => whnf
    refine ⟨fun b1 => ?_, fun b1 => ?_⟩
    · conv => whnf
      refine ⟨fun b2 => ?_, fun b2 => ?_⟩
      · conv => whnf
        exact ⟨[], _, _, _, rfl, rfl, rfl, RepLe.vb (by rw [base, b1, b2]; rfl), trivial⟩
      conv => whnf
      exact ⟨[], _, _, _, rfl, rfl, rfl, RepLe.bl (by rw [base, b1, b2]; rfl), trivial⟩
    conv => whnf
    exact ⟨[], _, _, _, rfl, rfl, rfl, RepLe.bl (by rw [base, b1]; rfl), trivial⟩
  have k1 : iEq f.kind 1 = false := k1
  rw [k1] at base
  have base : fitsEntry f e = (iEq e.n 0 && ((iEq f.kind 4 || iEq (e.texts.length : Int) 1) && (!iLt 400 (e.texts.length : Int) && allUpto (fun i => fitsText f (e.texts.getD i noS)) e.texts.length 0))) := base
  have main : iLt 400 (e.texts.length : Int) = false → (iEq f.kind 4 || iEq (e.texts.length : Int) 1) = true → fitsEntry f e = (iEq e.n 0 && allUpto (fun i => fitsText f (e.texts.getD i noS)) e.texts.length 0) := fun x y => by rw [base, x, y]; rfl
  conv => whnf
  refine ⟨fun k4 => ?_, fun k4 => ?_⟩
  · conv => whnf
    refine ⟨fun b3 => ?_, fun b3 => ?_⟩
    · conv => whnf
      exact ⟨[], _, _, _, rfl, rfl, rfl, RepLe.bl (by rw [base, k4, b3]; simp), trivial⟩
    have hm := main b3 (by rw [k4]; rfl)
    have k5 : (!iEq f.kind 4) = false := by rw [k4]; rfl
    conv => whnf
    refine ⟨fun h => Bool.noConfusion (k5.symm.trans h), fun _ => ?_⟩
    conv => whnf
    refine AW.loop (X := Nat) (fun i => told 71 [(2, .pt 0 0), (3, .pt 8 0), (5, vI .i64 (i : Int))] [(0, some (.box 39 ((fieldCells f).map .p))), (8, some (.box 101 ((entryCells e).map .p)))] [0, 8]) (fun i => i ≤ e.texts.length ∧ fitsEntry f e = (iEq e.n 0 && allUpto (fun i => fitsText f (e.texts.getD i noS)) (e.texts.length - i) i)) (fun i => e.texts.length - i) (used0 hG _) 0 ⟨by omega, hm⟩ (stle ⟨RepLe.refl _, RepLe.refl _, RepLe.refl _, trivial⟩ ⟨⟨_, rfl, BlkLe.refl _⟩, ⟨_, rfl, BlkLe.refl _⟩, trivial⟩ rfl) ?_
    rintro i ⟨hi, hr⟩
    refine codeK_aw hT hM _ _ _ ?_
    conv => whnf
    refine ⟨fun h4 => ?_, fun h4 => ?_⟩
    · have hlt : i < e.texts.length := by rw [iLt_t] at h4; omega
      rw [allUpto_step _ hlt] at hr
      conv => whnf
      refine ⟨by omega, ?_⟩
      conv => whnf
      refine CallK.lent (f382 f (e.texts.getD i noS) hf) rfl ?_
      conv => whnf
      refine ⟨rfl, ?_⟩
      conv => whnf
      refine ⟨fun h5 => ?_, fun h5 => ?_⟩
      · have h5 := nott h5
        conv => whnf
        exact ⟨[], _, _, _, rfl, rfl, rfl, RepLe.bl (by rw [hr, h5]; simp), trivial⟩
      have h5 := notf h5
      rw [h5] at hr
      conv => whnf
      intro z hz
      have hy := wrap64_eq hz (by omega) (by omega)
      clear hz
      subst hy
      conv => whnf
      exact ⟨i + 1, ⟨by omega, hr⟩, by omega, stle ⟨RepLe.refl _, RepLe.refl _, RepLe.of rfl, trivial⟩ ⟨⟨_, rfl, BlkLe.refl _⟩, ⟨_, rfl, BlkLe.refl _⟩, trivial⟩ rfl⟩
    have hge : i = e.texts.length := by rw [iLt_f] at h4; omega
    subst hge
    conv => whnf
    exact ⟨[], _, _, _, rfl, rfl, rfl, RepLe.vb (by rw [hr, allUpto_end, Bool.and_true]), trivial⟩
  have k4 : iEq f.kind 4 = false := k4
  have k5 : (!iEq f.kind 4) = true := by rw [k4]; rfl
  conv => whnf
  refine ⟨fun _ => ?_, fun h => Bool.noConfusion (k5.symm.trans h)⟩
  conv => whnf
  refine ⟨fun b2 => ?_, fun b2 => ?_⟩
  · have b2 := nott b2
    conv => whnf
    exact ⟨[], _, _, _, rfl, rfl, rfl, RepLe.bl (by rw [base, k4, b2]; simp), trivial⟩
  have b2 := notf b2
  have hlen1 : e.texts.length = 1 := by have := iEq_t.1 b2; omega
  have hm := main (by rw [hlen1]; exact iLt_f.2 (by decide)) (by rw [k4, b2]; rfl)
  conv => whnf
  refine AW.loop (X := Nat) (fun i => told 71 [(2, .pt 0 0), (3, .pt 8 0), (5, vI .i64 (i : Int))] [(0, some (.box 39 ((fieldCells f).map .p))), (8, some (.box 101 ((entryCells e).map .p)))] [0, 8]) (fun i => i ≤ e.texts.length ∧ fitsEntry f e = (iEq e.n 0 && allUpto (fun i => fitsText f (e.texts.getD i noS)) (e.texts.length - i) i)) (fun i => e.texts.length - i) (used0 hG _) 0 ⟨by omega, hm⟩ (stle ⟨RepLe.refl _, RepLe.refl _, RepLe.refl _, trivial⟩ ⟨⟨_, rfl, BlkLe.refl _⟩, ⟨_, rfl, BlkLe.refl _⟩, trivial⟩ rfl) ?_
  rintro i ⟨hi, hr⟩
  refine codeK_aw hT hM _ _ _ ?_
  conv => whnf
  refine ⟨fun h4 => ?_, fun h4 => ?_⟩
  · have hlt : i < e.texts.length := by rw [iLt_t] at h4; omega
    rw [allUpto_step _ hlt] at hr
    conv => whnf
    refine ⟨by omega, ?_⟩
    conv => whnf
    refine CallK.lent (f382 f (e.texts.getD i noS) hf) rfl ?_
    conv => whnf
    refine ⟨rfl, ?_⟩
    conv => whnf
    refine ⟨fun h5 => ?_, fun h5 => ?_⟩
    · have h5 := nott h5
      conv => whnf
      exact ⟨[], _, _, _, rfl, rfl, rfl, RepLe.bl (by rw [hr, h5]; simp), trivial⟩
    have h5 := notf h5
    rw [h5] at hr
    conv => whnf
    intro z hz
    have hy := wrap64_eq hz (by omega) (by omega)
    clear hz
    subst hy
    conv => whnf
    exact ⟨i + 1, ⟨by omega, hr⟩, by omega, stle ⟨RepLe.refl _, RepLe.refl _, RepLe.of rfl, trivial⟩ ⟨⟨_, rfl, BlkLe.refl _⟩, ⟨_, rfl, BlkLe.refl _⟩, trivial⟩ rfl⟩
  have hge : i = e.texts.length := by rw [iLt_f] at h4; omega
  subst hge
  conv => whnf
  exact ⟨[], _, _, _, rfl, rfl, rfl, RepLe.vb (by rw [hr, allUpto_end, Bool.and_true]), trivial⟩
def entriesOk (l : List SField) (es : List SEntry) : Bool := decide (l.length = es.length) && allUpto (fun i => fitsEntry (l.getD i noField) (es.getD i noEntry)) l.length 0
theorem f359 (l : List SField) (es : List SEntry) (hl : okFields l) (he : fitEntries es) : PCall Tryz.prog 134 [encFields l, encEntries es, .fn 135 0 (fun _ => .any)] (.p (.val (.bool (entriesOk l es)))) [] := by
  have hlen : es.length ≤ 1954687338211 := he.1
  refine gcode hT hM Tryz.func134 rfl rfl (rv := [(6, none)]) rfl rfl rfl fun G hG => ?_
  conv => whnf
  refine ⟨fun h => ?_, fun h => ?_⟩
  · conv => whnf
    exact ⟨[], _, _, _, rfl, rfl, rfl, RepLe.bl (by simp [iEq_f] at h; simp [entriesOk]; omega), trivial⟩
  conv => whnf
  have heq : l.length = es.length := by simp [iEq_t] at h; omega
  refine AW.loop (X := Nat) (fun i => told 32 [(1, .p (encEntries es)), (2, .p (.fn 135 0 (fun _ => .any))), (15, .p (encFields l)), (16, vI .i64 (l.length : Int)), (17, vI .i64 (i : Int))] [] []) (fun i => i ≤ l.length ∧ entriesOk l es = allUpto (fun i => fitsEntry (l.getD i noField) (es.getD i noEntry)) (l.length - i) i) (fun i => l.length - i) (used0 hG _) 0 ⟨by omega, by simp [entriesOk, heq]⟩ (stle ⟨RepLe.refl _, RepLe.refl _, RepLe.refl _, RepLe.refl _, RepLe.refl _, trivial⟩ trivial rfl) ?_
  rintro i ⟨hi, hr⟩
  refine codeK_aw hT hM _ _ _ ?_
  conv => whnf
  refine ⟨fun h4 => ?_, fun h4 => ?_⟩
  · have hlt : i < l.length := by rw [iLt_t] at h4; omega
    rw [allUpto_step _ hlt] at hr
    conv => whnf
    refine ⟨by omega, ?_⟩
    conv => whnf
    refine ⟨by omega, ?_⟩
    conv => whnf
    refine CallK.lent (f360 (l.getD i noField) (es.getD i noEntry) (hl.at i) (he.at i)) rfl ?_
    conv => whnf
    refine ⟨fun h5 => ?_, fun h5 => ?_⟩
    · have h5 := nott h5
      conv => whnf
      exact ⟨[], _, _, _, rfl, rfl, rfl, RepLe.bl (by rw [hr, h5]; rfl), trivial⟩
    have h5 := notf h5
    rw [h5] at hr
    conv => whnf
    intro z hz
    have hy := wrap64_eq hz (by omega) (by omega)
    clear hz
    subst hy
    conv => whnf
    exact ⟨i + 1, ⟨by omega, hr⟩, by omega, stle ⟨RepLe.refl _, RepLe.refl _, RepLe.refl _, RepLe.refl _, RepLe.of rfl, trivial⟩ trivial rfl⟩
  have hge : i = l.length := by rw [iLt_f] at h4; omega
  subst hge
  conv => whnf
  exact ⟨[], _, _, _, rfl, rfl, rfl, RepLe.bl (by rw [hr, allUpto_end]), trivial⟩
theorem f340 (l : List SField) (es : List SEntry) (hl : okFields l) (he : fitEntries es) : PCall Tryz.prog 73 [encFields l, encEntries es] (.p (.val (.bool (entriesOk l es)))) [] := by
  refine gcode hT hM Tryz.func73 rfl rfl (rv := [(4, none)]) rfl rfl rfl fun G hG => ?_
  conv => whnf
  refine CallK.lent (f359 l es hl he) rfl ?_
  conv => whnf
  exact ⟨[], _, _, _, rfl, rfl, rfl, RepLe.refl _, trivial⟩
theorem f355 (l : List SField) (es : List SEntry) (hl : okFields l) (he : fitEntries es) : PCall Tryz.prog 130 [encFields l, encEntries es] (.p (.val (.bool (entriesOk l es)))) [] := by
  have hlen : es.length ≤ 1954687338211 := he.1
  refine gcode hT hM Tryz.func130 rfl rfl (rv := [(4, none)]) rfl rfl rfl fun G hG => ?_
  conv => whnf
  refine ⟨fun h => ?_, fun h => ?_⟩
  · conv => whnf
    exact ⟨[], _, _, _, rfl, rfl, rfl, RepLe.bl (by simp [iEq_f] at h; simp [entriesOk]; omega), trivial⟩
  conv => whnf
  have heq : l.length = es.length := by simp [iEq_t] at h; omega
  refine AW.loop (X := Nat) (fun i => told 27 [(0, .p (encFields l)), (1, .p (encEntries es)), (5, vI .i64 (i : Int))] [] []) (fun i => i ≤ l.length ∧ entriesOk l es = allUpto (fun i => fitsEntry (l.getD i noField) (es.getD i noEntry)) (l.length - i) i) (fun i => l.length - i) (used0 hG _) 0 ⟨by omega, by simp [entriesOk, heq]⟩ (stle ⟨RepLe.refl _, RepLe.refl _, RepLe.refl _, trivial⟩ trivial rfl) ?_
  rintro i ⟨hi, hr⟩
  refine codeK_aw hT hM _ _ _ ?_
  conv => whnf
  refine ⟨fun h4 => ?_, fun h4 => ?_⟩
  · have hlt : i < l.length := by rw [iLt_t] at h4; omega
    rw [allUpto_step _ hlt] at hr
    conv => whnf
    refine ⟨by omega, ?_⟩
    conv => whnf
    refine ⟨by omega, ?_⟩
    conv => whnf
    refine CallK.lent (f374 (l.getD i noField) (es.getD i noEntry) (hl.at i) (he.at i)) rfl ?_
    conv => whnf
    refine ⟨rfl, ?_⟩
    conv => whnf
    refine ⟨fun h5 => ?_, fun h5 => ?_⟩
    · have h5 := nott h5
      conv => whnf
      exact ⟨[], _, _, _, rfl, rfl, rfl, RepLe.bl (by rw [hr, h5]; rfl), trivial⟩
    have h5 := notf h5
    rw [h5] at hr
    conv => whnf
    intro z hz
    have hy := wrap64_eq hz (by omega) (by omega)
    clear hz
    subst hy
    conv => whnf
    exact ⟨i + 1, ⟨by omega, hr⟩, by omega, stle ⟨RepLe.refl _, RepLe.refl _, RepLe.of rfl, trivial⟩ trivial rfl⟩
  have hge : i = l.length := by rw [iLt_f] at h4; omega
  subst hge
  conv => whnf
  exact ⟨[], _, _, _, rfl, rfl, rfl, RepLe.bl (by rw [hr, allUpto_end]), trivial⟩
end Go.Proofs.YtalpbdabeffnlaaGreat
