import Derived.Test.YtalpbdabeffnlaaGreatJoEL
import Derived.Test.YtalpbdabeffnlaaGreatJoEU
/- doc.Find: an entry of a document. -/
set_option linter.unusedVariables false
set_option linter.unusedSimpArgs false
namespace Go.Proofs.YtalpbdabeffnlaaGreat
open Go Go.Av
set_option maxRecDepth 100000
set_option maxHeartbeats 4000000

def ptStr (s : ByteArray) : PV := .rp 1 (at_ .any [.val (.string s)])
theorem f368 (r : SRow) (s : ByteArray) : PCall Tryz.prog 158 [encDocRow r, ptStr s] (.p (.val (.bool (sEq r.item s)))) [] := by
  refine gcode hT hM Tryz.func158 rfl rfl (rv := [(3, none)]) rfl rfl rfl fun G hG => ?_
  conv => whnf
  exact ⟨[], _, _, _, rfl, rfl, rfl, RepLe.refl _, trivial⟩
def rowIn (l : List SRow) (s : ByteArray) : Option Nat := findUpto (fun i => sEq (l.getD i noRow).item s) l.length 0
theorem f367 (l : List SRow) (s : ByteArray) (hl : l.length ≤ 3518437208780) : PCall Tryz.prog 157 [encRows l, .fn 158 1 (at_ .any [ptStr s])] (.p (.val (.int .i64 (posOf (rowIn l s))))) [] := by
  refine gcode hT hM Tryz.func157 rfl rfl (rv := [(4, none)]) rfl rfl rfl fun G hG => ?_
  conv => whnf
  refine AW.loop (X := Nat) (fun i => told 19 [(0, .p (encRows l)), (1, .p (.fn 158 1 (at_ .any [ptStr s]))), (7, vI .i64 (l.length : Int)), (8, vI .i64 (i : Int))] [] []) (fun i => i ≤ l.length ∧ rowIn l s = findUpto (fun i => sEq (l.getD i noRow).item s) (l.length - i) i) (fun i => l.length - i) (used0 hG _) 0 ⟨by omega, rfl⟩ (stle ⟨RepLe.refl _, RepLe.refl _, RepLe.refl _, RepLe.refl _, trivial⟩ trivial rfl) ?_
  rintro i ⟨hi, hr⟩
  refine codeK_aw hT hM _ _ _ ?_
  conv => whnf
  refine ⟨fun h4 => ?_, fun h4 => ?_⟩
  · have hlt : i < l.length := by rw [iLt_t] at h4; omega
    rw [findUpto_step _ hlt] at hr
    conv => whnf
    refine ⟨by omega, ?_⟩
    conv => whnf
    refine CallK.lent (f368 (l.getD i noRow) s) rfl ?_
    conv => whnf
    refine ⟨fun h5 => ?_, fun h5 => ?_⟩
    · rw [h5] at hr
      conv => whnf
      exact ⟨[], _, _, _, rfl, rfl, rfl, RepLe.vi (by rw [hr]; rfl), trivial⟩
    rw [h5] at hr
    conv => whnf
    intro z hz
    have hy := wrap64_eq hz (by omega) (by omega)
    clear hz
    subst hy
    conv => whnf
    exact ⟨i + 1, ⟨by omega, hr⟩, by omega, stle ⟨RepLe.refl _, RepLe.refl _, RepLe.refl _, RepLe.of rfl, trivial⟩ trivial rfl⟩
  have hge : i = l.length := by rw [iLt_f] at h4; omega
  subst hge
  rw [Nat.sub_self] at hr
  conv => whnf
  exact ⟨[], _, _, _, rfl, rfl, rfl, RepLe.vi (by rw [hr]; rfl), trivial⟩
theorem f370 (e : SEntry) (r : SRef) : PCall Tryz.prog 160 [encEntry e, ptRef r] (.p (.val (.bool (sameRef e.place r)))) [] := by
  refine gcode hT hM Tryz.func160 rfl rfl (rv := [(3, none)]) rfl rfl rfl fun G hG => ?_
  conv => whnf
  exact ⟨[], _, _, _, rfl, rfl, rfl, RepLe.vb (by simp [sameRef]), trivial⟩
def spotIn (l : List SEntry) (r : SRef) : List SEntry × Nat × Int := match entryIn l r with | none => ([], 0, 6) | some k => (l, k, 0)
def spotF (d : SDoc) (item : ByteArray) (r : SRef) : List SEntry × Nat × Int :=
  if sEq item noS then spotIn d.head r else match rowIn d.rows item with | none => ([], 0, 12) | some i => spotIn (d.rows.getD i noRow).l r
def encSpot (p : List SEntry × Nat × Int) : AV := .tup 3 (at_ (.p .any) [.p (encEntries p.1), .p (.val (.int .i64 (p.2.1 : Int))), .p (.val (.int .i64 p.2.2))])
theorem spot_ret {a : PV} {i c : Int} {p : List SEntry × Nat × Int} {l : List SEntry} {k : Nat} (h : p = (l, k, c)) (ha : PLe a (encEntries l)) (hi : i = (k : Int)) : RepLe (.tup 3 (at_ (.p .any) [.p a, .p (.val (.int .i64 i)), .p (.val (.int .i64 c))])) (encSpot p) := by
  subst h hi
  exact RepLe.tup (l := [.p a, .p (.val (.int .i64 (k : Int))), .p (.val (.int .i64 c))]) (m := [.p (encEntries l), .p (.val (.int .i64 (k : Int))), .p (.val (.int .i64 c))]) ⟨PLe.rep ha, RepLe.refl _, RepLe.refl _, trivial⟩
theorem f351 (d : SDoc) (item : ByteArray) (r : SRef) (hd : fitDoc d) : PCall Tryz.prog 123 [encDoc d, .val (.string item), encRef r] (encSpot (spotF d item r)) [] := by
  refine gcode hT hM Tryz.func123 rfl rfl (rv := [(6, none), (7, none), (8, none)]) rfl rfl rfl fun G hG => ?_
  conv => whnf
  refine ⟨fun t1 => ?_, fun t1 => ?_⟩
  · have t1 : sEq item noS = false := nott t1
    conv => whnf
    cases p : rowIn d.rows item with
    | none =>
      have c367 := f367 d.rows item hd.2.1
      rw [p] at c367
      refine CallK.lent (c367) rfl ?_
      conv => whnf
      refine ⟨fun h0 => ?_, fun h0 => ?_⟩
      · conv => whnf
        exact ⟨[], _, _, _, rfl, rfl, rfl, spot_ret (l := []) (k := 0) (by unfold spotF; rw [t1, p]; rfl) PLe.nil rfl, trivial⟩
      · exact absurd (iLt_f.1 h0) (show ¬ (0 : Int) ≤ -1 by decide)
    | some i =>
      have hi : i < d.rows.length := by obtain ⟨_, hi, _, _⟩ := findUpto_some _ _ _ _ p; omega
      have c367 := f367 d.rows item hd.2.1
      rw [p] at c367
      have he : spotF d item r = spotIn (d.rows.getD i noRow).l r := by unfold spotF; rw [t1, p]; rfl
      refine CallK.lent (c367) rfl ?_
      conv => whnf
      refine ⟨fun h0 => ?_, fun h0 => ?_⟩
      · exact absurd (iLt_t.1 h0) (show ¬ ((i : Nat) : Int) < 0 by omega)
      conv => whnf
      refine ⟨⟨Int.natCast_nonneg _, Int.ofNat_lt.2 hi⟩, ?_⟩
      conv => whnf
      cases q : entryIn (d.rows.getD i noRow).l r with
      | none =>
        have c369 := f369 (d.rows.getD i noRow).l r (hd.row i) 160 (fun e => f370 e r)
        rw [q] at c369
        refine CallK.lent (c369) rfl ?_
        conv => whnf
        refine ⟨fun h1 => ?_, fun h1 => ?_⟩
        · conv => whnf
          exact ⟨[], _, _, _, rfl, rfl, rfl, spot_ret (l := []) (k := 0) (by rw [he]; unfold spotIn; rw [q]) PLe.nil rfl, trivial⟩
        · exact absurd (iLt_f.1 h1) (show ¬ (0 : Int) ≤ -1 by decide)
      | some k =>
        have c369 := f369 (d.rows.getD i noRow).l r (hd.row i) 160 (fun e => f370 e r)
        rw [q] at c369
        refine CallK.lent (c369) rfl ?_
        conv => whnf
        refine ⟨fun h1 => ?_, fun h1 => ?_⟩
        · exact absurd (iLt_t.1 h1) (show ¬ ((k : Nat) : Int) < 0 by omega)
        conv => whnf
        exact ⟨[], _, _, _, rfl, rfl, rfl, spot_ret (l := (d.rows.getD i noRow).l) (k := k) (by rw [he]; unfold spotIn; rw [q]) (PLe.refl _) rfl, trivial⟩
  have t1 : sEq item noS = true := notf t1
  have he : spotF d item r = spotIn d.head r := by unfold spotF; rw [t1]; rfl
  conv => whnf
  cases q : entryIn d.head r with
  | none =>
    have c369 := f369 d.head r hd.1 160 (fun e => f370 e r)
    rw [q] at c369
    refine CallK.lent (c369) rfl ?_
    conv => whnf
    refine ⟨fun h1 => ?_, fun h1 => ?_⟩
    · conv => whnf
      exact ⟨[], _, _, _, rfl, rfl, rfl, spot_ret (l := []) (k := 0) (by rw [he]; unfold spotIn; rw [q]) PLe.nil rfl, trivial⟩
    · exact absurd (iLt_f.1 h1) (show ¬ (0 : Int) ≤ -1 by decide)
  | some k =>
    have c369 := f369 d.head r hd.1 160 (fun e => f370 e r)
    rw [q] at c369
    refine CallK.lent (c369) rfl ?_
    conv => whnf
    refine ⟨fun h1 => ?_, fun h1 => ?_⟩
    · exact absurd (iLt_t.1 h1) (show ¬ ((k : Nat) : Int) < 0 by omega)
    conv => whnf
    exact ⟨[], _, _, _, rfl, rfl, rfl, spot_ret (l := d.head) (k := k) (by rw [he]; unfold spotIn; rw [q]) (PLe.refl _) rfl, trivial⟩
def findD (d : SDoc) (item : ByteArray) (r : SRef) : SEntry × Int :=
  if iEq (spotF d item r).2.2 0 then ((spotF d item r).1.getD (spotF d item r).2.1 noEntry, 0) else (noEntry, (spotF d item r).2.2)
def encFound (p : SEntry × Int) : AV := .tup 2 (at_ (.p .any) [.p (encEntry p.1), .p (.val (.int .i64 p.2))])
theorem found_ret {a b : PV} {p : SEntry × Int} {e : SEntry} {c : Int} (h : p = (e, c)) (ha : PLe a (encEntry e)) (hb : PLe b (.val (.int .i64 c))) : RepLe (.tup 2 (at_ (.p .any) [.p a, .p b])) (encFound p) := by
  subst h; exact RepLe.tup2 (PLe.rep ha) (PLe.rep hb)
theorem sub_one (l : List SEntry) {k n : Nat} (h : n = 1) : PLe (.rs 5 n fun a b => at_ .any (entryCells (l.getD (k + a) noEntry)) b) (encEntries [l.getD k noEntry]) := by
  refine PLe.rows h fun a b ha hb => ?_
  have : a = 0 := by omega
  subst this
  rfl
theorem spotIn_ok {l : List SEntry} {r : SRef} (h : iEq (spotIn l r).2.2 0 = true) : (spotIn l r).1 = l ∧ (spotIn l r).2.1 < l.length := by
  unfold spotIn at h ⊢
  cases q : entryIn l r with
  | none => rw [q] at h; exact absurd (iEq_t.1 h) (show ¬ (6 : Int) = 0 by decide)
  | some k =>
    obtain ⟨_, hi, _, _⟩ := findUpto_some _ _ _ _ q
    exact ⟨rfl, (show k < l.length by omega)⟩
theorem spot_fit {d : SDoc} (hd : fitDoc d) {item : ByteArray} {r : SRef} (h : iEq (spotF d item r).2.2 0 = true) : fitEntries (spotF d item r).1 ∧ (spotF d item r).2.1 < (spotF d item r).1.length := by
  unfold spotF at h ⊢
  cases t : sEq item noS with
  | true =>
    rw [t] at h
    obtain ⟨a, b⟩ := spotIn_ok (l := d.head) (r := r) h
    exact ⟨by show fitEntries (spotIn d.head r).1; rw [a]; exact hd.1, by show (spotIn d.head r).2.1 < (spotIn d.head r).1.length; rw [a]; exact b⟩
  | false =>
    rw [t] at h
    cases p : rowIn d.rows item with
    | none => rw [p] at h; exact absurd (iEq_t.1 h) (show ¬ (12 : Int) = 0 by decide)
    | some i =>
      rw [p] at h
      obtain ⟨a, b⟩ := spotIn_ok (l := (d.rows.getD i noRow).l) (r := r) h
      exact ⟨by show fitEntries (spotIn (d.rows.getD i noRow).l r).1; rw [a]; exact hd.row i, by show (spotIn (d.rows.getD i noRow).l r).2.1 < (spotIn (d.rows.getD i noRow).l r).1.length; rw [a]; exact b⟩
theorem f333 (d : SDoc) (item : ByteArray) (r : SRef) (hd : fitDoc d) : PCall Tryz.prog 64 [encDoc d, .val (.string item), encRef r] (encFound (findD d item r)) [] := by
  refine gcode hT hM Tryz.func64 rfl rfl (rv := [(6, some 101), (7, none)]) rfl rfl rfl fun G hG => ?_
  conv => whnf
  refine CallK.go [] (f351 d item r hd) rfl rfl rfl rfl rfl ?_
  conv => whnf
  refine ⟨fun c0 => ?_, fun c0 => ?_⟩
  · have c0 : iEq (spotF d item r).2.2 0 = false := nott c0
    conv => whnf
    exact ⟨[], _, _, _, rfl, rfl, rfl, found_ret (e := noEntry) (by unfold findD; rw [c0]; rfl) (PLe.agg (by repeat' (first | refine PLes.cons ?_ ?_ | exact PLe.refl _ | exact PLe.nil | exact PLes.end))) (PLe.refl _), trivial⟩
  have c0 : iEq (spotF d item r).2.2 0 = true := notf c0
  obtain ⟨hf, hk⟩ := spot_fit hd c0
  have hlen := hf.1
  have he : findD d item r = ((spotF d item r).1.getD (spotF d item r).2.1 noEntry, 0) := by unfold findD; rw [c0]; rfl
  rw [he]
  clear he
  generalize (spotF d item r).1 = l at *
  generalize (spotF d item r).2.1 = k at *
  conv => whnf
  intro z hz
  have hy := wrap64_eq hz (by omega) (by omega)
  clear hz
  subst hy
  conv => whnf
  refine ⟨⟨by omega, by omega, by omega⟩, ?_⟩
  conv => whnf
  refine CallK.go [] (GCall.arg1 (f335 [l.getD k noEntry] ⟨show 1 ≤ 1954687338211 by decide, fun e he => by rw [List.mem_singleton.1 he]; exact hf.at k⟩) ?hh) rfl rfl rfl rfl rfl ?_
  case hh => exact PLe.rep (sub_one l (by omega))
  conv => whnf
  refine ⟨⟨Int.le_refl _, show (0 : Int) < ((1 : Nat) : Int) by decide⟩, ?_⟩
  conv => whnf
  exact ⟨[], _, _, _, rfl, rfl, rfl, found_ret rfl (PLe.refl _) (PLe.refl _), trivial⟩
end Go.Proofs.YtalpbdabeffnlaaGreat

/- A document over a lens: the program's walk. -/
set_option linter.unusedVariables false
set_option linter.unusedSimpArgs false
namespace Go.Proofs.YtalpbdabeffnlaaGreat
open Go Go.Av Go.Fl
set_option maxRecDepth 100000
set_option maxHeartbeats 8000000

def ovFar : St := told 73 [(6, .pt 16 0)] [(16, some (.box 61 (List.replicate 2 (.p .any))))] [16]
def ovRow (l : List SField) (x : SLens) (d : SDoc) (i : Nat) : St :=
  told 73 [(4, .pt 0 0), (5, .pt 8 0), (6, .pt 16 0), (11, .p (encFields (scopeOf (applyF l x).1 1))), (12, vI .i64 (i : Int))]
    [(0, some (.box 42 ((lensCells x).map .p))), (8, some (.box 61 [.p (encEntries (entriesP x (scopeOf (applyF l x).1 0) d.head).1), .sl 28680])), (16, some (.box 61 (List.replicate 2 (.p .any)))), (28680, rowMix x (scopeOf (applyF l x).1 1) d i)] [0, 8, 16, 28680]
def ovS2 (l : List SField) (x : SLens) (d : SDoc) : Option Nat → St
  | none => ovFar
  | some i => ovRow l x d i
def ovJ (l : List SField) (x : SLens) (d : SDoc) : Option Nat → Prop
  | none => overP l x d = (noDoc, 3)
  | some i => (iEq (applyF l x).2 0 = true ∧ docRight l d = true) ∧ i ≤ d.rows.length ∧ overP l x d = if allUpto (rowsOk x (scopeOf (applyF l x).1 1) d) (d.rows.length - i) i then (⟨(entriesP x (scopeOf (applyF l x).1 0) d.head).1, d.rows.map (overRow x (scopeOf (applyF l x).1 1))⟩, 0) else (noDoc, 3)
def ovMu (d : SDoc) : Option Nat → Nat
  | none => 0
  | some i => d.rows.length - i + 1
def ovLab : Option Nat → Nat
  | none => 0
  | some _ => 1
theorem out_head {l : List SField} {x : SLens} {d : SDoc} (h0 : iEq (applyF l x).2 0 = true) (h1 : docRight l d = true) (h2 : iEq (entriesP x (scopeOf (applyF l x).1 0) d.head).2 0 = true) :
    overP l x d = if allUpto (rowsOk x (scopeOf (applyF l x).1 1) d) (d.rows.length - 0) 0 then (⟨(entriesP x (scopeOf (applyF l x).1 0) d.head).1, d.rows.map (overRow x (scopeOf (applyF l x).1 1))⟩, 0) else (noDoc, 3) := by
  unfold overP; rw [h0, h1, h2]; rfl
theorem f318 (l : List SField) (x : SLens) (d : SDoc) (hl : fitFields l) (hx : fitLens x) (hd : fitDoc d) : PCall Tryz.prog 28 [encFields l, encLens x, encDoc d] (encOvD (overP l x d)) [] := by
  have hlen := hd.2.1
  have hm := apply_fit hl hx
  rcases Nat.eq_zero_or_pos d.rows.length with hz | hz
  · obtain ⟨hh, rows⟩ := d
    have hz : rows.length = 0 := hz
    obtain rfl := List.length_eq_zero_iff.1 hz
    refine gcode hT hM Tryz.func28 rfl rfl (rv := [(6, some 61), (7, none)]) rfl rfl rfl fun G hG => ?_
    conv => whnf
    refine AW.labels (X := Unit) (fun _ => 0) (fun _ => ovFar) (fun _ => overP l x ⟨hh, []⟩ = (noDoc, 3)) (fun _ => 0) (used0 hG _) (fun _ => rfl) ?_ ?_
    · refine codeK_aw hT hM _ _ _ ?_
      conv => whnf
      refine CallK.go [] (f49 l x hl hx) rfl rfl rfl rfl rfl ?_
      conv => whnf
      refine ⟨fun b0 => ?_, fun b0 => ?_⟩
      · have b0 : iEq (applyF l x).2 0 = false := nott b0
        conv => whnf
        exact ⟨[], _, _, _, rfl, rfl, rfl, ovd_ret (d := noDoc) (c := (applyF l x).2) (by unfold overP; rw [b0]; rfl) zero_doc (PLe.refl _), trivial⟩
      have b0 : iEq (applyF l x).2 0 = true := notf b0
      have h0 := iEq_t.1 b0
      obtain ⟨hok, _⟩ := apply_ok h0
      conv => whnf
      refine CallK.lent (f321 l ⟨hh, []⟩ hl hd) rfl ?_
      conv => whnf
      refine ⟨fun b1 => ?_, fun b1 => ?_⟩
      · have b1 : docRight l ⟨hh, []⟩ = false := nott b1
        conv => whnf
        exact ⟨[], _, _, _, rfl, rfl, rfl, ovd_ret (d := noDoc) (c := 5) (by unfold overP; rw [b0, b1]; rfl) zero_doc (PLe.refl _), trivial⟩
      have b1 : docRight l ⟨hh, []⟩ = true := notf b1
      conv => whnf
      refine CallK.go [] (f28 (applyF l x).1 0 hm) rfl rfl rfl rfl rfl ?_
      conv => whnf
      refine CallK.go [] (f28 (applyF l x).1 1 hm) rfl rfl rfl rfl rfl ?_
      conv => whnf
      refine CallK.go [] (f317n hh hd.1) rfl rfl rfl rfl rfl ?_
      conv => whnf
      refine CallK.go [] (f336 x (scopeOf (applyF l x).1 0) hh hx.ok hok (scope_fit hm 0) hd.1 (asks h0 (doc_head b1).2)) rfl rfl rfl rfl rfl ?_
      conv => whnf
      refine ⟨fun b2 => ?_, fun b2 => ?_⟩
      · have b2 : iEq (entriesP x (scopeOf (applyF l x).1 0) hh).2 0 = false := nott b2
        conv => whnf
        exact ⟨(), (show overP l x ⟨hh, []⟩ = _ by unfold overP; rw [b0, b1, b2]; rfl), rfl, stle ⟨RepLe.refl _, trivial⟩ ⟨⟨_, rfl, BlkLe.anys rfl⟩, trivial⟩ rfl⟩
      have b2 : iEq (entriesP x (scopeOf (applyF l x).1 0) hh).2 0 = true := notf b2
      have hr := out_head b0 b1 b2
      conv => whnf
      refine ⟨fun h5 => ?_, fun h5 => ?_⟩
      · conv => whnf
        exact ⟨[], _, _, _, rfl, rfl, rfl, ovd_ret hr (doc2 (PLe.refl _) (PLe.refl _)) (PLe.refl _), trivial⟩
      exact absurd rfl (iEq_f.1 h5)
    rintro ⟨⟩ hr
    have hr : overP l x ⟨hh, []⟩ = (noDoc, 3) := hr
    refine codeK_aw hT hM _ _ _ ?_
    conv => whnf
    exact ⟨[], _, _, _, rfl, rfl, rfl, ovd_ret (d := noDoc) hr zero_doc (PLe.refl _), trivial⟩
  refine gcode hT hM Tryz.func28 rfl rfl (rv := [(6, some 61), (7, none)]) rfl rfl rfl fun G hG => ?_
  conv => whnf
  refine AW.labels ovLab (ovS2 l x d) (ovJ l x d) (ovMu d) (used0 hG _) (fun y => by cases y <;> rfl) ?_ ?_
  · refine codeK_aw hT hM _ _ _ ?_
    conv => whnf
    refine CallK.go [] (f49 l x hl hx) rfl rfl rfl rfl rfl ?_
    conv => whnf
    refine ⟨fun b0 => ?_, fun b0 => ?_⟩
    · have b0 : iEq (applyF l x).2 0 = false := nott b0
      conv => whnf
      exact ⟨[], _, _, _, rfl, rfl, rfl, ovd_ret (d := noDoc) (c := (applyF l x).2) (by unfold overP; rw [b0]; rfl) zero_doc (PLe.refl _), trivial⟩
    have b0 : iEq (applyF l x).2 0 = true := notf b0
    have h0 := iEq_t.1 b0
    obtain ⟨hok, _⟩ := apply_ok h0
    conv => whnf
    refine CallK.lent (f321 l d hl hd) rfl ?_
    conv => whnf
    refine ⟨fun b1 => ?_, fun b1 => ?_⟩
    · have b1 : docRight l d = false := nott b1
      conv => whnf
      exact ⟨[], _, _, _, rfl, rfl, rfl, ovd_ret (d := noDoc) (c := 5) (by unfold overP; rw [b0, b1]; rfl) zero_doc (PLe.refl _), trivial⟩
    have b1 : docRight l d = true := notf b1
    conv => whnf
    refine CallK.go [] (f28 (applyF l x).1 0 hm) rfl rfl rfl rfl rfl ?_
    conv => whnf
    refine CallK.go [] (f28 (applyF l x).1 1 hm) rfl rfl rfl rfl rfl ?_
    conv => whnf
    refine CallK.go [] (f317o d hd hz) rfl rfl rfl rfl rfl ?_
    conv => whnf
    refine CallK.go [] (f336 x (scopeOf (applyF l x).1 0) d.head hx.ok hok (scope_fit hm 0) hd.1 (asks h0 (doc_head b1).2)) rfl rfl rfl rfl rfl ?_
    conv => whnf
    refine ⟨fun b2 => ?_, fun b2 => ?_⟩
    · have b2 : iEq (entriesP x (scopeOf (applyF l x).1 0) d.head).2 0 = false := nott b2
      conv => whnf
      exact ⟨none, (show overP l x d = _ by unfold overP; rw [b0, b1, b2]; rfl), rfl, stle ⟨RepLe.refl _, trivial⟩ ⟨⟨_, rfl, BlkLe.anys rfl⟩, trivial⟩ rfl⟩
    have b2 : iEq (entriesP x (scopeOf (applyF l x).1 0) d.head).2 0 = true := notf b2
    have hr := out_head b0 b1 b2
    conv => whnf
    refine ⟨fun h5 => ?_, fun h5 => ?_⟩
    · exact absurd (iEq_t.1 h5) (show ¬ (0 : Int) = (d.rows.length : Int) by omega)
    have hlt : 0 < d.rows.length := hz
    rw [allUpto_step _ hlt] at hr
    conv => whnf
    refine ⟨⟨Int.natCast_nonneg _, Int.ofNat_lt.2 (show 0 < d.rows.length from hlt)⟩, ?_⟩
    conv => whnf
    refine ⟨hlt, ?_⟩
    conv => whnf
    refine CallK.go [] (f336 x (scopeOf (applyF l x).1 1) (d.rows.getD 0 noRow).l hx.ok hok (scope_fit hm 1) (hd.row 0) (asks h0 (doc_row b1 hlt))) rfl rfl rfl rfl rfl ?_
    conv => whnf
    refine ⟨⟨Int.natCast_nonneg _, Int.ofNat_lt.2 (show 0 < d.rows.length from hlt)⟩, ?_⟩
    conv => whnf
    refine ⟨hlt, ?_⟩
    conv => whnf
    refine ⟨rfl, ?_⟩
    conv => whnf
    refine ⟨fun c1 => ?_, fun c1 => ?_⟩
    · have c1 : rowsOk x (scopeOf (applyF l x).1 1) d 0 = true := c1
      rw [c1] at hr
      conv => whnf
      intro z hz
      have hy := wrap64_eq hz (by omega) (by omega)
      clear hz
      subst hy
      conv => whnf
      exact ⟨some (0 + 1), ⟨⟨b0, b1⟩, hlt, hr⟩, rfl, stle ⟨RepLe.refl _, RepLe.refl _, RepLe.refl _, RepLe.refl _, RepLe.of rfl, trivial⟩ ⟨⟨_, rfl, BlkLe.refl _⟩, ⟨_, rfl, BlkLe.refl _⟩, ⟨_, rfl, BlkLe.anys rfl⟩, ⟨_, rfl, mix_step (fun a b ha hb => by rw [mix_ge (show Int.toNat 0 ≤ a from Nat.zero_le _)]; exact PLe.refl _)⟩, trivial⟩ rfl⟩
    have c1 : rowsOk x (scopeOf (applyF l x).1 1) d 0 = false := c1
    rw [c1] at hr
    conv => whnf
    exact ⟨[], _, _, _, rfl, rfl, rfl, ovd_ret (d := noDoc) hr zero_doc (PLe.refl _), trivial⟩
  rintro y hy
  cases y with
  | none =>
    have hr : overP l x d = (noDoc, 3) := hy
    refine codeK_aw hT hM _ _ _ ?_
    conv => whnf
    exact ⟨[], _, _, _, rfl, rfl, rfl, ovd_ret (d := noDoc) hr zero_doc (PLe.refl _), trivial⟩
  | some i =>
    obtain ⟨⟨b0, b1⟩, hi, hr⟩ := hy
    refine codeK_aw hT hM _ _ _ ?_
    conv => whnf
    refine ⟨fun h5 => ?_, fun h5 => ?_⟩
    · have hin : i = d.rows.length := by rw [iEq_t] at h5; omega
      subst hin
      rw [Nat.sub_self] at hr
      conv => whnf
      refine .inl ?_
      conv => whnf
      exact ⟨[], _, _, _, rfl, rfl, rfl, ovd_ret hr (doc2 (PLe.refl _) mix_end) (PLe.refl _), trivial⟩
    have hlt : i < d.rows.length := by rw [iEq_f] at h5; omega
    rw [allUpto_step _ hlt] at hr
    have c336 : iEq (applyF l x).2 0 = true → docRight l d = true → PCall Tryz.prog 68 [encLens x, encFields (scopeOf (applyF l x).1 1), encEntries (mixRow x (scopeOf (applyF l x).1 1) d i i).l] (encEnts (entriesP x (scopeOf (applyF l x).1 1) (d.rows.getD i noRow).l)) [] := fun b0 b1 => by
      rw [mix_ge (Nat.le_refl _)]
      exact f336 x (scopeOf (applyF l x).1 1) (d.rows.getD i noRow).l hx.ok (apply_ok (iEq_t.1 b0)).1 (scope_fit hm 1) (hd.row i) (asks (iEq_t.1 b0) (doc_row b1 hlt))
    refine ⟨⟨Int.natCast_nonneg _, Int.ofNat_lt.2 (show i < d.rows.length from hlt)⟩, ?_⟩
    conv => whnf
    refine ⟨hlt, ?_⟩
    conv => whnf
    refine CallK.go [] ((c336 b0 b1)) rfl rfl rfl rfl rfl ?_
    conv => whnf
    refine ⟨⟨Int.natCast_nonneg _, Int.ofNat_lt.2 (show i < d.rows.length from hlt)⟩, ?_⟩
    conv => whnf
    refine ⟨hlt, ?_⟩
    conv => whnf
    refine ⟨rfl, ?_⟩
    conv => whnf
    refine ⟨fun c1 => ?_, fun c1 => ?_⟩
    · have c1 : rowsOk x (scopeOf (applyF l x).1 1) d i = true := c1
      rw [c1] at hr
      conv => whnf
      intro z hz
      have hy := wrap64_eq hz (by omega) (by omega)
      clear hz
      subst hy
      conv => whnf
      exact ⟨some (i + 1), ⟨⟨b0, b1⟩, hlt, hr⟩, rfl, (show d.rows.length - (i + 1) + 1 < d.rows.length - i + 1 by omega), stle ⟨RepLe.refl _, RepLe.refl _, RepLe.refl _, RepLe.refl _, RepLe.of rfl, trivial⟩ ⟨⟨_, rfl, BlkLe.refl _⟩, ⟨_, rfl, BlkLe.refl _⟩, ⟨_, rfl, BlkLe.anys rfl⟩, ⟨_, rfl, mix_step (fun a b ha hb => PLe.refl _)⟩, trivial⟩ rfl⟩
    have c1 : rowsOk x (scopeOf (applyF l x).1 1) d i = false := c1
    rw [c1] at hr
    conv => whnf
    exact ⟨[], _, _, _, rfl, rfl, rfl, ovd_ret (d := noDoc) hr zero_doc (PLe.refl _), trivial⟩
end Go.Proofs.YtalpbdabeffnlaaGreat

/- ProjectOver: the awakening. -/
set_option linter.unusedVariables false
set_option linter.unusedSimpArgs false
namespace Go.Proofs.YtalpbdabeffnlaaGreat
open Go Go.Av Go.Fl
set_option maxRecDepth 100000
set_option maxHeartbeats 4000000

def boxP : SRef := ⟨1, noS, word [98, 111, 120]⟩
def unitP : SRef := ⟨1, noS, word [117, 110, 105, 116]⟩
def qtyP : SRef := ⟨1, noS, word [113, 116, 121]⟩
def pearW : ByteArray := word [112, 101, 97, 114]
def dozen : List SField := [{ noField with place := boxP, kind := 1, worth := 12 }, { noField with place := unitP, kind := 1, worth := 1 }]
def gatherLens : SLens := { noLens with kind := 9, place := qtyP, name := word [117, 110, 105, 116], other := word [98, 111, 120], factor := 12 }
def pears : SDoc := ⟨[], [⟨pearW, [⟨boxP, 2, []⟩, ⟨unitP, 3, []⟩]⟩]⟩
theorem dozen_fit : fitFields dozen := ⟨by decide, by intro x hx; simp [dozen] at hx; rcases hx with rfl | rfl <;> (unfold fitField; decide)⟩
theorem gather_fit : fitLens gatherLens := ⟨Nat.zero_le _, Nat.zero_le _, Nat.zero_le _⟩
theorem pears_fit : fitDoc pears := ⟨⟨by decide, by intro e he; cases he⟩, by decide, by
  intro r hr; simp [pears] at hr; subst hr
  exact ⟨by decide, by intro e he; simp at he; rcases he with rfl | rfl <;> exact Nat.zero_le _⟩⟩
theorem pears_code : (overP dozen gatherLens pears).2 = 0 := by decide +kernel
theorem pears_found : (findD (overP dozen gatherLens pears).1 pearW qtyP).2 = 0 ∧ (findD (overP dozen gatherLens pears).1 pearW qtyP).1.n = 27 := by decide +kernel
theorem pears_small : ((overP dozen gatherLens pears).1.head.length ≤ 1954687338211 ∧ ∀ e ∈ (overP dozen gatherLens pears).1.head, e.texts.length ≤ 8796093022208) ∧ (overP dozen gatherLens pears).1.rows.length ≤ 3518437208780 ∧
    ∀ r ∈ (overP dozen gatherLens pears).1.rows, (r.l.length ≤ 1954687338211 ∧ ∀ e ∈ r.l, e.texts.length ≤ 8796093022208) := by decide +kernel
theorem pears_out : fitDoc (overP dozen gatherLens pears).1 := pears_small
theorem f315 : PCall Tryz.prog 25 [] (.p (.val (.bool true))) [] := by
  refine gcode hT hM Tryz.func25 rfl rfl (rv := [(0, none)]) rfl rfl rfl fun G hG => ?_
  conv => whnf
  refine CallK.go [] (GCall.args (f318 dozen gatherLens pears dozen_fit gather_fit pears_fit) ?hh) rfl rfl rfl rfl rfl ?_
  case hh =>
    refine allLe3 ?_ ?_ ?_
    · exact PLe.rep (fields2 rfl (seven (PLe.refl _) (PLe.refl _) (PLe.refl _) (PLe.refl _) (PLe.refl _) (PLe.nil) (PLe.refl _)) (seven (PLe.refl _) (PLe.refl _) (PLe.refl _) (PLe.refl _) (PLe.refl _) (PLe.nil) (PLe.refl _)))
    · exact PLe.rep (PLe.agg (by repeat' (first | refine PLes.cons ?_ ?_ | exact PLe.refl _ | exact PLe.nil | exact PLes.end)))
    · refine PLe.rep (doc2 PLe.nil (PLe.rowsLe rfl fun i j hi hj => ?_))
      have hi : i = 0 := by omega
      have hj : j < 2 := hj
      have hj : j = 0 ∨ j = 1 := by omega
      subst hi
      rcases hj with rfl | rfl
      · exact PLe.refl _
      · refine PLe.rowsLe rfl fun a b ha hb => ?_
        have ha : a < 2 := ha
        have hb : b < 5 := hb
        have ha : a = 0 ∨ a = 1 := by omega
        have hb : b = 0 ∨ b = 1 ∨ b = 2 ∨ b = 3 ∨ b = 4 := by omega
        rcases ha with rfl | rfl <;> rcases hb with rfl | rfl | rfl | rfl | rfl <;> (first | exact PLe.refl _ | exact PLe.nil)
  conv => whnf
  refine CallK.go [] (f333 (overP dozen gatherLens pears).1 pearW qtyP pears_out) rfl rfl rfl rfl rfl ?_
  conv => whnf
  refine ⟨fun a1 => ?_, fun a1 => ?_⟩
  · conv => whnf
    refine ⟨fun a2 => ?_, fun a2 => ?_⟩
    · conv => whnf
      exact ⟨[], _, _, _, rfl, rfl, rfl, RepLe.vb (by rw [iEq_t]; exact pears_found.2), trivial⟩
    · exact absurd pears_found.1 (iEq_f.1 a2)
  · exact absurd pears_code (iEq_f.1 a1)
end Go.Proofs.YtalpbdabeffnlaaGreat
