import Derived.Test.YtalpbdabeffnlaaGreatJoEU
import Derived.Test.YtalpbdabeffnlaaGreatJoES
/- A document over a lens: the program's walk. -/
set_option linter.unusedVariables false
set_option linter.unusedSimpArgs false
namespace Go.Proofs.YtalpbdabeffnlaaGreat
open Go Go.Av Go.Fl
set_option maxRecDepth 100000
set_option maxHeartbeats 8000000

def ovFar : St := told 73 [(6, .pt 16 0)] [(16, some (.box 61 (List.replicate 2 (.p .any))))] [16]
def ovRow (l : List SField) (x : SLens) (d : SDoc) (i : Nat) : St :=
  told 73 [(4, .pt 0 0), (5, .pt 8 0), (6, .pt 16 0), (11, .p (encFields (scopeOf (applyF l x).1 1))), (12, vI .i64 (i : Int))]
    [(0, some (.box 42 ((lensCells x).map .p))), (8, some (.box 61 [.p (encEntries (entriesP x (scopeOf (applyF l x).1 0) d.head).1), .sl 28680])), (16, some (.box 61 (List.replicate 2 (.p .any)))), (28680, rowMix x (scopeOf (applyF l x).1 1) d i)] [0, 8, 16, 28680]
def ovS2 (l : List SField) (x : SLens) (d : SDoc) : Option Nat → St
  | none => ovFar
  | some i => ovRow l x d i
def ovJ (l : List SField) (x : SLens) (d : SDoc) : Option Nat → Prop
  | none => overP l x d = (noDoc, 3)
  | some i => (iEq (applyF l x).2 0 = true ∧ docRight l d = true) ∧ i ≤ d.rows.length ∧ overP l x d = if allUpto (rowsOk x (scopeOf (applyF l x).1 1) d) (d.rows.length - i) i then (⟨(entriesP x (scopeOf (applyF l x).1 0) d.head).1, d.rows.map (overRow x (scopeOf (applyF l x).1 1))⟩, 0) else (noDoc, 3)
def ovMu (d : SDoc) : Option Nat → Nat
  | none => 0
  | some i => d.rows.length - i + 1
def ovLab : Option Nat → Nat
  | none => 0
  | some _ => 1
theorem out_head {l : List SField} {x : SLens} {d : SDoc} (h0 : iEq (applyF l x).2 0 = true) (h1 : docRight l d = true) (h2 : iEq (entriesP x (scopeOf (applyF l x).1 0) d.head).2 0 = true) :
    overP l x d = if allUpto (rowsOk x (scopeOf (applyF l x).1 1) d) (d.rows.length - 0) 0 then (⟨(entriesP x (scopeOf (applyF l x).1 0) d.head).1, d.rows.map (overRow x (scopeOf (applyF l x).1 1))⟩, 0) else (noDoc, 3) := by
  unfold overP; rw [h0, h1, h2]; rfl
theorem f318 (l : List SField) (x : SLens) (d : SDoc) (hl : fitFields l) (hx : fitLens x) (hd : fitDoc d) : PCall Tryz.prog 28 [encFields l, encLens x, encDoc d] (encOvD (overP l x d)) [] := by
  have hlen := hd.2.1
  have hm := apply_fit hl hx
  rcases Nat.eq_zero_or_pos d.rows.length with hz | hz
  · obtain ⟨hh, rows⟩ := d
    have hz : rows.length = 0 := hz
    obtain rfl := List.length_eq_zero_iff.1 hz
    refine gcode hT hM Tryz.func28 rfl rfl (rv := [(6, some 61), (7, none)]) rfl rfl rfl fun G hG => ?_
    conv => whnf
    refine AW.labels (X := Unit) (fun _ => 0) (fun _ => ovFar) (fun _ => overP l x ⟨hh, []⟩ = (noDoc, 3)) (fun _ => 0) (used0 hG _) (fun _ => rfl) ?_ ?_
    · refine codeK_aw hT hM _ _ _ ?_
      conv => whnf
      refine CallK.go [] (f49 l x hl hx) rfl rfl rfl rfl rfl ?_
      conv => whnf
      refine ⟨fun b0 => ?_, fun b0 => ?_⟩
      · have b0 : iEq (applyF l x).2 0 = false := nott b0
        conv => whnf
        exact ⟨[], _, _, _, rfl, rfl, rfl, ovd_ret (d := noDoc) (c := (applyF l x).2) (by unfold overP; rw [b0]; rfl) zero_doc (PLe.refl _), trivial⟩
      have b0 : iEq (applyF l x).2 0 = true := notf b0
      have h0 := iEq_t.1 b0
      obtain ⟨hok, _⟩ := apply_ok h0
      conv => whnf
      refine CallK.lent (f321 l ⟨hh, []⟩ hl hd) rfl ?_
      conv => whnf
      refine ⟨fun b1 => ?_, fun b1 => ?_⟩
      · have b1 : docRight l ⟨hh, []⟩ = false := nott b1
        conv => whnf
        exact ⟨[], _, _, _, rfl, rfl, rfl, ovd_ret (d := noDoc) (c := 5) (by unfold overP; rw [b0, b1]; rfl) zero_doc (PLe.refl _), trivial⟩
      have b1 : docRight l ⟨hh, []⟩ = true := notf b1
      conv => whnf
      refine CallK.go [] (f28 (applyF l x).1 0 hm) rfl rfl rfl rfl rfl ?_
      conv => whnf
      refine CallK.go [] (f28 (applyF l x).1 1 hm) rfl rfl rfl rfl rfl ?_
      conv => whnf
      refine CallK.go [] (f317n hh hd.1) rfl rfl rfl rfl rfl ?_
      conv => whnf
      refine CallK.go [] (f336 x (scopeOf (applyF l x).1 0) hh hx.ok hok (scope_fit hm 0) hd.1 (asks h0 (doc_head b1).2)) rfl rfl rfl rfl rfl ?_
      conv => whnf
      refine ⟨fun b2 => ?_, fun b2 => ?_⟩
      · have b2 : iEq (entriesP x (scopeOf (applyF l x).1 0) hh).2 0 = false := nott b2
        conv => whnf
        exact ⟨(), (show overP l x ⟨hh, []⟩ = _ by unfold overP; rw [b0, b1, b2]; rfl), rfl, stle ⟨RepLe.refl _, trivial⟩ ⟨⟨_, rfl, BlkLe.anys rfl⟩, trivial⟩ rfl⟩
      have b2 : iEq (entriesP x (scopeOf (applyF l x).1 0) hh).2 0 = true := notf b2
      have hr := out_head b0 b1 b2
      conv => whnf
      refine ⟨fun h5 => ?_, fun h5 => ?_⟩
      · conv => whnf
        exact ⟨[], _, _, _, rfl, rfl, rfl, ovd_ret hr (doc2 (PLe.refl _) (PLe.refl _)) (PLe.refl _), trivial⟩
      exact absurd rfl (iEq_f.1 h5)
    rintro ⟨⟩ hr
    have hr : overP l x ⟨hh, []⟩ = (noDoc, 3) := hr
    refine codeK_aw hT hM _ _ _ ?_
    conv => whnf
    exact ⟨[], _, _, _, rfl, rfl, rfl, ovd_ret (d := noDoc) hr zero_doc (PLe.refl _), trivial⟩
  refine gcode hT hM Tryz.func28 rfl rfl (rv := [(6, some 61), (7, none)]) rfl rfl rfl fun G hG => ?_
  conv => whnf
  refine AW.labels ovLab (ovS2 l x d) (ovJ l x d) (ovMu d) (used0 hG _) (fun y => by cases y <;> rfl) ?_ ?_
  · refine codeK_aw hT hM _ _ _ ?_
    conv => whnf
    refine CallK.go [] (f49 l x hl hx) rfl rfl rfl rfl rfl ?_
    conv => whnf
    refine ⟨fun b0 => ?_, fun b0 => ?_⟩
    · have b0 : iEq (applyF l x).2 0 = false := nott b0
      conv => whnf
      exact ⟨[], _, _, _, rfl, rfl, rfl, ovd_ret (d := noDoc) (c := (applyF l x).2) (by unfold overP; rw [b0]; rfl) zero_doc (PLe.refl _), trivial⟩
    have b0 : iEq (applyF l x).2 0 = true := notf b0
    have h0 := iEq_t.1 b0
    obtain ⟨hok, _⟩ := apply_ok h0
    conv => whnf
    refine CallK.lent (f321 l d hl hd) rfl ?_
    conv => whnf
    refine ⟨fun b1 => ?_, fun b1 => ?_⟩
    · have b1 : docRight l d = false := nott b1
      conv => whnf
      exact ⟨[], _, _, _, rfl, rfl, rfl, ovd_ret (d := noDoc) (c := 5) (by unfold overP; rw [b0, b1]; rfl) zero_doc (PLe.refl _), trivial⟩
    have b1 : docRight l d = true := notf b1
    conv => whnf
    refine CallK.go [] (f28 (applyF l x).1 0 hm) rfl rfl rfl rfl rfl ?_
    conv => whnf
    refine CallK.go [] (f28 (applyF l x).1 1 hm) rfl rfl rfl rfl rfl ?_
    conv => whnf
    refine CallK.go [] (f317o d hd hz) rfl rfl rfl rfl rfl ?_
    conv => whnf
    refine CallK.go [] (f336 x (scopeOf (applyF l x).1 0) d.head hx.ok hok (scope_fit hm 0) hd.1 (asks h0 (doc_head b1).2)) rfl rfl rfl rfl rfl ?_
    conv => whnf
    refine ⟨fun b2 => ?_, fun b2 => ?_⟩
    · have b2 : iEq (entriesP x (scopeOf (applyF l x).1 0) d.head).2 0 = false := nott b2
      conv => whnf
      exact ⟨none, (show overP l x d = _ by unfold overP; rw [b0, b1, b2]; rfl), rfl, stle ⟨RepLe.refl _, trivial⟩ ⟨⟨_, rfl, BlkLe.anys rfl⟩, trivial⟩ rfl⟩
    have b2 : iEq (entriesP x (scopeOf (applyF l x).1 0) d.head).2 0 = true := notf b2
    have hr := out_head b0 b1 b2
    conv => whnf
    refine ⟨fun h5 => ?_, fun h5 => ?_⟩
    · exact absurd (iEq_t.1 h5) (show ¬ (0 : Int) = (d.rows.length : Int) by omega)
    have hlt : 0 < d.rows.length := hz
    rw [allUpto_step _ hlt] at hr
    conv => whnf
    refine ⟨⟨Int.natCast_nonneg _, Int.ofNat_lt.2 (show 0 < d.rows.length from hlt)⟩, ?_⟩
    conv => whnf
    refine ⟨hlt, ?_⟩
    conv => whnf
    refine CallK.go [] (f336 x (scopeOf (applyF l x).1 1) (d.rows.getD 0 noRow).l hx.ok hok (scope_fit hm 1) (hd.row 0) (asks h0 (doc_row b1 hlt))) rfl rfl rfl rfl rfl ?_
    conv => whnf
    refine ⟨⟨Int.natCast_nonneg _, Int.ofNat_lt.2 (show 0 < d.rows.length from hlt)⟩, ?_⟩
    conv => whnf
    refine ⟨hlt, ?_⟩
    conv => whnf
    refine ⟨rfl, ?_⟩
    conv => whnf
    refine ⟨fun c1 => ?_, fun c1 => ?_⟩
    · have c1 : rowsOk x (scopeOf (applyF l x).1 1) d 0 = true := c1
      rw [c1] at hr
      conv => whnf
      intro z hz
      have hy := wrap64_eq hz (by omega) (by omega)
      clear hz
      subst hy
      conv => whnf
      exact ⟨some (0 + 1), ⟨⟨b0, b1⟩, hlt, hr⟩, rfl, stle ⟨RepLe.refl _, RepLe.refl _, RepLe.refl _, RepLe.refl _, RepLe.of rfl, trivial⟩ ⟨⟨_, rfl, BlkLe.refl _⟩, ⟨_, rfl, BlkLe.refl _⟩, ⟨_, rfl, BlkLe.anys rfl⟩, ⟨_, rfl, mix_step (fun a b ha hb => by rw [mix_ge (show Int.toNat 0 ≤ a from Nat.zero_le _)]; exact PLe.refl _)⟩, trivial⟩ rfl⟩
    have c1 : rowsOk x (scopeOf (applyF l x).1 1) d 0 = false := c1
    rw [c1] at hr
    conv => whnf
    exact ⟨[], _, _, _, rfl, rfl, rfl, ovd_ret (d := noDoc) hr zero_doc (PLe.refl _), trivial⟩
  rintro y hy
  cases y with
  | none =>
    have hr : overP l x d = (noDoc, 3) := hy
    refine codeK_aw hT hM _ _ _ ?_
    conv => whnf
    exact ⟨[], _, _, _, rfl, rfl, rfl, ovd_ret (d := noDoc) hr zero_doc (PLe.refl _), trivial⟩
  | some i =>
    obtain ⟨⟨b0, b1⟩, hi, hr⟩ := hy
    refine codeK_aw hT hM _ _ _ ?_
    conv => whnf
    refine ⟨fun h5 => ?_, fun h5 => ?_⟩
    · have hin : i = d.rows.length := by rw [iEq_t] at h5; omega
      subst hin
      rw [Nat.sub_self] at hr
      conv => whnf
      refine .inl ?_
      conv => whnf
      exact ⟨[], _, _, _, rfl, rfl, rfl, ovd_ret hr (doc2 (PLe.refl _) mix_end) (PLe.refl _), trivial⟩
    have hlt : i < d.rows.length := by rw [iEq_f] at h5; omega
    rw [allUpto_step _ hlt] at hr
    have c336 : iEq (applyF l x).2 0 = true → docRight l d = true → PCall Tryz.prog 68 [encLens x, encFields (scopeOf (applyF l x).1 1), encEntries (mixRow x (scopeOf (applyF l x).1 1) d i i).l] (encEnts (entriesP x (scopeOf (applyF l x).1 1) (d.rows.getD i noRow).l)) [] := fun b0 b1 => by
      rw [mix_ge (Nat.le_refl _)]
      exact f336 x (scopeOf (applyF l x).1 1) (d.rows.getD i noRow).l hx.ok (apply_ok (iEq_t.1 b0)).1 (scope_fit hm 1) (hd.row i) (asks (iEq_t.1 b0) (doc_row b1 hlt))
    refine ⟨⟨Int.natCast_nonneg _, Int.ofNat_lt.2 (show i < d.rows.length from hlt)⟩, ?_⟩
    conv => whnf
    refine ⟨hlt, ?_⟩
    conv => whnf
    refine CallK.go [] ((c336 b0 b1)) rfl rfl rfl rfl rfl ?_
    conv => whnf
    refine ⟨⟨Int.natCast_nonneg _, Int.ofNat_lt.2 (show i < d.rows.length from hlt)⟩, ?_⟩
    conv => whnf
    refine ⟨hlt, ?_⟩
    conv => whnf
    refine ⟨rfl, ?_⟩
    conv => whnf
    refine ⟨fun c1 => ?_, fun c1 => ?_⟩
    · have c1 : rowsOk x (scopeOf (applyF l x).1 1) d i = true := c1
      rw [c1] at hr
      conv => whnf
      intro z hz
      have hy := wrap64_eq hz (by omega) (by omega)
      clear hz
      subst hy
      conv => whnf
      exact ⟨some (i + 1), ⟨⟨b0, b1⟩, hlt, hr⟩, rfl, (show d.rows.length - (i + 1) + 1 < d.rows.length - i + 1 by omega), stle ⟨RepLe.refl _, RepLe.refl _, RepLe.refl _, RepLe.refl _, RepLe.of rfl, trivial⟩ ⟨⟨_, rfl, BlkLe.refl _⟩, ⟨_, rfl, BlkLe.refl _⟩, ⟨_, rfl, BlkLe.anys rfl⟩, ⟨_, rfl, mix_step (fun a b ha hb => PLe.refl _)⟩, trivial⟩ rfl⟩
    have c1 : rowsOk x (scopeOf (applyF l x).1 1) d i = false := c1
    rw [c1] at hr
    conv => whnf
    exact ⟨[], _, _, _, rfl, rfl, rfl, ovd_ret (d := noDoc) hr zero_doc (PLe.refl _), trivial⟩
end Go.Proofs.YtalpbdabeffnlaaGreat

/- ProjectOver: the awakening. -/
set_option linter.unusedVariables false
set_option linter.unusedSimpArgs false
namespace Go.Proofs.YtalpbdabeffnlaaGreat
open Go Go.Av Go.Fl
set_option maxRecDepth 100000
set_option maxHeartbeats 4000000

def boxP : SRef := ⟨1, noS, word [98, 111, 120]⟩
def unitP : SRef := ⟨1, noS, word [117, 110, 105, 116]⟩
def qtyP : SRef := ⟨1, noS, word [113, 116, 121]⟩
def pearW : ByteArray := word [112, 101, 97, 114]
def dozen : List SField := [{ noField with place := boxP, kind := 1, worth := 12 }, { noField with place := unitP, kind := 1, worth := 1 }]
def gatherLens : SLens := { noLens with kind := 9, place := qtyP, name := word [117, 110, 105, 116], other := word [98, 111, 120], factor := 12 }
def pears : SDoc := ⟨[], [⟨pearW, [⟨boxP, 2, []⟩, ⟨unitP, 3, []⟩]⟩]⟩
theorem dozen_fit : fitFields dozen := ⟨by decide, by intro x hx; simp [dozen] at hx; rcases hx with rfl | rfl <;> (unfold fitField; decide)⟩
theorem gather_fit : fitLens gatherLens := ⟨Nat.zero_le _, Nat.zero_le _, Nat.zero_le _⟩
theorem pears_fit : fitDoc pears := ⟨⟨by decide, by intro e he; cases he⟩, by decide, by
  intro r hr; simp [pears] at hr; subst hr
  exact ⟨by decide, by intro e he; simp at he; rcases he with rfl | rfl <;> exact Nat.zero_le _⟩⟩
theorem pears_code : (overP dozen gatherLens pears).2 = 0 := by decide +kernel
theorem pears_found : (findD (overP dozen gatherLens pears).1 pearW qtyP).2 = 0 ∧ (findD (overP dozen gatherLens pears).1 pearW qtyP).1.n = 27 := by decide +kernel
theorem pears_small : ((overP dozen gatherLens pears).1.head.length ≤ 1954687338211 ∧ ∀ e ∈ (overP dozen gatherLens pears).1.head, e.texts.length ≤ 8796093022208) ∧ (overP dozen gatherLens pears).1.rows.length ≤ 3518437208780 ∧
    ∀ r ∈ (overP dozen gatherLens pears).1.rows, (r.l.length ≤ 1954687338211 ∧ ∀ e ∈ r.l, e.texts.length ≤ 8796093022208) := by decide +kernel
theorem pears_out : fitDoc (overP dozen gatherLens pears).1 := pears_small
theorem f315 : PCall Tryz.prog 25 [] (.p (.val (.bool true))) [] := by
  refine gcode hT hM Tryz.func25 rfl rfl (rv := [(0, none)]) rfl rfl rfl fun G hG => ?_
  conv => whnf
  refine CallK.go [] (GCall.args (f318 dozen gatherLens pears dozen_fit gather_fit pears_fit) ?hh) rfl rfl rfl rfl rfl ?_
  case hh =>
    refine allLe3 ?_ ?_ ?_
    · exact PLe.rep (fields2 rfl (seven (PLe.refl _) (PLe.refl _) (PLe.refl _) (PLe.refl _) (PLe.refl _) (PLe.nil) (PLe.refl _)) (seven (PLe.refl _) (PLe.refl _) (PLe.refl _) (PLe.refl _) (PLe.refl _) (PLe.nil) (PLe.refl _)))
    · exact PLe.rep (PLe.agg (by repeat' (first | refine PLes.cons ?_ ?_ | exact PLe.refl _ | exact PLe.nil | exact PLes.end)))
    · refine PLe.rep (doc2 PLe.nil (PLe.rowsLe rfl fun i j hi hj => ?_))
      have hi : i = 0 := by omega
      have hj : j < 2 := hj
      have hj : j = 0 ∨ j = 1 := by omega
      subst hi
      rcases hj with rfl | rfl
      · exact PLe.refl _
      · refine PLe.rowsLe rfl fun a b ha hb => ?_
        have ha : a < 2 := ha
        have hb : b < 5 := hb
        have ha : a = 0 ∨ a = 1 := by omega
        have hb : b = 0 ∨ b = 1 ∨ b = 2 ∨ b = 3 ∨ b = 4 := by omega
        rcases ha with rfl | rfl <;> rcases hb with rfl | rfl | rfl | rfl | rfl <;> (first | exact PLe.refl _ | exact PLe.nil)
  conv => whnf
  refine CallK.go [] (f333 (overP dozen gatherLens pears).1 pearW qtyP pears_out) rfl rfl rfl rfl rfl ?_
  conv => whnf
  refine ⟨fun a1 => ?_, fun a1 => ?_⟩
  · conv => whnf
    refine ⟨fun a2 => ?_, fun a2 => ?_⟩
    · conv => whnf
      exact ⟨[], _, _, _, rfl, rfl, rfl, RepLe.vb (by rw [iEq_t]; exact pears_found.2), trivial⟩
    · exact absurd pears_found.1 (iEq_f.1 a2)
  · exact absurd pears_code (iEq_f.1 a1)
end Go.Proofs.YtalpbdabeffnlaaGreat

/- ProjectOver: the law's function. -/
set_option linter.unusedVariables false
set_option linter.unusedSimpArgs false
namespace Go.Proofs.YtalpbdabeffnlaaGreat
open Go Go.Av Go.Fl
set_option maxRecDepth 100000
set_option maxHeartbeats 4000000

theorem sameEntry_self (e : SEntry) : sameEntry e e = true := by unfold sameEntry; rw [sameRef_self, iEq_self, sameStrs_self]; rfl
theorem sameEntries_self (l : List SEntry) : sameEntries l l = true := by
  unfold sameEntries
  rw [Bool.and_eq_true, allUpto_iff]
  exact ⟨by simp, fun j _ _ => sameEntry_self _⟩
theorem sameDoc_self (d : SDoc) : sameDoc d d = true := by
  unfold sameDoc
  rw [Bool.and_eq_true, Bool.and_eq_true, allUpto_iff]
  exact ⟨by simp, sameEntries_self _, fun j _ _ => by unfold sameDocRow; rw [sEq_self, sameEntries_self]; rfl⟩
/-- What is right can be copied. -/
theorem ents_fit {l : List SField} {es : List SEntry} (h : entriesOk l es = true) (hl : l.length ≤ 1954687338211) : fitEntries es := by
  have hlen := entries_len h
  refine ⟨by omega, fun e he => ?_⟩
  obtain ⟨i, hi, rfl⟩ := List.getElem_of_mem he
  have h1 := entries_at h (i := i) (by omega)
  have e : es.getD i noEntry = es[i] := by rw [List.getD_eq_getElem?_getD, List.getElem?_eq_getElem hi]; rfl
  rw [e] at h1
  show es[i].texts.length ≤ 8796093022208
  cases k1 : iEq (l.getD i noField).kind 1 with
  | true => rw [(whole_of h1 k1).2]; exact Nat.zero_le _
  | false =>
    cases k4 : iEq (l.getD i noField).kind 4 with
    | true => exact Nat.le_trans (list_of h1 k4).2.1 (by decide)
    | false => rw [(text_of h1 k1 k4).2.1]; exact (show 1 ≤ 8796093022208 by decide)
theorem doc_fit {l : List SField} {d : SDoc} (h : docRight l d = true) (hl : fitFields l) : fitDoc d := by
  have hl2 := hl.1
  have small : ∀ s, (scopeOf l s).length ≤ 1954687338211 := fun s => by
    unfold docRight rightFields at h
    simp only [Bool.and_eq_true, iLe_t] at h
    have := h.1.1
    exact Nat.le_trans (List.length_filter_le _ _) (by omega)
  refine ⟨ents_fit (doc_head h).2 (small 0), ?_, fun r hr => ?_⟩
  · unfold docRight at h
    simp only [Bool.and_eq_true, Bool.not_eq_true', iLt_f] at h
    have := h.2.1
    omega
  · obtain ⟨i, hi, rfl⟩ := List.getElem_of_mem hr
    have e : d.rows.getD i noRow = d.rows[i] := by rw [List.getD_eq_getElem?_getD, List.getElem?_eq_getElem hi]; rfl
    rw [← e]
    exact ents_fit (doc_row h hi) (small 1)
theorem odoc_fit {l : List SField} {x : SLens} {d : SDoc} (hl : fitFields l) (hx : fitLens x) : fitDoc (overP l x d).1 := by
  cases q : iEq (overP l x d).2 0 with
  | true => exact doc_fit (over_right (iEq_t.1 q)) (apply_fit hl hx)
  | false =>
    rw [over_bad (iEq_f.1 q)]
    exact ⟨⟨Nat.zero_le _, fun e he => by cases he⟩, Nat.zero_le _, fun r hr => by cases hr⟩
theorem f317e (d : SDoc) (hd : fitDoc d) (h : d.rows.length = 0) : PCall Tryz.prog 27 [encDoc d] (.p (encDoc d)) [] := by
  obtain ⟨hh, rows⟩ := d
  have h : rows.length = 0 := h
  obtain rfl := List.length_eq_zero_iff.1 h
  exact f317n hh hd.1
theorem f302 (l : List SField) (x : SLens) (d : SDoc) (hl : fitFields l) (hx : fitLens x) (hd : fitDoc d) : PCall Tryz.prog 5 [encFields l, encLens x, encDoc d] (.p (.val (.bool true))) [] := by
  have hout := odoc_fit (d := d) hl hx
  have hm := apply_fit hl hx
  have c319 := f319 l x d hl hx hd
  rw [over_ref] at c319
  have hs1 := sameDoc_self (overP l x d).1
  have hs2 := sameDoc_self d
  have c320 := f320 (overP l x d).1 (overP l x d).1 hout
  rw [hs1] at c320
  have d320 := f320 d d hd
  rw [hs2] at d320
  refine gcode hT hM Tryz.func5 rfl rfl (rv := [(6, none)]) rfl rfl rfl fun G hG => ?_
  conv => whnf
  refine CallK.lent (f315) rfl ?_
  conv => whnf
  refine ⟨fun h => ?_, fun h => ?_⟩
  · cases h
  conv => whnf
  refine CallK.lent (f26 l hl.ok) rfl ?_
  conv => whnf
  refine ⟨fun g1 => ?_, fun g1 => ?_⟩
  · conv => whnf
    exact ⟨[], _, _, _, rfl, rfl, rfl, RepLe.bl rfl, trivial⟩
  conv => whnf
  refine CallK.lent (f21 x hx.ok) rfl ?_
  conv => whnf
  refine ⟨fun g2 => ?_, fun g2 => ?_⟩
  · conv => whnf
    exact ⟨[], _, _, _, rfl, rfl, rfl, RepLe.bl rfl, trivial⟩
  conv => whnf
  refine CallK.lent (f316 d hd) rfl ?_
  conv => whnf
  refine ⟨fun g3 => ?_, fun g3 => ?_⟩
  · conv => whnf
    exact ⟨[], _, _, _, rfl, rfl, rfl, RepLe.bl rfl, trivial⟩
  conv => whnf
  rcases Nat.eq_zero_or_pos d.rows.length with hz | hz
  · refine CallK.go [] (f317e d hd hz) rfl rfl rfl rfl rfl ?_
    conv => whnf
    refine CallK.go [] (f318 l x d hl hx hd) rfl rfl rfl rfl rfl ?_
    conv => whnf
    refine CallK.go [] (c319) rfl rfl rfl rfl rfl ?_
    conv => whnf
    refine ⟨fun n1 => ?_, fun n1 => ?_⟩
    · rw [iEq_self] at n1; cases n1
    clear n1
    conv => whnf
    refine CallK.lent (c320) rfl ?_
    conv => whnf
    refine ⟨fun n2 => ?_, fun n2 => ?_⟩
    · cases n2
    clear n2
    conv => whnf
    skip
    refine CallK.lent (d320) rfl ?_
    conv => whnf
    refine ⟨fun n3 => ?_, fun n3 => ?_⟩
    · cases n3
    clear n3
    conv => whnf
    refine CallK.go [] (f49 l x hl hx) rfl rfl rfl rfl rfl ?_
    conv => whnf
    refine ⟨fun n4 => ?_, fun n4 => ?_⟩
    · conv => whnf
      exact ⟨[], _, _, _, rfl, rfl, rfl, RepLe.bl rfl, trivial⟩
    have n4 : iEq (overP l x d).2 0 = true := notf n4
    conv => whnf
    refine CallK.lent (f321 (applyF l x).1 (overP l x d).1 hm hout) rfl ?_
    conv => whnf
    exact ⟨[], _, _, _, rfl, rfl, rfl, RepLe.vb (over_right (iEq_t.1 n4)), trivial⟩
  refine CallK.go [] (f317o d hd hz) rfl rfl rfl rfl rfl ?_
  conv => whnf
  refine CallK.go [] (f318 l x d hl hx hd) rfl rfl rfl rfl rfl ?_
  conv => whnf
  refine CallK.go [] (c319) rfl rfl rfl rfl rfl ?_
  conv => whnf
  refine ⟨fun n1 => ?_, fun n1 => ?_⟩
  · rw [iEq_self] at n1; cases n1
  clear n1
  conv => whnf
  refine CallK.lent (c320) rfl ?_
  conv => whnf
  refine ⟨fun n2 => ?_, fun n2 => ?_⟩
  · cases n2
  clear n2
  conv => whnf
  refine .inl ?_
  conv => whnf
  refine CallK.lent (d320) rfl ?_
  conv => whnf
  refine ⟨fun n3 => ?_, fun n3 => ?_⟩
  · cases n3
  clear n3
  conv => whnf
  refine CallK.go [] (f49 l x hl hx) rfl rfl rfl rfl rfl ?_
  conv => whnf
  refine ⟨fun n4 => ?_, fun n4 => ?_⟩
  · conv => whnf
    exact ⟨[], _, _, _, rfl, rfl, rfl, RepLe.bl rfl, trivial⟩
  have n4 : iEq (overP l x d).2 0 = true := notf n4
  conv => whnf
  refine CallK.lent (f321 (applyF l x).1 (overP l x d).1 hm hout) rfl ?_
  conv => whnf
  exact ⟨[], _, _, _, rfl, rfl, rfl, RepLe.vb (over_right (iEq_t.1 n4)), trivial⟩
end Go.Proofs.YtalpbdabeffnlaaGreat
