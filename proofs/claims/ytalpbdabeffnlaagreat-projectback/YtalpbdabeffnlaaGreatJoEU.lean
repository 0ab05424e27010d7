import Derived.Test.YtalpbdabeffnlaaGreatJoEO
/- A document over a lens: the program's. -/
set_option linter.unusedVariables false
set_option linter.unusedSimpArgs false
namespace Go.Proofs.YtalpbdabeffnlaaGreat
open Go Go.Av Go.Fl
set_option maxRecDepth 100000
set_option maxHeartbeats 4000000

theorem scope_fit {l : List SField} (h : fitFields l) (s : Int) : fitFields (scopeOf l s) :=
  ⟨Nat.le_trans (Nat.mul_le_mul_right _ (List.length_filter_le _ _)) h.1, fun x hx => h.2 x (List.mem_filter.1 hx).1⟩
theorem asks {l : List SField} {x : SLens} {s : Int} {es : List SEntry} (h0 : (applyF l x).2 = 0) (he : entriesOk (scopeOf l s) es = true) :
    ∀ f ∈ scopeOf (applyF l x).1 s, (idxRef (comesOf x) f.place).isSome = true → comeOk x (wentP x es) := fun f hf hi => by
  refine come_ok h0 he ?_
  cases q : idxRef (comesOf x) f.place with
  | none => rw [q] at hi; cases hi
  | some k =>
    obtain ⟨h1, h2⟩ := idx_at q
    have hm : f.place ∈ comesOf x := by rw [← h2, List.getD_eq_getElem?_getD, List.getElem?_eq_getElem h1]; exact List.getElem_mem h1
    rw [← scope_comes hm]; exact (scope_mem.1 hf).2
theorem doc_head {l : List SField} {d : SDoc} (h : docRight l d = true) : rightFields l = true ∧ entriesOk (scopeOf l 0) d.head = true := by
  unfold docRight at h
  simp only [Bool.and_eq_true] at h
  exact ⟨h.1, h.2.2.1⟩
theorem doc_row {l : List SField} {d : SDoc} (h : docRight l d = true) {i : Nat} (hi : i < d.rows.length) : entriesOk (scopeOf l 1) (d.rows.getD i noRow).l = true := by
  unfold docRight at h
  simp only [Bool.and_eq_true, allUpto_iff] at h
  have := h.2.2.2 i (Nat.zero_le _) (by omega)
  unfold docStep at this
  simp only [Bool.and_eq_true] at this
  exact this.2.2
def overRow (x : SLens) (line : List SField) (r : SRow) : SRow := ⟨r.item, (entriesP x line r.l).1⟩
def rowsOk (x : SLens) (line : List SField) (d : SDoc) (i : Nat) : Bool := iEq (entriesP x line (d.rows.getD i noRow).l).2 0
def overP (l : List SField) (x : SLens) (d : SDoc) : SDoc × Int :=
  if iEq (applyF l x).2 0 then
    if docRight l d then
      if iEq (entriesP x (scopeOf (applyF l x).1 0) d.head).2 0 then
        if allUpto (rowsOk x (scopeOf (applyF l x).1 1) d) d.rows.length 0 then (⟨(entriesP x (scopeOf (applyF l x).1 0) d.head).1, d.rows.map (overRow x (scopeOf (applyF l x).1 1))⟩, 0)
        else (noDoc, 3)
      else (noDoc, 3)
    else (noDoc, 5)
  else (noDoc, (applyF l x).2)
def encOvD (p : SDoc × Int) : AV := .tup 2 (at_ (.p .any) [.p (encDoc p.1), .p (.val (.int .i64 p.2))])
theorem ovd_ret {a b : PV} {p : SDoc × Int} {d : SDoc} {c : Int} (h : p = (d, c)) (ha : PLe a (encDoc d)) (hb : PLe b (.val (.int .i64 c))) : RepLe (.tup 2 (at_ (.p .any) [.p a, .p b])) (encOvD p) := by
  subst h; exact RepLe.tup2 (PLe.rep ha) (PLe.rep hb)
theorem doc2 {a b : PV} {d : SDoc} (h1 : PLe a (encEntries d.head)) (h2 : PLe b (encRows d.rows)) : PLe (aggL [a, b]) (encDoc d) := PLe.agg (PLes.cons h1 (PLes.cons h2 PLes.end))
theorem zero_doc : PLe (aggL [.val (.slice none 0 0), .val (.slice none 0 0)]) (encDoc noDoc) := doc2 PLe.nil PLe.nil
/-- The rows, the first of them over the lens. -/
def mixRow (x : SLens) (line : List SField) (d : SDoc) (i a : Nat) : SRow := if a < i then overRow x line (d.rows.getD a noRow) else d.rows.getD a noRow
theorem mix_ge {x : SLens} {line : List SField} {d : SDoc} {i a : Nat} (h : i ≤ a) : mixRow x line d i a = d.rows.getD a noRow := if_neg (by omega)
theorem mix_lt {x : SLens} {line : List SField} {d : SDoc} {i a : Nat} (h : a < i) : mixRow x line d i a = overRow x line (d.rows.getD a noRow) := if_pos h
def rowMix (x : SLens) (line : List SField) (d : SDoc) (i : Nat) : Option Blk := some (.row 103 2 d.rows.length fun a => at_ .any (rowCells (mixRow x line d i a)))
theorem mix_start (x : SLens) (line : List SField) (d : SDoc) : BlkLe (.row 103 2 d.rows.length fun a => at_ .any (rowCells (d.rows.getD a noRow))) (.row 103 2 d.rows.length fun a => at_ .any (rowCells (mixRow x line d 0 a))) :=
  BlkLe.rowLe rfl fun a b ha hb => by rw [mix_ge (Nat.zero_le _)]; exact PLe.refl _
theorem ple_trans {a b c : PV} (h1 : PLe a b) (h2 : PLe b c) : PLe a c := fun w F v h => h2 w F v (h1 w F v h)
theorem mix_step {x : SLens} {line : List SField} {d : SDoc} {i : Nat} {f : Nat → Nat → PV} (hf : ∀ a b, a < d.rows.length → b < 2 → PLe (f a b) (at_ .any (rowCells (mixRow x line d i a)) b)) :
    BlkLe (.row 103 2 d.rows.length (setF i 1 [encEntries (entriesP x line (d.rows.getD i noRow).l).1] f)) (.row 103 2 d.rows.length fun a => at_ .any (rowCells (mixRow x line d (i + 1) a))) := by
  refine BlkLe.rowLe rfl fun a b ha hb => ?_
  by_cases hh : a = i ∧ b = 1
  · obtain ⟨rfl, rfl⟩ := hh
    rw [mix_lt (Nat.lt_succ_self _)]
    have : setF a 1 [encEntries (entriesP x line (d.rows.getD a noRow).l).1] f a 1 = encEntries (entriesP x line (d.rows.getD a noRow).l).1 := by
      unfold setF
      rw [show (Nat.beq a a && (Nat.ble 1 1 && Nat.blt 1 (1 + [encEntries (entriesP x line (d.rows.getD a noRow).l).1].length))) = true by rw [Nat.beq_refl]; rfl]
      rfl
    rw [this]; exact PLe.refl _
  · have : setF i 1 [encEntries (entriesP x line (d.rows.getD i noRow).l).1] f a b = f a b := by
      unfold setF
      rw [show (Nat.beq a i && (Nat.ble 1 b && Nat.blt b (1 + [encEntries (entriesP x line (d.rows.getD i noRow).l).1].length))) = false by
        rw [Bool.eq_false_iff]; intro q; simp only [Bool.and_eq_true] at q
        have q1 := Nat.eq_of_beq_eq_true q.1
        have q2 := Nat.le_of_ble_eq_true q.2.1
        have q3 : b < 2 := Nat.le_of_ble_eq_true q.2.2
        exact hh ⟨q1, by omega⟩]
    rw [this]
    refine ple_trans (hf a b ha hb) ?_
    by_cases h1 : a < i
    · rw [mix_lt h1, mix_lt (by omega)]; exact PLe.refl _
    · by_cases h2 : a = i
      · subst h2
        have : b = 0 := by omega
        subst this
        rw [mix_ge (Nat.le_refl _), mix_lt (Nat.lt_succ_self _)]; exact PLe.refl _
      · rw [mix_ge (by omega), mix_ge (by omega)]; exact PLe.refl _
theorem mix_end {x : SLens} {line : List SField} {d : SDoc} : PLe (.rs 2 d.rows.length fun a => at_ .any (rowCells (mixRow x line d d.rows.length a))) (encRows (d.rows.map (overRow x line))) := by
  refine PLe.rowsLe (by rw [List.length_map]) fun a b ha hb => ?_
  rw [mix_lt ha, show (d.rows.map (overRow x line)).getD a noRow = overRow x line (d.rows.getD a noRow) by
    rw [List.getD_eq_getElem?_getD, List.getElem?_map, List.getD_eq_getElem?_getD, List.getElem?_eq_getElem ha]; rfl]
  exact PLe.refl _
end Go.Proofs.YtalpbdabeffnlaaGreat

/- A document over a lens: the reference's walk. -/
set_option linter.unusedVariables false
set_option linter.unusedSimpArgs false
namespace Go.Proofs.YtalpbdabeffnlaaGreat
open Go Go.Av Go.Fl
set_option maxRecDepth 100000
set_option maxHeartbeats 8000000

def overRowR (x : SLens) (line : List SField) (r : SRow) : SRow := ⟨r.item, (entriesR x line r.l).1⟩
def rowsOkR (x : SLens) (line : List SField) (d : SDoc) (i : Nat) : Bool := (entriesR x line (d.rows.getD i noRow).l).2
def overR (l : List SField) (x : SLens) (d : SDoc) : SDoc × Int :=
  if iEq (applyF l x).2 0 then
    if docRight l d then
      if (entriesR x (scopeOf (applyF l x).1 0) d.head).2 then
        if allUpto (rowsOkR x (scopeOf (applyF l x).1 1) d) d.rows.length 0 then (⟨(entriesR x (scopeOf (applyF l x).1 0) d.head).1, d.rows.map (overRowR x (scopeOf (applyF l x).1 1))⟩, 0)
        else (noDoc, 3)
      else (noDoc, 3)
    else (noDoc, 5)
  else (noDoc, (applyF l x).2)
theorem asksR {l : List SField} {x : SLens} {s : Int} {es : List SEntry} (h0 : (applyF l x).2 = 0) (he : entriesOk (scopeOf l s) es = true) :
    ∀ f ∈ scopeOf (applyF l x).1 s, (idxRef (comes2 x) f.place).isSome = true → comeOkR x es := fun f hf hi => by
  rw [comes2_eq (apply_ok h0).1] at hi
  refine come_okR h0 he ?_
  cases q : idxRef (comesOf x) f.place with
  | none => rw [q] at hi; cases hi
  | some k =>
    obtain ⟨h1, h2⟩ := idx_at q
    have hm : f.place ∈ comesOf x := by rw [← h2, List.getD_eq_getElem?_getD, List.getElem?_eq_getElem h1]; exact List.getElem_mem h1
    rw [← scope_comes hm]; exact (scope_mem.1 hf).2
def or0 (l : List SField) (x : SLens) (d : SDoc) : St :=
  told 82 [(4, .pt 0 0), (5, .pt 8 0), (6, .pt 16 0), (8, .p (encFields (applyF l x).1)), (12, .pt 36880 0), (13, vI .i64 0)]
    [(0, some (.box 42 ((lensCells x).map .p))), (8, some (.box 61 ((docCells d).map .p))), (16, some (.box 61 (List.replicate 2 (.p .any)))), (36880, some (.box 61 [.p (encEntries (entriesR x (scopeOf (applyF l x).1 0) d.head).1), .p (.val (.slice none 0 0))]))] [0, 8, 16, 36880]
def or1 (l : List SField) (x : SLens) (d : SDoc) (i : Nat) : St :=
  told 82 [(4, .pt 0 0), (5, .pt 8 0), (6, .pt 16 0), (8, .p (encFields (applyF l x).1)), (12, .pt 36880 0), (13, vI .i64 (i : Int))]
    [(0, some (.box 42 ((lensCells x).map .p))), (8, some (.box 61 ((docCells d).map .p))), (16, some (.box 61 (List.replicate 2 (.p .any)))), (36880, some (.box 61 [.p (encEntries (entriesR x (scopeOf (applyF l x).1 0) d.head).1), .sl 4096])), (4096, rowRows ((d.rows.map (overRowR x (scopeOf (applyF l x).1 1))).take i))] [0, 8, 16, 4096, 36880]
def orS (l : List SField) (x : SLens) (d : SDoc) (i : Nat) : St := match i with | 0 => or0 l x d | i + 1 => or1 l x d (i + 1)
theorem map_at {x : SLens} {line : List SField} {d : SDoc} {i : Nat} (h : i < d.rows.length) : (d.rows.map (overRowR x line)).take (i + 1) = (d.rows.map (overRowR x line)).take i ++ [overRowR x line (d.rows.getD i noRow)] := by
  rw [take_snoc _ noRow (by rw [List.length_map]; exact h)]
  rw [show (d.rows.map (overRowR x line)).getD i noRow = overRowR x line (d.rows.getD i noRow) by
    rw [List.getD_eq_getElem?_getD, List.getElem?_map, List.getD_eq_getElem?_getD, List.getElem?_eq_getElem h]; rfl]
theorem f319 (l : List SField) (x : SLens) (d : SDoc) (hl : fitFields l) (hx : fitLens x) (hd : fitDoc d) : PCall Tryz.prog 29 [encFields l, encLens x, encDoc d] (encOvD (overR l x d)) [] := by
  have hlen := hd.2.1
  have hm := apply_fit hl hx
  refine gcode hT hM Tryz.func29 rfl rfl (rv := [(6, some 61), (7, none)]) rfl rfl rfl fun G hG => ?_
  conv => whnf
  refine CallK.go [] (f50 l x hl hx) rfl rfl rfl rfl rfl ?_
  conv => whnf
  refine ⟨fun b0 => ?_, fun b0 => ?_⟩
  · have b0 : iEq (applyF l x).2 0 = false := nott b0
    conv => whnf
    exact ⟨[], _, _, _, rfl, rfl, rfl, ovd_ret (d := noDoc) (c := (applyF l x).2) (by unfold overR; rw [b0]; rfl) zero_doc (PLe.refl _), trivial⟩
  have b0 : iEq (applyF l x).2 0 = true := notf b0
  have h0 := iEq_t.1 b0
  conv => whnf
  refine CallK.lent (f337 l d hl hd) rfl ?_
  conv => whnf
  refine ⟨fun b1 => ?_, fun b1 => ?_⟩
  · have b1 : docRight l d = false := nott b1
    conv => whnf
    exact ⟨[], _, _, _, rfl, rfl, rfl, ovd_ret (d := noDoc) (c := 5) (by unfold overR; rw [b0, b1]; rfl) zero_doc (PLe.refl _), trivial⟩
  have b1 : docRight l d = true := notf b1
  conv => whnf
  refine CallK.go [] (f35 (applyF l x).1 0 hm) rfl rfl rfl rfl rfl ?_
  conv => whnf
  refine CallK.go [] (f338 x (scopeOf (applyF l x).1 0) d.head hx.ok (scope_fit hm 0) hd.1 (asksR h0 (doc_head b1).2)) rfl rfl rfl rfl rfl ?_
  conv => whnf
  refine ⟨rfl, ?_⟩
  conv => whnf
  refine ⟨fun b2 => ?_, fun b2 => ?_⟩
  · have b2 : (entriesR x (scopeOf (applyF l x).1 0) d.head).2 = false := nott b2
    conv => whnf
    exact ⟨[], _, _, _, rfl, rfl, rfl, ovd_ret (d := noDoc) (c := 3) (by unfold overR; rw [b0, b1, b2]; rfl) zero_doc (PLe.refl _), trivial⟩
  have b2 : (entriesR x (scopeOf (applyF l x).1 0) d.head).2 = true := notf b2
  have hr0 : overR l x d = if allUpto (rowsOkR x (scopeOf (applyF l x).1 1) d) (d.rows.length - 0) 0 then (⟨(entriesR x (scopeOf (applyF l x).1 0) d.head).1, d.rows.map (overRowR x (scopeOf (applyF l x).1 1))⟩, 0) else (noDoc, 3) := by
    unfold overR; rw [b0, b1, b2]; rfl
  conv => whnf
  refine AW.loop (X := Nat) (orS l x d) (fun i => i ≤ d.rows.length ∧ overR l x d = if allUpto (rowsOkR x (scopeOf (applyF l x).1 1) d) (d.rows.length - i) i then (⟨(entriesR x (scopeOf (applyF l x).1 0) d.head).1, d.rows.map (overRowR x (scopeOf (applyF l x).1 1))⟩, 0) else (noDoc, 3)) (fun i => d.rows.length - i) (used0 hG _) 0 ⟨Nat.zero_le _, hr0⟩
    (show StLe _ (or0 l x d) from stle ⟨RepLe.refl _, RepLe.refl _, RepLe.refl _, RepLe.refl _, RepLe.refl _, RepLe.refl _, trivial⟩ ⟨⟨_, rfl, BlkLe.refl _⟩, ⟨_, rfl, BlkLe.refl _⟩, ⟨_, rfl, BlkLe.anys rfl⟩, ⟨_, rfl, BlkLe.refl _⟩, trivial⟩ rfl) ?_
  rintro i ⟨hi, hr⟩
  have hi : i ≤ d.rows.length := hi
  cases i with
  | zero =>
    refine codeK_aw hT hM _ _ _ ?_
    conv => whnf
    refine ⟨fun h4 => ?_, fun h4 => ?_⟩
    · have hlt : 0 < d.rows.length := by rw [iLt_t] at h4; omega
      rw [allUpto_step _ hlt] at hr
      conv => whnf
      refine CallK.go [] (f35 (applyF l x).1 1 hm) rfl rfl rfl rfl rfl ?_
      conv => whnf
      refine ⟨⟨Int.natCast_nonneg _, Int.ofNat_lt.2 (show 0 < d.rows.length from hlt)⟩, ?_⟩
      conv => whnf
      refine CallK.go [] (f338 x (scopeOf (applyF l x).1 1) (d.rows.getD 0 noRow).l hx.ok (scope_fit hm 1) (hd.row 0) (asksR h0 (doc_row b1 hlt))) rfl rfl rfl rfl rfl ?_
      conv => whnf
      refine ⟨rfl, ?_⟩
      conv => whnf
      refine ⟨fun c1 => ?_, fun c1 => ?_⟩
      · have c1 : rowsOkR x (scopeOf (applyF l x).1 1) d 0 = false := nott c1
        rw [c1] at hr
        conv => whnf
        exact ⟨[], _, _, _, rfl, rfl, rfl, ovd_ret (d := noDoc) hr zero_doc (PLe.refl _), trivial⟩
      have c1 : rowsOkR x (scopeOf (applyF l x).1 1) d 0 = true := notf c1
      rw [c1] at hr
      conv => whnf
      refine ⟨⟨Int.natCast_nonneg _, Int.ofNat_lt.2 (show 0 < d.rows.length from hlt)⟩, ?_⟩
      conv => whnf
      refine ⟨⟨show 1 ≤ 9223372036854775807 by decide, show 1 * 40 ≤ 140737488355328 by decide⟩, ?_⟩
      conv => whnf
      refine ⟨rfl, ?_⟩
      conv => whnf
      intro z hz
      have hy := wrap64_eq hz (by omega) (by omega)
      clear hz
      subst hy
      conv => whnf
      exact ⟨0 + 1, ⟨hlt, hr⟩, (show d.rows.length - (0 + 1) < d.rows.length - 0 by omega), (show StLe _ (or1 l x d (0 + 1)) from stleR [(4096, 65624)] ⟨RepLe.refl _, RepLe.refl _, RepLe.refl _, RepLe.refl _, RepLe.refl _, RepLe.of rfl, trivial⟩ ⟨⟨_, rfl, BlkLe.refl _⟩, ⟨_, rfl, BlkLe.refl _⟩, ⟨_, rfl, BlkLe.anys rfl⟩, ⟨_, rfl, BlkLe.refl _⟩, ⟨_, rfl, rowOne2 (y := overRowR x (scopeOf (applyF l x).1 1) (d.rows.getD 0 noRow)) (two (PLe.refl _) (PLe.refl _)) (by rw [map_at hlt]; rfl)⟩, trivial⟩ rfl)⟩
    have hz : 0 = d.rows.length := by rw [iLt_f] at h4; omega
    have hn : d.rows = [] := List.length_eq_zero_iff.1 hz.symm
    rw [← hz, hn] at hr
    conv => whnf
    exact ⟨[], _, _, _, rfl, rfl, rfl, ovd_ret hr (doc2 (PLe.refl _) PLe.nil) (PLe.refl _), trivial⟩
  | succ i =>
    refine codeK_aw hT hM _ _ _ ?_
    conv => whnf
    refine ⟨fun h4 => ?_, fun h4 => ?_⟩
    · have hlt : i + 1 < d.rows.length := by rw [iLt_t] at h4; omega
      rw [allUpto_step _ hlt] at hr
      have hml : ((d.rows.map (overRowR x (scopeOf (applyF l x).1 1))).take (i + 1)).length = i + 1 := by rw [List.length_take, List.length_map]; omega
      conv => whnf
      refine CallK.go [] (f35 (applyF l x).1 1 hm) rfl rfl rfl rfl rfl ?_
      conv => whnf
      refine ⟨⟨Int.natCast_nonneg _, Int.ofNat_lt.2 (show (i + 1) < d.rows.length from hlt)⟩, ?_⟩
      conv => whnf
      refine CallK.go [] (f338 x (scopeOf (applyF l x).1 1) (d.rows.getD (i + 1) noRow).l hx.ok (scope_fit hm 1) (hd.row (i + 1)) (asksR h0 (doc_row b1 hlt))) rfl rfl rfl rfl rfl ?_
      conv => whnf
      refine ⟨rfl, ?_⟩
      conv => whnf
      refine ⟨fun c1 => ?_, fun c1 => ?_⟩
      · have c1 : rowsOkR x (scopeOf (applyF l x).1 1) d (i + 1) = false := nott c1
        rw [c1] at hr
        conv => whnf
        exact ⟨[], _, _, _, rfl, rfl, rfl, ovd_ret (d := noDoc) hr zero_doc (PLe.refl _), trivial⟩
      have c1 : rowsOkR x (scopeOf (applyF l x).1 1) d (i + 1) = true := notf c1
      rw [c1] at hr
      conv => whnf
      refine ⟨⟨Int.natCast_nonneg _, Int.ofNat_lt.2 (show (i + 1) < d.rows.length from hlt)⟩, ?_⟩
      conv => whnf
      refine ⟨⟨show ((d.rows.map (overRowR x (scopeOf (applyF l x).1 1))).take (i + 1)).length + 1 ≤ 9223372036854775807 by omega, show (((d.rows.map (overRowR x (scopeOf (applyF l x).1 1))).take (i + 1)).length + 1) * 40 ≤ 140737488355328 by omega⟩, ?_⟩
      conv => whnf
      refine ⟨rfl, ?_⟩
      conv => whnf
      intro z hz
      have hy := wrap64_eq hz (by omega) (by omega)
      clear hz
      subst hy
      conv => whnf
      exact ⟨(i + 1) + 1, ⟨hlt, hr⟩, (show d.rows.length - ((i + 1) + 1) < d.rows.length - (i + 1) by omega), (show StLe _ (or1 l x d ((i + 1) + 1)) from stleR [(4096, 65624)] ⟨RepLe.refl _, RepLe.refl _, RepLe.refl _, RepLe.refl _, RepLe.refl _, RepLe.of rfl, trivial⟩ ⟨⟨_, rfl, BlkLe.refl _⟩, ⟨_, rfl, BlkLe.refl _⟩, ⟨_, rfl, BlkLe.anys rfl⟩, ⟨_, rfl, BlkLe.refl _⟩, ⟨_, rfl, rowSnoc2 (y := overRowR x (scopeOf (applyF l x).1 1) (d.rows.getD (i + 1) noRow)) (two (PLe.refl _) (PLe.refl _)) (map_at hlt)⟩, trivial⟩ rfl)⟩
    have hz : i + 1 = d.rows.length := by rw [iLt_f] at h4; omega
    have hn : (d.rows.map (overRowR x (scopeOf (applyF l x).1 1))).take (i + 1) = d.rows.map (overRowR x (scopeOf (applyF l x).1 1)) := by rw [hz, ← List.length_map (overRowR x (scopeOf (applyF l x).1 1)), List.take_length]
    rw [← hz, Nat.sub_self] at hr
    conv => whnf
    refine .inl ?_
    conv => whnf
    exact ⟨[], _, _, _, rfl, rfl, rfl, ovd_ret hr (doc2 (PLe.refl _) (by rw [hn]; exact PLe.refl _)) (PLe.refl _), trivial⟩
end Go.Proofs.YtalpbdabeffnlaaGreat

/- The entry that comes: right for its field, and the reference's. -/
set_option linter.unusedVariables false
set_option linter.unusedSimpArgs false
namespace Go.Proofs.YtalpbdabeffnlaaGreat
open Go Go.Av Go.Fl
set_option maxRecDepth 100000

/-! ### Entries that fit -/
theorem fits_count {g : SField} {n : Int} (hg : fieldOk g = true) (k : iEq g.kind 1 = true) (hn : whole n) : fitsEntry g ⟨g.place, n, []⟩ = true := by
  unfold fitsEntry
  rw [hg, k, show sameRef g.place g.place = true from sameRef_self _]
  unfold whole at hn
  simp only [if_true, Bool.true_and, Bool.and_eq_true, iLe_t, iEq_t]
  exact ⟨by omega, by omega, rfl⟩
theorem fits_one {g : SField} {t : ByteArray} (k1 : iEq g.kind 1 = false) (ht : fitsText g t = true) : fitsEntry g ⟨g.place, 0, [t]⟩ = true := by
  have hg : fieldOk g = true := by unfold fitsText at ht; rw [Bool.and_eq_true] at ht; exact ht.1
  unfold fitsEntry
  rw [hg, k1, show sameRef g.place g.place = true from sameRef_self _, iEq_self, show iEq (([t] : List ByteArray).length : Int) 1 = true from iEq_t.2 rfl, show iLt 400 (([t] : List ByteArray).length : Int) = false from iLt_f.2 (show ((1 : Nat) : Int) ≤ 400 by decide), Bool.or_true]
  simp only [Bool.true_and, Bool.false_eq_true, if_false, Bool.not_false, allUpto_iff]
  intro j _ hj
  have : j = 0 := by simp at hj; omega
  subst this
  exact ht
theorem fits_none {g : SField} (hg : fieldOk g = true) (k4 : iEq g.kind 4 = true) : fitsEntry g ⟨g.place, 0, []⟩ = true := by
  unfold fitsEntry
  rw [hg, kinds 4 k4 1 (by decide), k4, show sameRef g.place g.place = true from sameRef_self _, iEq_self, show iLt 400 (([] : List ByteArray).length : Int) = false from iLt_f.2 (by decide)]
  rfl
theorem fits_dflt {g : SField} (hg : fieldOk g = true) (k1 : iEq g.kind 1 = false) (k4 : iEq g.kind 4 = false) : fitsText g g.dflt = true := by
  unfold fitsText
  rw [hg, k4]
  unfold fieldOk at hg
  simp only [Bool.and_eq_true] at hg
  have h := hg.2.2.2
  rw [k1, k4] at h
  cases k2 : iEq g.kind 2 with
  | true => rw [k2] at h; exact h
  | false =>
    rw [k2] at h
    cases k3 : iEq g.kind 3 with
    | true =>
      rw [k3] at h
      have h : casesOk g = true := h
      unfold casesOk at h
      simp only [Bool.and_eq_true] at h
      exact h.2.2.2
    | false => rw [k3] at h; cases h
theorem value_count {g : SField} (k : iEq g.kind 1 = true) : valueF g = ⟨g.place, 0, []⟩ := by unfold valueF; rw [k]; rfl
theorem value_list {g : SField} (k : iEq g.kind 4 = true) : valueF g = ⟨g.place, 0, []⟩ := by unfold valueF; rw [k, Bool.not_true, Bool.and_false]; rfl
theorem value_text {g : SField} (k1 : iEq g.kind 1 = false) (k4 : iEq g.kind 4 = false) : valueF g = ⟨g.place, 0, [g.dflt]⟩ := by unfold valueF; rw [k1, k4]; rfl
theorem value_n (g : SField) : (valueF g).n = 0 := rfl
theorem value_place (g : SField) : (valueF g).place = g.place := rfl
theorem value_fits {g : SField} (hg : fieldOk g = true) : fitsEntry g (valueF g) = true := by
  cases k1 : iEq g.kind 1 with
  | true => rw [value_count k1]; exact fits_count hg k1 (by unfold whole; decide)
  | false =>
    cases k4 : iEq g.kind 4 with
    | true => rw [value_list k4]; exact fits_none hg k4
    | false => rw [value_text k1 k4]; exact fits_one k1 (fits_dflt hg k1 k4)
theorem fits_moved {f : SField} {e : SEntry} {c : SRef} (h : fitsEntry f e = true) (hg : fieldOk { f with place := c } = true) : fitsEntry { f with place := c } { e with place := c } = true := by
  have hf := (fits_ref h).1
  have ht : fitsText { f with place := c } = fitsText f := by
    funext s; unfold fitsText; rw [hf, hg]
  unfold fitsEntry at h ⊢
  rw [hf] at h
  rw [hg, show sameRef ({ e with place := c } : SEntry).place ({ f with place := c } : SField).place = true from sameRef_self c, ht]
  simp only [Bool.and_eq_true] at h
  exact h.2.2
/-! ### The first that comes -/
theorem field_ok {m : List SField} (h : rightFields m = true) {g : SField} (hg : g ∈ m) : fieldOk g = true := by
  obtain ⟨j, hj, e⟩ := getD_mem hg
  have := (right_step h hj).1
  rw [e] at this; exact this
theorem first_is {l : List SField} {x : SLens} (h0 : (applyF l x).2 = 0) {c : SRef} {cs : List SRef} (hc : comesOf x = c :: cs) {g : SField} (hg : g ∈ (applyF l x).1) (hp : g.place = c) :
    ∃ was, was = (goesOf x).map (fun r => (fieldAt l (placeIn l r)).1) ∧ (turnedOf x was).2 = true ∧ g = { (turnedOf x was).1.getD 0 noField with place := c } := by
  obtain ⟨was, hw, hb, _, hf⟩ := apply_first h0 hc
  obtain ⟨j, hj, e⟩ := find_mem (apply_right h0) hg
  rw [hp] at hj
  rw [hj] at hf
  refine ⟨was, hw, hb, ?_⟩
  have : (applyF l x).1.getD j noField = _ := congrArg Prod.fst hf
  exact e.symm.trans this
theorem text_any {f : SField} {t : ByteArray} (h : fitsText f t = true) (k : iEq f.kind 2 = true ∨ iEq f.kind 4 = true) : textOk t = true := by
  unfold fitsText at h
  rw [Bool.and_eq_true] at h
  have h2 := h.2
  rcases k with k | k
  · rw [k] at h2; exact h2
  · rw [k, Bool.or_true] at h2; exact h2
theorem text_fits {g : SField} {t : ByteArray} (hg : fieldOk g = true) (k : iEq g.kind 2 = true ∨ iEq g.kind 4 = true) (h : textOk t = true) : fitsText g t = true := by
  unfold fitsText
  rw [hg]
  rcases k with k | k
  · rw [k]; exact h
  · rw [k, Bool.or_true]; exact h
theorem case_fits {x : SLens} (hx : lensOk x = true) (k : iEq x.kind 8 = true) {t : ByteArray} (ht : hasB (fromsOf x.forth) t = true) : hasB (fromsOf x.back) (caseOf x.forth t).1 = true := by
  rw [← case_has] at ht
  obtain ⟨i, hi, h1, h2⟩ := case_pair ht
  rw [← h2, ← case_has]
  unfold lensOk restOk kindOk at hx
  rw [kinds 8 k 2 (by decide), kinds 8 k 3 (by decide), kinds 8 k 1 (by decide), kinds 8 k 4 (by decide), kinds 8 k 5 (by decide), kinds 8 k 6 (by decide), kinds 8 k 9 (by decide), kinds 8 k 7 (by decide), kinds 8 k 10 (by decide)] at hx
  simp only [Bool.or_self, Bool.false_eq_true, if_false, Bool.and_eq_true] at hx
  have hc := hx.2.2.2.2
  unfold convOk forthOk at hc
  simp only [Bool.and_eq_true, allUpto_iff] at hc
  exact (hc.1.2.2 i (Nat.zero_le _) (by omega)).1
theorem comes_k1 {x : SLens} (hx : lensOk x = true) (h3 : iEq x.kind 3 = false) (h6 : iEq x.kind 6 = false) {r : SRef} {k : Nat} (hk : idxRef (comesOf x) r = some k) : k = 0 ∧ comesOf x = [r] := by
  have hl := comes_one hx h3 h6
  obtain ⟨a, ha⟩ := one_len hl
  obtain ⟨h1, h2⟩ := idx_at hk
  have : k = 0 := by omega
  subst this
  rw [ha] at h2 ⊢
  have h2 : a = r := h2
  rw [h2]; exact ⟨rfl, rfl⟩
end Go.Proofs.YtalpbdabeffnlaaGreat
