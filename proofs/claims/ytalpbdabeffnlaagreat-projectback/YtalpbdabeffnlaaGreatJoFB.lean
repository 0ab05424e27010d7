import Derived.Test.YtalpbdabeffnlaaGreatJoEZ
import Derived.Test.YtalpbdabeffnlaaGreatJoET
/- ProjectOver: the law's function. -/
set_option linter.unusedVariables false
set_option linter.unusedSimpArgs false
namespace Go.Proofs.YtalpbdabeffnlaaGreat
open Go Go.Av Go.Fl
set_option maxRecDepth 100000
set_option maxHeartbeats 4000000

theorem sameEntry_self (e : SEntry) : sameEntry e e = true := by unfold sameEntry; rw [sameRef_self, iEq_self, sameStrs_self]; rfl
theorem sameEntries_self (l : List SEntry) : sameEntries l l = true := by
  unfold sameEntries
  rw [Bool.and_eq_true, allUpto_iff]
  exact ⟨by simp, fun j _ _ => sameEntry_self _⟩
theorem sameDoc_self (d : SDoc) : sameDoc d d = true := by
  unfold sameDoc
  rw [Bool.and_eq_true, Bool.and_eq_true, allUpto_iff]
  exact ⟨by simp, sameEntries_self _, fun j _ _ => by unfold sameDocRow; rw [sEq_self, sameEntries_self]; rfl⟩
/-- What is right can be copied. -/
theorem ents_fit {l : List SField} {es : List SEntry} (h : entriesOk l es = true) (hl : l.length ≤ 1954687338211) : fitEntries es := by
  have hlen := entries_len h
  refine ⟨by omega, fun e he => ?_⟩
  obtain ⟨i, hi, rfl⟩ := List.getElem_of_mem he
  have h1 := entries_at h (i := i) (by omega)
  have e : es.getD i noEntry = es[i] := by rw [List.getD_eq_getElem?_getD, List.getElem?_eq_getElem hi]; rfl
  rw [e] at h1
  show es[i].texts.length ≤ 8796093022208
  cases k1 : iEq (l.getD i noField).kind 1 with
  | true => rw [(whole_of h1 k1).2]; exact Nat.zero_le _
  | false =>
    cases k4 : iEq (l.getD i noField).kind 4 with
    | true => exact Nat.le_trans (list_of h1 k4).2.1 (by decide)
    | false => rw [(text_of h1 k1 k4).2.1]; exact (show 1 ≤ 8796093022208 by decide)
theorem doc_fit {l : List SField} {d : SDoc} (h : docRight l d = true) (hl : fitFields l) : fitDoc d := by
  have hl2 := hl.1
  have small : ∀ s, (scopeOf l s).length ≤ 1954687338211 := fun s => by
    unfold docRight rightFields at h
    simp only [Bool.and_eq_true, iLe_t] at h
    have := h.1.1
    exact Nat.le_trans (List.length_filter_le _ _) (by omega)
  refine ⟨ents_fit (doc_head h).2 (small 0), ?_, fun r hr => ?_⟩
  · unfold docRight at h
    simp only [Bool.and_eq_true, Bool.not_eq_true', iLt_f] at h
    have := h.2.1
    omega
  · obtain ⟨i, hi, rfl⟩ := List.getElem_of_mem hr
    have e : d.rows.getD i noRow = d.rows[i] := by rw [List.getD_eq_getElem?_getD, List.getElem?_eq_getElem hi]; rfl
    rw [← e]
    exact ents_fit (doc_row h hi) (small 1)
theorem odoc_fit {l : List SField} {x : SLens} {d : SDoc} (hl : fitFields l) (hx : fitLens x) : fitDoc (overP l x d).1 := by
  cases q : iEq (overP l x d).2 0 with
  | true => exact doc_fit (over_right (iEq_t.1 q)) (apply_fit hl hx)
  | false =>
    rw [over_bad (iEq_f.1 q)]
    exact ⟨⟨Nat.zero_le _, fun e he => by cases he⟩, Nat.zero_le _, fun r hr => by cases hr⟩
theorem f317e (d : SDoc) (hd : fitDoc d) (h : d.rows.length = 0) : PCall Tryz.prog 27 [encDoc d] (.p (encDoc d)) [] := by
  obtain ⟨hh, rows⟩ := d
  have h : rows.length = 0 := h
  obtain rfl := List.length_eq_zero_iff.1 h
  exact f317n hh hd.1
theorem f302 (l : List SField) (x : SLens) (d : SDoc) (hl : fitFields l) (hx : fitLens x) (hd : fitDoc d) : PCall Tryz.prog 5 [encFields l, encLens x, encDoc d] (.p (.val (.bool true))) [] := by
  have hout := odoc_fit (d := d) hl hx
  have hm := apply_fit hl hx
  have c319 := f319 l x d hl hx hd
  rw [over_ref] at c319
  have hs1 := sameDoc_self (overP l x d).1
  have hs2 := sameDoc_self d
  have c320 := f320 (overP l x d).1 (overP l x d).1 hout
  rw [hs1] at c320
  have d320 := f320 d d hd
  rw [hs2] at d320
  refine gcode hT hM Tryz.func5 rfl rfl (rv := [(6, none)]) rfl rfl rfl fun G hG => ?_
  conv => whnf
  refine CallK.lent (f315) rfl ?_
  conv => whnf
  refine ⟨fun h => ?_, fun h => ?_⟩
  · cases h
  conv => whnf
  refine CallK.lent (f26 l hl.ok) rfl ?_
  conv => whnf
  refine ⟨fun g1 => ?_, fun g1 => ?_⟩
  · conv => whnf
    exact ⟨[], _, _, _, rfl, rfl, rfl, RepLe.bl rfl, trivial⟩
  conv => whnf
  refine CallK.lent (f21 x hx.ok) rfl ?_
  conv => whnf
  refine ⟨fun g2 => ?_, fun g2 => ?_⟩
  · conv => whnf
    exact ⟨[], _, _, _, rfl, rfl, rfl, RepLe.bl rfl, trivial⟩
  conv => whnf
  refine CallK.lent (f316 d hd) rfl ?_
  conv => whnf
  refine ⟨fun g3 => ?_, fun g3 => ?_⟩
  · conv => whnf
    exact ⟨[], _, _, _, rfl, rfl, rfl, RepLe.bl rfl, trivial⟩
  conv => whnf
  rcases Nat.eq_zero_or_pos d.rows.length with hz | hz
  · refine CallK.go [] (f317e d hd hz) rfl rfl rfl rfl rfl ?_
    conv => whnf
    refine CallK.go [] (f318 l x d hl hx hd) rfl rfl rfl rfl rfl ?_
    conv => whnf
    refine CallK.go [] (c319) rfl rfl rfl rfl rfl ?_
    conv => whnf
    refine ⟨fun n1 => ?_, fun n1 => ?_⟩
    · rw [iEq_self] at n1; cases n1
    clear n1
    conv => whnf
    refine CallK.lent (c320) rfl ?_
    conv => whnf
    refine ⟨fun n2 => ?_, fun n2 => ?_⟩
    · cases n2
    clear n2
    conv => whnf
    skip
    refine CallK.lent (d320) rfl ?_
    conv => whnf
    refine ⟨fun n3 => ?_, fun n3 => ?_⟩
    · cases n3
    clear n3
    conv => whnf
    refine CallK.go [] (f49 l x hl hx) rfl rfl rfl rfl rfl ?_
    conv => whnf
    refine ⟨fun n4 => ?_, fun n4 => ?_⟩
    · conv => whnf
      exact ⟨[], _, _, _, rfl, rfl, rfl, RepLe.bl rfl, trivial⟩
    have n4 : iEq (overP l x d).2 0 = true := notf n4
    conv => whnf
    refine CallK.lent (f321 (applyF l x).1 (overP l x d).1 hm hout) rfl ?_
    conv => whnf
    exact ⟨[], _, _, _, rfl, rfl, rfl, RepLe.vb (over_right (iEq_t.1 n4)), trivial⟩
  refine CallK.go [] (f317o d hd hz) rfl rfl rfl rfl rfl ?_
  conv => whnf
  refine CallK.go [] (f318 l x d hl hx hd) rfl rfl rfl rfl rfl ?_
  conv => whnf
  refine CallK.go [] (c319) rfl rfl rfl rfl rfl ?_
  conv => whnf
  refine ⟨fun n1 => ?_, fun n1 => ?_⟩
  · rw [iEq_self] at n1; cases n1
  clear n1
  conv => whnf
  refine CallK.lent (c320) rfl ?_
  conv => whnf
  refine ⟨fun n2 => ?_, fun n2 => ?_⟩
  · cases n2
  clear n2
  conv => whnf
  refine .inl ?_
  conv => whnf
  refine CallK.lent (d320) rfl ?_
  conv => whnf
  refine ⟨fun n3 => ?_, fun n3 => ?_⟩
  · cases n3
  clear n3
  conv => whnf
  refine CallK.go [] (f49 l x hl hx) rfl rfl rfl rfl rfl ?_
  conv => whnf
  refine ⟨fun n4 => ?_, fun n4 => ?_⟩
  · conv => whnf
    exact ⟨[], _, _, _, rfl, rfl, rfl, RepLe.bl rfl, trivial⟩
  have n4 : iEq (overP l x d).2 0 = true := notf n4
  conv => whnf
  refine CallK.lent (f321 (applyF l x).1 (overP l x d).1 hm hout) rfl ?_
  conv => whnf
  exact ⟨[], _, _, _, rfl, rfl, rfl, RepLe.vb (over_right (iEq_t.1 n4)), trivial⟩
end Go.Proofs.YtalpbdabeffnlaaGreat

/- ProjectBack: the law's function. -/
set_option linter.unusedVariables false
set_option linter.unusedSimpArgs false
namespace Go.Proofs.YtalpbdabeffnlaaGreat
open Go Go.Av Go.Fl
set_option maxRecDepth 100000
set_option maxHeartbeats 4000000

theorem allP_zero {x : SLens} {w es : List SEntry} : ∀ (fs : List SField) (acc : List SEntry), (∀ f ∈ fs, (stepP x w es f).2 = 0) → allP x w es fs acc = (acc ++ fs.map (fun f => (stepP x w es f).1), 0)
  | [], acc, _ => by simp [allP]
  | f :: fs, acc, h => by
    have h1 := h f List.mem_cons_self
    unfold allP
    rw [h1, show iEq (0 : Int) 0 = true from iEq_self 0, if_pos rfl, allP_zero fs _ (fun g hg => h g (List.mem_cons_of_mem _ hg))]
    rw [List.map_cons, List.append_assoc]; rfl
theorem ents_same {l : List SField} {s : Int} {es : List SEntry} (h : rightFields l = true) (he : entriesOk (scopeOf l s) es = true) : (scopeOf l s).map (fun f => (atF es f.place).1) = es := by
  refine List.ext_getElem (by rw [List.length_map]; exact entries_len he) fun i h1 h2 => ?_
  rw [List.getElem_map]
  have hi : i < (scopeOf l s).length := by rw [List.length_map] at h1; exact h1
  have := entry_is h he hi
  rw [List.getD_eq_getElem?_getD, List.getElem?_eq_getElem hi, List.getD_eq_getElem?_getD, List.getElem?_eq_getElem h2] at this
  exact this
theorem back_ents {l : List SField} {x : SLens} {s : Int} {es : List SEntry} (h0 : (applyF l x).2 = 0) (he : entriesOk (scopeOf l s) es = true) (hp : (entriesP x (scopeOf (applyF l x).1 s) es).2 = 0) (ht : Turns x) :
    entriesP (turnOf x) (scopeOf l s) (entriesP x (scopeOf (applyF l x).1 s) es).1 = (es, 0) := by
  obtain ⟨hx, hl⟩ := apply_ok h0
  obtain ⟨_, e, ok⟩ := (ents_law h0 he).2 hp
  have e : (entriesP x (scopeOf (applyF l x).1 s) es).1 = outOf l x s es := e
  rw [e] at ok ⊢
  have step : ∀ f ∈ scopeOf l s, stepP (turnOf x) (wentP (turnOf x) (outOf l x s es)) (outOf l x s es) f = ((atF es f.place).1, 0) := fun f hf => by
    obtain ⟨h1, h2⟩ := scope_mem.1 hf
    exact back_step h0 he ok ht h1 h2
  unfold entriesP
  rw [allP_zero _ _ (fun f hf => by rw [step f hf])]
  rw [List.nil_append, List.map_congr_left (g := fun f => (atF es f.place).1) (fun f hf => by rw [step f hf]), ents_same hl he]
theorem back_over {l : List SField} {x : SLens} {d : SDoc} (h : (overP l x d).2 = 0) (ht : Turns x) : overP (applyF l x).1 (turnOf x) (overP l x d).1 = (d, 0) := by
  have hr := over_right h
  obtain ⟨h0, b1, b2, b3, e⟩ := over_parts h
  have hb : applyF (applyF l x).1 (turnOf x) = (l, 0) := back_all h0
  have eh := back_ents h0 (doc_head b1).2 b2 ht
  have er : ∀ i, i < d.rows.length → entriesP (turnOf x) (scopeOf l 1) (entriesP x (scopeOf (applyF l x).1 1) (d.rows.getD i noRow).l).1 = ((d.rows.getD i noRow).l, 0) := fun i hi => back_ents h0 (doc_row b1 hi) (b3 i hi) ht
  rw [e] at hr ⊢
  unfold overP
  rw [hb, hr]
  show (if iEq 0 0 = true then if true = true then if iEq (entriesP (turnOf x) (scopeOf l 0) (entriesP x (scopeOf (applyF l x).1 0) d.head).1).2 0 = true then _ else _ else _ else _) = _
  rw [iEq_self, eh]
  show (if iEq 0 0 = true then if allUpto (rowsOk (turnOf x) (scopeOf l 1) ⟨(entriesP x (scopeOf (applyF l x).1 0) d.head).1, d.rows.map (overRow x (scopeOf (applyF l x).1 1))⟩) (d.rows.map (overRow x (scopeOf (applyF l x).1 1))).length 0 = true then ((⟨d.head, (d.rows.map (overRow x (scopeOf (applyF l x).1 1))).map (overRow (turnOf x) (scopeOf l 1))⟩ : SDoc), (0 : Int)) else _ else _) = _
  have hall : allUpto (rowsOk (turnOf x) (scopeOf l 1) ⟨(entriesP x (scopeOf (applyF l x).1 0) d.head).1, d.rows.map (overRow x (scopeOf (applyF l x).1 1))⟩) (d.rows.map (overRow x (scopeOf (applyF l x).1 1))).length 0 = true := by
    rw [allUpto_iff]
    intro i _ hi
    have hi : i < d.rows.length := by rw [List.length_map] at hi; omega
    unfold rowsOk
    show iEq (entriesP (turnOf x) (scopeOf l 1) ((d.rows.map (overRow x (scopeOf (applyF l x).1 1))).getD i noRow).l).2 0 = true
    rw [row_at hi]
    show iEq (entriesP (turnOf x) (scopeOf l 1) (entriesP x (scopeOf (applyF l x).1 1) (d.rows.getD i noRow).l).1).2 0 = true
    rw [er i hi]; exact iEq_self 0
  have hrows : (d.rows.map (overRow x (scopeOf (applyF l x).1 1))).map (overRow (turnOf x) (scopeOf l 1)) = d.rows := by
    rw [List.map_map]
    have : ∀ r ∈ d.rows, (overRow (turnOf x) (scopeOf l 1) ∘ overRow x (scopeOf (applyF l x).1 1)) r = id r := fun r hr => by
      obtain ⟨i, hi, rfl⟩ := List.getElem_of_mem hr
      have e : d.rows.getD i noRow = d.rows[i] := by rw [List.getD_eq_getElem?_getD, List.getElem?_eq_getElem hi]; rfl
      have := er i hi
      rw [e] at this
      show (⟨d.rows[i].item, (entriesP (turnOf x) (scopeOf l 1) (entriesP x (scopeOf (applyF l x).1 1) d.rows[i].l).1).1⟩ : SRow) = d.rows[i]
      rw [this]
    rw [List.map_congr_left this, List.map_id]
  rw [iEq_self, hall, hrows]
  rfl
theorem kept_round {x : SLens} (hx : lensOk x = true) (k : iEq x.kind 8 = true) (h : keptF x x.place = true) : roundB x.forth x.back = true := by
  unfold keptF at h
  rw [hx, goes_one hx (kinds 8 k 2 (by decide)) (kinds 8 k 3 (by decide)) (kinds 8 k 9 (by decide)), show idxRef [x.place] x.place = some 0 from idx_zero (l := [x.place]) Nat.zero_lt_one rfl, kinds 8 k 3 (by decide), k] at h
  exact h
end Go.Proofs.YtalpbdabeffnlaaGreat

/- ProjectBack: the law's function, walked. -/
set_option linter.unusedVariables false
set_option linter.unusedSimpArgs false
namespace Go.Proofs.YtalpbdabeffnlaaGreat
open Go Go.Av Go.Fl
set_option maxRecDepth 100000
set_option maxHeartbeats 4000000

theorem f304 (l : List SField) (x : SLens) (d : SDoc) (hl : fitFields l) (hx : fitLens x) (hd : fitDoc d) : PCall Tryz.prog 7 [encFields l, encLens x, encDoc d] (.p (.val (.bool true))) [] := by
  have hout := odoc_fit (d := d) hl hx
  have hm := apply_fit hl hx
  have hs2 := sameDoc_self d
  have d320 := f320 d d hd
  rw [hs2] at d320
  refine gcode hT hM Tryz.func7 rfl rfl (rv := [(6, none)]) rfl rfl rfl fun G hG => ?_
  conv => whnf
  refine CallK.lent (f315) rfl ?_
  conv => whnf
  refine ⟨fun h => ?_, fun h => ?_⟩
  · cases h
  conv => whnf
  refine CallK.lent (f26 l hl.ok) rfl ?_
  conv => whnf
  refine ⟨fun g1 => ?_, fun g1 => ?_⟩
  · conv => whnf
    exact ⟨[], _, _, _, rfl, rfl, rfl, RepLe.bl rfl, trivial⟩
  conv => whnf
  refine CallK.lent (f21 x hx.ok) rfl ?_
  conv => whnf
  refine ⟨fun g2 => ?_, fun g2 => ?_⟩
  · conv => whnf
    exact ⟨[], _, _, _, rfl, rfl, rfl, RepLe.bl rfl, trivial⟩
  conv => whnf
  refine CallK.lent (f316 d hd) rfl ?_
  conv => whnf
  refine ⟨fun g3 => ?_, fun g3 => ?_⟩
  · conv => whnf
    exact ⟨[], _, _, _, rfl, rfl, rfl, RepLe.bl rfl, trivial⟩
  conv => whnf
  refine CallK.go [] (f318 l x d hl hx hd) rfl rfl rfl rfl rfl ?_
  conv => whnf
  refine ⟨fun b0 => ?_, fun b0 => ?_⟩
  · have b0 : iEq (overP l x d).2 0 = false := nott b0
    have hn := over_bad (iEq_f.1 b0)
    have e320 := f320 (overP l x d).1 noDoc hout
    rw [show sameDoc (overP l x d).1 noDoc = true by rw [hn]; exact sameDoc_self noDoc] at e320
    conv => whnf
    refine CallK.lent (GCall.args e320 ?hh) rfl ?_
    case hh => exact allLe2 (RepLe.refl _) (PLe.rep zero_doc)
    conv => whnf
    exact ⟨[], _, _, _, rfl, rfl, rfl, RepLe.refl _, trivial⟩
  have b0 : iEq (overP l x d).2 0 = true := notf b0
  have hz := iEq_t.1 b0
  obtain ⟨h0, _, _, _, _⟩ := over_parts hz
  obtain ⟨hok, _⟩ := apply_ok h0
  have c22 := f22 x hx
  rw [show inverse x = (turnOf x, 0) by unfold inverse; rw [hok]; rfl] at c22
  have c318 : Turns x → PCall Tryz.prog 28 [encFields (applyF l x).1, encLens (turnOf x), encDoc (overP l x d).1] (encOvD (d, 0)) [] := fun ht => by
    rw [← back_over hz ht]
    exact f318 (applyF l x).1 (turnOf x) (overP l x d).1 hm (turnOf_fit hx) hout
  conv => whnf
  refine ⟨fun k1 => ?_, fun k1 => ?_⟩
  · conv => whnf
    refine ⟨fun _ => ?_, fun h => Bool.noConfusion (k1.symm.trans h)⟩
    conv => whnf
    refine CallK.go [] (f49 l x hl hx) rfl rfl rfl rfl rfl ?_
    conv => whnf
    refine CallK.go [] (c22) rfl rfl rfl rfl rfl ?_
    conv => whnf
    refine CallK.go [] ((c318 (.inl (.inl k1)))) rfl rfl rfl rfl rfl ?_
    conv => whnf
    refine ⟨fun z1 => ?_, fun z1 => ?_⟩
    · conv => whnf
      refine CallK.lent (d320) rfl ?_
      conv => whnf
      exact ⟨[], _, _, _, rfl, rfl, rfl, RepLe.refl _, trivial⟩
    · rw [iEq_self] at z1; cases z1
  conv => whnf
  refine ⟨fun k4 => ?_, fun k4 => ?_⟩
  · conv => whnf
    refine ⟨fun _ => ?_, fun h => Bool.noConfusion (k4.symm.trans h)⟩
    conv => whnf
    refine CallK.go [] (f49 l x hl hx) rfl rfl rfl rfl rfl ?_
    conv => whnf
    refine CallK.go [] (c22) rfl rfl rfl rfl rfl ?_
    conv => whnf
    refine CallK.go [] ((c318 (.inl (.inr (.inl k4))))) rfl rfl rfl rfl rfl ?_
    conv => whnf
    refine ⟨fun z1 => ?_, fun z1 => ?_⟩
    · conv => whnf
      refine CallK.lent (d320) rfl ?_
      conv => whnf
      exact ⟨[], _, _, _, rfl, rfl, rfl, RepLe.refl _, trivial⟩
    · rw [iEq_self] at z1; cases z1
  conv => whnf
  refine ⟨fun k5 => ?_, fun k5 => ?_⟩
  · conv => whnf
    refine ⟨fun _ => ?_, fun h => Bool.noConfusion (k5.symm.trans h)⟩
    conv => whnf
    refine CallK.go [] (f49 l x hl hx) rfl rfl rfl rfl rfl ?_
    conv => whnf
    refine CallK.go [] (c22) rfl rfl rfl rfl rfl ?_
    conv => whnf
    refine CallK.go [] ((c318 (.inl (.inr (.inr k5))))) rfl rfl rfl rfl rfl ?_
    conv => whnf
    refine ⟨fun z1 => ?_, fun z1 => ?_⟩
    · conv => whnf
      refine CallK.lent (d320) rfl ?_
      conv => whnf
      exact ⟨[], _, _, _, rfl, rfl, rfl, RepLe.refl _, trivial⟩
    · rw [iEq_self] at z1; cases z1
  conv => whnf
  refine ⟨fun k6 => ?_, fun k6 => ?_⟩
  · conv => whnf
    refine ⟨fun _ => ?_, fun h => Bool.noConfusion (k6.symm.trans h)⟩
    conv => whnf
    refine CallK.go [] (f49 l x hl hx) rfl rfl rfl rfl rfl ?_
    conv => whnf
    refine CallK.go [] (c22) rfl rfl rfl rfl rfl ?_
    conv => whnf
    refine CallK.go [] ((c318 (.inr (.inl k6)))) rfl rfl rfl rfl rfl ?_
    conv => whnf
    refine ⟨fun z1 => ?_, fun z1 => ?_⟩
    · conv => whnf
      refine CallK.lent (d320) rfl ?_
      conv => whnf
      exact ⟨[], _, _, _, rfl, rfl, rfl, RepLe.refl _, trivial⟩
    · rw [iEq_self] at z1; cases z1
  conv => whnf
  refine ⟨fun k7 => ?_, fun k7 => ?_⟩
  · conv => whnf
    refine CallK.go [] (f49 l x hl hx) rfl rfl rfl rfl rfl ?_
    conv => whnf
    refine CallK.go [] (c22) rfl rfl rfl rfl rfl ?_
    conv => whnf
    refine CallK.go [] ((c318 (.inr (.inr (.inl k7))))) rfl rfl rfl rfl rfl ?_
    conv => whnf
    refine ⟨fun z1 => ?_, fun z1 => ?_⟩
    · conv => whnf
      refine CallK.lent (d320) rfl ?_
      conv => whnf
      exact ⟨[], _, _, _, rfl, rfl, rfl, RepLe.refl _, trivial⟩
    · rw [iEq_self] at z1; cases z1
  conv => whnf
  refine ⟨fun k8 => ?_, fun k8 => ?_⟩
  · conv => whnf
    refine CallK.lent (f322 x x.place hx) rfl ?_
    conv => whnf
    refine ⟨fun r1 => ?_, fun r1 => ?_⟩
    · conv => whnf
      exact ⟨[], _, _, _, rfl, rfl, rfl, RepLe.bl rfl, trivial⟩
    have r1 : keptF x x.place = true := notf r1
    conv => whnf
    refine CallK.go [] (f49 l x hl hx) rfl rfl rfl rfl rfl ?_
    conv => whnf
    refine CallK.go [] (c22) rfl rfl rfl rfl rfl ?_
    conv => whnf
    refine CallK.go [] ((c318 (.inr (.inr (.inr ⟨k8, kept_round hok k8 r1⟩))))) rfl rfl rfl rfl rfl ?_
    conv => whnf
    refine ⟨fun z1 => ?_, fun z1 => ?_⟩
    · conv => whnf
      refine CallK.lent (d320) rfl ?_
      conv => whnf
      exact ⟨[], _, _, _, rfl, rfl, rfl, RepLe.refl _, trivial⟩
    · rw [iEq_self] at z1; cases z1
  conv => whnf
  exact ⟨[], _, _, _, rfl, rfl, rfl, RepLe.bl rfl, trivial⟩
end Go.Proofs.YtalpbdabeffnlaaGreat
