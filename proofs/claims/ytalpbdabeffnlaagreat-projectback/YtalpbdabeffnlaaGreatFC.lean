/- ProjectBack: for every input, and for every order in which the drawn operations go, the law returns true and leaves its arguments as they were: 'ProjectBackSaid' as given. Conditions: none beyond the given statement's own. -/
import Derived.Test.YtalpbdabeffnlaaGreatJoFB
import Derived.Test.YtalpbdabeffnlaaGreatAvOpen
import Derived.Test.YtalpbdabeffnlaaGreatRows
import Derived.ProofKit
import Derived.Carry
import Derived.HandedShaped
set_option linter.unusedVariables false
set_option linter.unusedSimpArgs false
namespace Go.Proofs.YtalpbdabeffnlaaGreat
open Go Go.Av Go.ChangeShapes Go.WideShapes Go.ChangeAt Go.RowKit
set_option maxRecDepth 100000

theorem c2 : Tryz.prog.cellsOf 2 = 1 := by kernel_rfl
theorem c3 : Tryz.prog.cellsOf 3 = 1 := by kernel_rfl
theorem c9 : Tryz.prog.cellsOf 9 = 1 := by kernel_rfl
theorem c27 : Tryz.prog.cellsOf 36 = 3 := by kernel_rfl
theorem c28 : Tryz.prog.cellsOf 37 = 1 := by kernel_rfl
theorem c30 : Tryz.prog.cellsOf 39 = 7 := by kernel_rfl
theorem c31 : Tryz.prog.cellsOf 40 = 1 := by kernel_rfl
theorem c33 : Tryz.prog.cellsOf 42 = 16 := by kernel_rfl
theorem c77 : Tryz.prog.cellsOf 128 = 2 := by kernel_rfl
theorem b9 : Tryz.prog.bytesOf 9 = 16 := by kernel_rfl
theorem b77 : Tryz.prog.bytesOf 128 = 32 := by kernel_rfl

theorem opens_ref : Opens Tryz.prog 36 SRef refCells fun _ => True := by
  intro H enc w fuel cs d ps h1 h2
  obtain ⟨hl, hf⟩ := struct_parts Tryz.underlying36 c27 h1 h2
  obtain ⟨a, _, ha⟩ := hf 0 _ rfl 1 c3 (opens_int Tryz.underlying3)
  obtain ⟨b, _, hb⟩ := hf 1 _ rfl 1 c9 (opens_str Tryz.underlying9)
  obtain ⟨c, _, hc⟩ := hf 2 _ rfl 1 c9 (opens_str Tryz.underlying9)
  exact ⟨⟨a, b, c⟩, trivial, CellsAre.cons (o := 0) (k := 1) (by omega) ha (CellsAre.cons (o := 1) (k := 1) (by omega) hb (CellsAre.cons (o := 2) (k := 1) (by omega) hc (CellsAre.nil hl)))⟩
theorem opens_pair : Opens Tryz.prog 128 SPair pairCells fun _ => True := by
  intro H enc w fuel cs d ps h1 h2
  obtain ⟨hl, hf⟩ := struct_parts Tryz.underlying128 c77 h1 h2
  obtain ⟨a, _, ha⟩ := hf 0 _ rfl 1 c9 (opens_str Tryz.underlying9)
  obtain ⟨b, _, hb⟩ := hf 1 _ rfl 1 c9 (opens_str Tryz.underlying9)
  exact ⟨⟨a, b⟩, trivial, CellsAre.cons (o := 0) (k := 1) (by omega) ha (CellsAre.cons (o := 1) (k := 1) (by omega) hb (CellsAre.nil hl))⟩
theorem opens_strs : Opens Tryz.prog 37 (List ByteArray) (fun l => [encStrs l]) fun l => l.length ≤ 8796093022208 := by
  refine (opens_list Tryz.underlying37 (opens_str Tryz.underlying9) c9 b9 (by decide) noS).as fun l hl => ⟨l, ?_, ?_, trivial⟩
  · have h : l.length * 16 ≤ 140737488351232 := hl.1
    omega
  · refine PLe.rows rfl fun i j hi hj => ?_
    have : j = 0 := by omega
    subst this; rfl
theorem opens_pairs : Opens Tryz.prog 40 (List SPair) (fun l => [encPairs l]) fun l => l.length ≤ 4398046511104 := by
  refine (opens_list Tryz.underlying40 opens_pair c77 b77 (by decide) noPair).as fun l hl => ⟨l, ?_, PLe.refl _, trivial⟩
  have h : l.length * 32 ≤ 140737488351232 := hl.1
  omega
theorem opens_field : Opens Tryz.prog 39 SField fieldCells fitField := by
  intro H enc w fuel cs d ps h1 h2
  obtain ⟨hl, hf⟩ := struct_parts Tryz.underlying39 c30 h1 h2
  obtain ⟨a, _, ha⟩ := hf 0 _ rfl 3 c27 opens_ref
  obtain ⟨b, _, hb⟩ := hf 1 _ rfl 1 c3 (opens_int Tryz.underlying3)
  obtain ⟨c, _, hc⟩ := hf 2 _ rfl 1 c9 (opens_str Tryz.underlying9)
  obtain ⟨e, ke, he⟩ := hf 3 _ rfl 1 c28 opens_strs
  obtain ⟨g, _, hg⟩ := hf 4 _ rfl 1 c2 (opens_int Tryz.underlying2)
  exact ⟨⟨a, b, c, e, g⟩, ke, CellsAre.cons (o := 0) (k := 3) (by omega) ha (CellsAre.cons (o := 3) (k := 1) (by omega) hb (CellsAre.cons (o := 4) (k := 1) (by omega) hc (CellsAre.cons (o := 5) (k := 1) (by omega) he (CellsAre.cons (o := 6) (k := 1) (by omega) hg (CellsAre.nil hl)))))⟩
theorem opens_lens : Opens Tryz.prog 42 SLens lensCells fitLens := by
  intro H enc w fuel cs d ps h1 h2
  obtain ⟨hl, hf⟩ := struct_parts Tryz.underlying42 c33 h1 h2
  obtain ⟨a, _, ha⟩ := hf 0 _ rfl 1 c3 (opens_int Tryz.underlying3)
  obtain ⟨b, _, hb⟩ := hf 1 _ rfl 3 c27 opens_ref
  obtain ⟨c, _, hc⟩ := hf 2 _ rfl 1 c9 (opens_str Tryz.underlying9)
  obtain ⟨e, _, he⟩ := hf 3 _ rfl 1 c9 (opens_str Tryz.underlying9)
  obtain ⟨g, _, hg⟩ := hf 4 _ rfl 1 c2 (opens_int Tryz.underlying2)
  obtain ⟨i, ki, hi⟩ := hf 5 _ rfl 7 c30 opens_field
  obtain ⟨j, kj, hj⟩ := hf 6 _ rfl 1 c31 opens_pairs
  obtain ⟨k, kk, hk⟩ := hf 7 _ rfl 1 c31 opens_pairs
  exact ⟨⟨a, b, c, e, g, i, j, k⟩, ⟨ki, kj, kk⟩, CellsAre.cons (o := 0) (k := 1) (by omega) ha (CellsAre.cons (o := 1) (k := 3) (by omega) hb (CellsAre.cons (o := 4) (k := 1) (by omega) hc (CellsAre.cons (o := 5) (k := 1) (by omega) he (CellsAre.cons (o := 6) (k := 1) (by omega) hg (CellsAre.cons (o := 7) (k := 7) (by omega) hi (CellsAre.cons (o := 14) (k := 1) (by omega) hj (CellsAre.cons (o := 15) (k := 1) (by omega) hk (CellsAre.nil hl))))))))⟩
theorem b30 : Tryz.prog.bytesOf 39 = 96 := by kernel_rfl
theorem opens_fields : Opens Tryz.prog 22 (List SField) (fun l => [encFields l]) fitFields := by
  refine (opens_list Tryz.underlying22 opens_field c30 b30 (by decide) noField).as fun l hl => ⟨l, ⟨?_, hl.2.2⟩, PLe.refl _, trivial⟩
  have h : l.length * 96 ≤ 140737488351232 := hl.1
  omega
theorem c1037 : Tryz.prog.cellsOf 101 = 5 := by kernel_rfl
theorem b1037 : Tryz.prog.bytesOf 101 = 72 := by kernel_rfl
theorem c1014 : Tryz.prog.cellsOf 58 = 1 := by kernel_rfl
theorem c1039 : Tryz.prog.cellsOf 103 = 2 := by kernel_rfl
theorem b1039 : Tryz.prog.bytesOf 103 = 40 := by kernel_rfl
theorem c1015 : Tryz.prog.cellsOf 59 = 1 := by kernel_rfl
theorem c1017 : Tryz.prog.cellsOf 61 = 2 := by kernel_rfl
theorem opens_entry : Opens Tryz.prog 101 SEntry entryCells fitEntry := by
  intro H enc w fuel cs d ps h1 h2
  obtain ⟨hl, hf⟩ := struct_parts Tryz.underlying101 c1037 h1 h2
  obtain ⟨a, _, ha⟩ := hf 0 _ rfl 3 c27 opens_ref
  obtain ⟨b, _, hb⟩ := hf 1 _ rfl 1 c2 (opens_int Tryz.underlying2)
  obtain ⟨c, kc, hc⟩ := hf 2 _ rfl 1 c28 opens_strs
  exact ⟨⟨a, b, c⟩, kc, CellsAre.cons (o := 0) (k := 3) (by omega) ha (CellsAre.cons (o := 3) (k := 1) (by omega) hb (CellsAre.cons (o := 4) (k := 1) (by omega) hc (CellsAre.nil hl)))⟩
theorem opens_entries : Opens Tryz.prog 58 (List SEntry) (fun l => [encEntries l]) fitEntries := by
  refine (opens_list Tryz.underlying58 opens_entry c1037 b1037 (by decide) noEntry).as fun l hl => ⟨l, ⟨?_, hl.2.2⟩, PLe.refl _, trivial⟩
  have h : l.length * 72 ≤ 140737488351232 := hl.1
  omega
theorem opens_docrow : Opens Tryz.prog 103 SRow rowCells fun r => fitEntries r.l := by
  intro H enc w fuel cs d ps h1 h2
  obtain ⟨hl, hf⟩ := struct_parts Tryz.underlying103 c1039 h1 h2
  obtain ⟨a, _, ha⟩ := hf 0 _ rfl 1 c9 (opens_str Tryz.underlying9)
  obtain ⟨b, kb, hb⟩ := hf 1 _ rfl 1 c1014 opens_entries
  exact ⟨⟨a, b⟩, kb, CellsAre.cons (o := 0) (k := 1) (by omega) ha (CellsAre.cons (o := 1) (k := 1) (by omega) hb (CellsAre.nil hl))⟩
theorem opens_rows : Opens Tryz.prog 59 (List SRow) (fun l => [encRows l]) fun l => l.length ≤ 3518437208780 ∧ ∀ r ∈ l, fitEntries r.l := by
  refine (opens_list Tryz.underlying59 opens_docrow c1039 b1039 (by decide) noRow).as fun l hl => ⟨l, ⟨?_, hl.2.2⟩, PLe.refl _, trivial⟩
  have h : l.length * 40 ≤ 140737488351232 := hl.1
  omega
theorem opens_doc : Opens Tryz.prog 61 SDoc docCells fitDoc := by
  intro H enc w fuel cs d ps h1 h2
  obtain ⟨hl, hf⟩ := struct_parts Tryz.underlying61 c1017 h1 h2
  obtain ⟨a, ka, ha⟩ := hf 0 _ rfl 1 c1014 opens_entries
  obtain ⟨b, kb, hb⟩ := hf 1 _ rfl 1 c1015 opens_rows
  exact ⟨⟨a, b⟩, ⟨ka, kb⟩, CellsAre.cons (o := 0) (k := 1) (by omega) ha (CellsAre.cons (o := 1) (k := 1) (by omega) hb (CellsAre.nil hl))⟩
/-- A struct's value, told. -/
theorem rep_agg {w : World} {cs : Array Value} {l : List PV} (h : CellsAre w cs.toList l) : RepP w (Old w) (aggL l) (.agg cs) := by
  refine ⟨cs, rfl, by simpa using h.1.symm, fun j hj => ?_⟩
  have hj' : j < cs.toList.length := by rw [← h.1]; exact hj
  refine ⟨cs.toList[j], ?_, (h.2 j _ (List.getElem?_eq_getElem hj')).1, (h.2 j _ (List.getElem?_eq_getElem hj')).2⟩
  rw [← Array.getElem?_toList]; exact List.getElem?_eq_getElem hj'

theorem own_knob : ownKnob Tryz.prog.godebug = none := by kernel_rfl
theorem laid_out : laidOutB Tryz.prog = true := by kernel_rfl
theorem ext_below {w w' : World} (h : Ext w w' fun _ => False) : Below w.heap.size w w' := ⟨h.os, h.tape, h.output, h.size, fun k hk => h.blk k hk fun e => e⟩



theorem projectBack_lifted (os : Os) (started : os.Started) (H : Type) (enc : TypeId × Value → H) :
    ReturnsInHanded {} Tryz.checked os 7 .any (Rows.projectBackSpec.pre6 enc Tryz.prog Tryz.f7 Rows.projectBackRow.domain false) (Rows.projectBackSpec.post enc Tryz.prog Tryz.f7 false true false false) := by
  refine returnsInHanded_of_change_shaped (C := Tryz.checked) own_knob started (by kernel_rfl) Tryz.func7
    (ChangeSpec.witness6 (enc := enc) (C := Tryz.checked) false ⟨#[], #[.slice none 0 0, .agg #[.int .i64 0, .int .i64 0, .string ⟨#[]⟩, .string ⟨#[]⟩, .string ⟨#[]⟩, .string ⟨#[]⟩, .int .i64 0, .int .i64 0, .string ⟨#[]⟩, .string ⟨#[]⟩, .int .i64 0, .string ⟨#[]⟩, .slice none 0 0, .int .i64 0, .slice none 0 0, .slice none 0 0], .agg #[.slice none 0 0, .slice none 0 0]], []⟩ 8 (by kernel_rfl) (by kernel_rfl) (by kernel_rfl) (by kernel_rfl)) ?_
  intro W base args ds gs before hval0 hW hcnd hsz _ _
  have hval : ∀ (j : Nat) t v, Tryz.f7.params[j]? = some t → args[j]? = some v → Value.okWide Tryz.prog W .any base t v := hval0
  have hW' := hW
  obtain ⟨p, q, hA0, hV, rfl, hfz, hnd⟩ := hW
  have hA : DataW.TrodAll enc Tryz.prog W 0 (fun _ => true) true [22, 42, 61] args.toList ds p := hA0
  obtain ⟨v0, v1, v2, d0, d1, d2, p0, p1, p2, rfl, rfl, rfl, h0, h1, h2⟩ := trodAll_three hA
  obtain ⟨rfl, rfl⟩ := trodVars_none hV
  obtain ⟨a0, n0, k0, rfl⟩ := okWide_slice Tryz.underlying22 (hval 0 22 v0 rfl rfl)
  obtain ⟨cs1, rfl, hcs1⟩ := okWide_struct Tryz.underlying42 (hval 1 42 v1 rfl rfl)
  obtain ⟨cs2, rfl, hcs2⟩ := okWide_struct Tryz.underlying61 (hval 2 61 v2 rfl rfl)
  have hall : ∀ n, n ∈ DataW.weightsEach Tryz.prog [22, 42, 61] [d0, d1, d2] → n ≤ reachBytes := by
    intro n hn
    simpa using List.all_eq_true.1 hsz n hn
  have w0 : ∀ n, n ∈ d0.weights Tryz.prog 22 → n ≤ reachBytes := fun n hn => hall n (by
    unfold DataW.weightsEach; exact List.mem_append.2 (.inl hn))
  have w1 : ∀ n, n ∈ d1.weights Tryz.prog 42 → n ≤ reachBytes := fun n hn => hall n (by
    unfold DataW.weightsEach; refine List.mem_append.2 (.inr ?_); unfold DataW.weightsEach; exact List.mem_append.2 (.inl hn))
  have w2 : ∀ n, n ∈ d2.weights Tryz.prog 61 → n ≤ reachBytes := fun n hn => hall n (by
    unfold DataW.weightsEach; refine List.mem_append.2 (.inr ?_); unfold DataW.weightsEach; refine List.mem_append.2 (.inr ?_); unfold DataW.weightsEach; exact List.mem_append.2 (.inl hn))
  obtain ⟨u0, g0⟩ := id h0
  obtain ⟨x0, b0, c0⟩ := opens_fields H enc W u0 _ d0 p0 g0 w0
  obtain ⟨u1, g1⟩ := id h1
  obtain ⟨x1, b1, c1⟩ := opens_lens H enc W u1 _ d1 p1 g1 w1
  obtain ⟨u2, g2⟩ := id h2
  obtain ⟨x2, b2, c2⟩ := opens_doc H enc W u2 _ d2 p2 g2 w2
  refine ((f304 x0 x1 x2 b0 b1 b2).calls (vals := [.slice a0 n0 k0, .agg cs1, .agg cs2]) rfl fun i y v hy hv => ?_).mono fun e W' ⟨he, hg⟩ => ?_
  · match i with
    | 0 => simp at hy hv; subst hy hv; exact (c0.2 0 _ rfl).2
    | 1 => simp at hy hv; subst hy hv; exact rep_agg c1
    | 2 => simp at hy hv; subst hy hv; exact rep_agg c2
    | i + 3 => simp at hy
  · subst he
    have hb := ext_below hg
    have hlt : ∀ x ∈ p0 ++ p1 ++ p2, x.block < W.heap.size := fun x hx => by simpa using hW'.lt x (by simpa using hx)
    have t0 := Below.trod laid_out (by kernel_rfl) (of_decide_eq_true (by kernel_rfl)) h0 hb fun x hx => hlt x (by simp [hx])
    have t1 := Below.trod laid_out (by kernel_rfl) (of_decide_eq_true (by kernel_rfl)) h1 hb fun x hx => hlt x (by simp [hx])
    have t2 := Below.trod laid_out (by kernel_rfl) (of_decide_eq_true (by kernel_rfl)) h2 hb fun x hx => hlt x (by simp [hx])
    exact ⟨_, rfl, _, _, _, [], p0 ++ p1 ++ p2, [], hW', trodAll_mk1 (shut_bool Tryz.underlying4 true), by rw [List.append_assoc]; exact trodAll_mk3 t0 t1 t2, rfl, hb.frame _, fun h => by cases h⟩

theorem projectBack_holds : Rows.ProjectBackSaid :=
  OpenClaim.holds_of_wide 7 Tryz.f7 rfl rfl rfl rfl rfl rfl rfl ⟨rfl, rfl, rfl, rfl, rfl⟩ rfl rfl rfl rfl rfl (by kernel_rfl) Tryz.func7 (by kernel_rfl)
    (of_decide_eq_true (by kernel_rfl)) (by unfold Func.isWrapper; first | (rw [if_pos (by decide +kernel)]; kernel_rfl) | (rw [if_neg (by decide +kernel)]; exact ⟨rfl, rfl⟩))
    (fun os started H enc _ => projectBack_lifted os started H enc)
#print axioms projectBack_holds
end Go.Proofs.YtalpbdabeffnlaaGreat
