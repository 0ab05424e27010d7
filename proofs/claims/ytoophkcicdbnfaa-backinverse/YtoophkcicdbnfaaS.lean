/- A lens, opened out of memory. -/
import Derived.Test.YtoophkcicdbnfaaR
import Derived.Test.YtoophkcicdbnfaaAvOpen
set_option linter.unusedVariables false
set_option linter.unusedSimpArgs false
namespace Go.Proofs.Ytoophkcicdbnfaa
open Go Go.Av
set_option maxRecDepth 100000

theorem c2 : Try.prog.cellsOf 2 = 1 := by kernel_rfl
theorem c3 : Try.prog.cellsOf 3 = 1 := by kernel_rfl
theorem c9 : Try.prog.cellsOf 9 = 1 := by kernel_rfl
theorem c27 : Try.prog.cellsOf 27 = 3 := by kernel_rfl
theorem c28 : Try.prog.cellsOf 28 = 1 := by kernel_rfl
theorem c30 : Try.prog.cellsOf 30 = 7 := by kernel_rfl
theorem c31 : Try.prog.cellsOf 31 = 1 := by kernel_rfl
theorem c33 : Try.prog.cellsOf 33 = 16 := by kernel_rfl
theorem c77 : Try.prog.cellsOf 77 = 2 := by kernel_rfl
theorem b9 : Try.prog.bytesOf 9 = 16 := by kernel_rfl
theorem b77 : Try.prog.bytesOf 77 = 32 := by kernel_rfl

theorem opens_ref : Opens Try.prog 27 SRef refCells fun _ => True := by
  intro H enc w fuel cs d ps h1 h2
  obtain ⟨hl, hf⟩ := struct_parts Try.underlying27 c27 h1 h2
  obtain ⟨a, _, ha⟩ := hf 0 _ rfl 1 c3 (opens_int Try.underlying3)
  obtain ⟨b, _, hb⟩ := hf 1 _ rfl 1 c9 (opens_str Try.underlying9)
  obtain ⟨c, _, hc⟩ := hf 2 _ rfl 1 c9 (opens_str Try.underlying9)
  exact ⟨⟨a, b, c⟩, trivial, CellsAre.cons (o := 0) (k := 1) (by omega) ha (CellsAre.cons (o := 1) (k := 1) (by omega) hb (CellsAre.cons (o := 2) (k := 1) (by omega) hc (CellsAre.nil hl)))⟩
theorem opens_pair : Opens Try.prog 77 SPair pairCells fun _ => True := by
  intro H enc w fuel cs d ps h1 h2
  obtain ⟨hl, hf⟩ := struct_parts Try.underlying77 c77 h1 h2
  obtain ⟨a, _, ha⟩ := hf 0 _ rfl 1 c9 (opens_str Try.underlying9)
  obtain ⟨b, _, hb⟩ := hf 1 _ rfl 1 c9 (opens_str Try.underlying9)
  exact ⟨⟨a, b⟩, trivial, CellsAre.cons (o := 0) (k := 1) (by omega) ha (CellsAre.cons (o := 1) (k := 1) (by omega) hb (CellsAre.nil hl))⟩
theorem opens_strs : Opens Try.prog 28 (List ByteArray) (fun l => [encStrs l]) fun l => l.length ≤ 8796093022208 := by
  refine (opens_list Try.underlying28 (opens_str Try.underlying9) c9 b9 (by decide) noS).as fun l hl => ⟨l, ?_, ?_, trivial⟩
  · have h : l.length * 16 ≤ 140737488351232 := hl.1
    omega
  · refine PLe.rows rfl fun i j hi hj => ?_
    have : j = 0 := by omega
    subst this; rfl
theorem opens_pairs : Opens Try.prog 31 (List SPair) (fun l => [encPairs l]) fun l => l.length ≤ 4398046511104 := by
  refine (opens_list Try.underlying31 opens_pair c77 b77 (by decide) noPair).as fun l hl => ⟨l, ?_, PLe.refl _, trivial⟩
  have h : l.length * 32 ≤ 140737488351232 := hl.1
  omega
theorem opens_field : Opens Try.prog 30 SField fieldCells fitField := by
  intro H enc w fuel cs d ps h1 h2
  obtain ⟨hl, hf⟩ := struct_parts Try.underlying30 c30 h1 h2
  obtain ⟨a, _, ha⟩ := hf 0 _ rfl 3 c27 opens_ref
  obtain ⟨b, _, hb⟩ := hf 1 _ rfl 1 c3 (opens_int Try.underlying3)
  obtain ⟨c, _, hc⟩ := hf 2 _ rfl 1 c9 (opens_str Try.underlying9)
  obtain ⟨e, ke, he⟩ := hf 3 _ rfl 1 c28 opens_strs
  obtain ⟨g, _, hg⟩ := hf 4 _ rfl 1 c2 (opens_int Try.underlying2)
  exact ⟨⟨a, b, c, e, g⟩, ke, CellsAre.cons (o := 0) (k := 3) (by omega) ha (CellsAre.cons (o := 3) (k := 1) (by omega) hb (CellsAre.cons (o := 4) (k := 1) (by omega) hc (CellsAre.cons (o := 5) (k := 1) (by omega) he (CellsAre.cons (o := 6) (k := 1) (by omega) hg (CellsAre.nil hl)))))⟩
theorem opens_lens : Opens Try.prog 33 SLens lensCells fitLens := by
  intro H enc w fuel cs d ps h1 h2
  obtain ⟨hl, hf⟩ := struct_parts Try.underlying33 c33 h1 h2
  obtain ⟨a, _, ha⟩ := hf 0 _ rfl 1 c3 (opens_int Try.underlying3)
  obtain ⟨b, _, hb⟩ := hf 1 _ rfl 3 c27 opens_ref
  obtain ⟨c, _, hc⟩ := hf 2 _ rfl 1 c9 (opens_str Try.underlying9)
  obtain ⟨e, _, he⟩ := hf 3 _ rfl 1 c9 (opens_str Try.underlying9)
  obtain ⟨g, _, hg⟩ := hf 4 _ rfl 1 c2 (opens_int Try.underlying2)
  obtain ⟨i, ki, hi⟩ := hf 5 _ rfl 7 c30 opens_field
  obtain ⟨j, kj, hj⟩ := hf 6 _ rfl 1 c31 opens_pairs
  obtain ⟨k, kk, hk⟩ := hf 7 _ rfl 1 c31 opens_pairs
  exact ⟨⟨a, b, c, e, g, i, j, k⟩, ⟨ki, kj, kk⟩, CellsAre.cons (o := 0) (k := 1) (by omega) ha (CellsAre.cons (o := 1) (k := 3) (by omega) hb (CellsAre.cons (o := 4) (k := 1) (by omega) hc (CellsAre.cons (o := 5) (k := 1) (by omega) he (CellsAre.cons (o := 6) (k := 1) (by omega) hg (CellsAre.cons (o := 7) (k := 7) (by omega) hi (CellsAre.cons (o := 14) (k := 1) (by omega) hj (CellsAre.cons (o := 15) (k := 1) (by omega) hk (CellsAre.nil hl))))))))⟩
/-- A struct's value, told. -/
theorem rep_agg {w : World} {cs : Array Value} {l : List PV} (h : CellsAre w cs.toList l) : RepP w (Old w) (aggL l) (.agg cs) := by
  refine ⟨cs, rfl, by simpa using h.1.symm, fun j hj => ?_⟩
  have hj' : j < cs.toList.length := by rw [← h.1]; exact hj
  refine ⟨cs.toList[j], ?_, (h.2 j _ (List.getElem?_eq_getElem hj')).1, (h.2 j _ (List.getElem?_eq_getElem hj')).2⟩
  rw [← Array.getElem?_toList]; exact List.getElem?_eq_getElem hj'
end Go.Proofs.Ytoophkcicdbnfaa
