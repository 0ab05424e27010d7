import Derived.Test.YtalpbdabeffnlaaGreatJoCK
import Derived.Test.YtalpbdabeffnlaaGreatJoAH
/- BackChains: the law's function. -/
set_option linter.unusedVariables false
set_option linter.unusedSimpArgs false
namespace Go.Proofs.YtalpbdabeffnlaaGreat
open Go Go.Av
set_option maxRecDepth 100000
set_option maxHeartbeats 4000000

theorem sameRow_self (l : List SLens) : sameRow l l = true := by
  unfold sameRow
  rw [Bool.and_eq_true, allUpto_iff]
  refine ⟨by simp, fun j _ _ => ?_⟩
  simp [sameLens, sameRef_self, iEq_self, sEq_self, sameField_self, samePairs_self]
theorem f300 (l : List SField) (row : List SLens) (hl : fitFields l) (hw : fitRow row) : PCall Tryz.prog 3 [encFields l, encRow row] (.p (.val (.bool true))) [] := by
  have hm := chainF_fit hl hw
  refine gcode hT hM Tryz.func3 rfl rfl (rv := [(4, none)]) rfl rfl rfl fun G hG => ?_
  conv => whnf
  refine CallK.lent (f20) rfl ?_
  conv => whnf
  refine ⟨fun h => ?_, fun h => ?_⟩
  · cases h
  conv => whnf
  refine CallK.lent (f26 l hl.ok) rfl ?_
  conv => whnf
  refine ⟨fun h1 => ?_, fun h1 => ?_⟩
  · conv => whnf
    exact ⟨[], _, _, _, rfl, rfl, rfl, RepLe.bl rfl, trivial⟩
  conv => whnf
  refine CallK.lent (f62 row hw) rfl ?_
  conv => whnf
  refine ⟨fun h2 => ?_, fun h2 => ?_⟩
  · conv => whnf
    exact ⟨[], _, _, _, rfl, rfl, rfl, RepLe.bl rfl, trivial⟩
  have h12 : row.length ≤ 12 := by
    unfold heavyRow at h2
    rw [Bool.or_eq_false_iff, iLt_f] at h2
    have := h2.1
    omega
  conv => whnf
  refine CallK.go [] (f63 l row hl hw) rfl rfl rfl rfl rfl ?_
  conv => whnf
  refine CallK.go [] (f305 l row hl hw) rfl rfl rfl rfl rfl ?_
  conv => whnf
  refine CallK.go [] (f306 row hw h12) rfl rfl rfl rfl rfl ?_
  conv => whnf
  refine CallK.go [] (f307 row hw h12) rfl rfl rfl rfl rfl ?_
  conv => whnf
  refine ⟨fun a1 => ?_, fun a1 => ?_⟩
  · rw [iEq_same] at a1; cases a1
  clear a1
  conv => whnf
  refine ⟨fun a1 => ?_, fun a1 => ?_⟩
  · rw [iEq_same] at a1; cases a1
  clear a1
  conv => whnf
  refine ⟨fun a1 => ?_, fun a1 => ?_⟩
  · rw [iEq_same] at a1; cases a1
  clear a1
  conv => whnf
  refine ⟨fun a1 => ?_, fun a1 => ?_⟩
  · rw [iEq_same] at a1; cases a1
  clear a1
  conv => whnf
  refine CallK.lent (f18 (chainF l row).1 (chainF l row).1 hm.ok) rfl ?_
  conv => whnf
  refine ⟨fun a1 => ?_, fun a1 => ?_⟩
  · rw [sameFields_self] at a1; cases a1
  clear a1
  conv => whnf
  refine CallK.lent (f308 (retF row).1 (retF row).1 (ret_fit hw)) rfl ?_
  conv => whnf
  refine ⟨fun a1 => ?_, fun a1 => ?_⟩
  · rw [sameRow_self] at a1; cases a1
  clear a1
  conv => whnf
  refine ⟨fun b1 => ?_, fun b1 => ?_⟩
  · have hz : (chainF l row).2.2 ≠ 0 := iEq_f.1 (nott b1)
    conv => whnf
    exact ⟨[], _, _, _, rfl, rfl, rfl, RepLe.vb (by rw [chainF_bad hz, iEq_t]; rfl), trivial⟩
  have hz : (chainF l row).2.2 = 0 := iEq_t.1 (notf b1)
  obtain ⟨k1, k2⟩ := chain_return hz
  have c63 := f63 (chainF l row).1 (retF row).1 hm (ret_fit hw)
  have k3 : chainF (chainF l row).1 (retF row).1 = (l, row.length, 0) := by rw [k1]; exact k2
  rw [k3] at c63
  clear b1
  conv => whnf
  refine CallK.go [] (c63) rfl rfl rfl rfl rfl ?_
  conv => whnf
  refine ⟨fun c1 => ?_, fun c1 => ?_⟩
  · conv => whnf
    refine ⟨fun c2 => ?_, fun c2 => ?_⟩
    · conv => whnf
      refine CallK.lent (f18 l l hl.ok) rfl ?_
      conv => whnf
      exact ⟨[], _, _, _, rfl, rfl, rfl, RepLe.vb (sameFields_self _), trivial⟩
    · rw [iEq_same] at c2; cases c2
  · rw [iEq_same] at c1; cases c1
end Go.Proofs.YtalpbdabeffnlaaGreat
