/- SchemaRoot: the root in new memory, and the law. -/
import Derived.Test.YtoophkcicdbnfaaAB
import Derived.Test.YtoophkcicdbnfaaAvOpen
import Derived.ProofKit
import Derived.Carry
set_option linter.unusedVariables false
set_option linter.unusedSimpArgs false
namespace Go.Proofs.Ytoophkcicdbnfaa
open Go Go.Av Go.RowKit
set_option maxRecDepth 100000

theorem alloc_size (w : World) (o : Obj) : (w.alloc o).heap.size = w.heap.size + 1 := Array.size_push _
theorem alloc_old (w : World) (o : Obj) {b : Nat} (hb : b < w.heap.size) : (w.alloc o).heap[b]? = w.heap[b]? := by
  show (w.heap.push o)[b]? = _
  rw [Array.getElem?_push, if_neg (Nat.ne_of_lt hb)]
theorem alloc_new (w : World) (o : Obj) : (w.alloc o).heap[w.heap.size]? = some o := by
  show (w.heap.push o)[w.heap.size]? = _
  rw [Array.getElem?_push, if_pos rfl]
theorem _root_.Go.Av.Ext.refl (w : World) (S : Nat → Prop) : Ext w w S := ⟨Nat.le_refl _, fun _ _ _ => rfl, rfl, rfl, rfl⟩
theorem _root_.Go.Av.Ext.step {w w1 w2 : World} (h : Ext w w1 fun _ => False) (k : Ext w1 w2 fun _ => False) : Ext w w2 fun _ => False :=
  ⟨Nat.le_trans h.size k.size, fun b hb _ => (k.blk b (Nat.lt_of_lt_of_le hb h.size) id).trans (h.blk b hb id), k.os.trans h.os, k.tape.trans h.tape, k.output.trans h.output⟩
theorem _root_.Go.Av.Ext.alloc {w w1 : World} (h : Ext w w1 fun _ => False) (o : Obj) : Ext w (w1.alloc o) fun _ => False :=
  h.step ⟨by rw [alloc_size]; exact Nat.le_succ _, fun b hb _ => alloc_old w1 o hb, rfl, rfl, rfl⟩
theorem _root_.Go.Av.Ext.setCell {w w1 : World} (h : Ext w w1 fun _ => False) (a : Addr) (v : Value) (ha : w.heap.size ≤ a.block) : Ext w (w1.setCell a v) fun _ => False :=
  ⟨by simpa using h.size, fun b hb _ => by rw [Below.heap_setCell w1 a v b (by omega)]; exact h.blk b hb id, h.os, h.tape, h.output⟩

theorem c64 (s : ByteArray) (w : World) : Calls Try.prog 64 #[.string s] w fun e w' => e = .returned (.agg #[.int .i64 1, .string ⟨#[]⟩, .string s]) ∧ Ext w w' fun _ => False := by
  have hh : HInv w (fun _ => False) (fun _ => none) (enumB []) := ⟨fun b hb => hb.elim, fun n blk hn => by simp [enumB, at_] at hn, fun n m bn bm u u' g hn => by simp [enumB, at_] at hn, fun n bn u g hn => by simp [enumB, at_] at hn⟩
  refine ((f64 s).2 w (fun _ => False) (fun _ => none) [.string s] hh (fun _ _ => rfl) rfl fun i x v hx hv => ?_).mono fun e w' ⟨v, F', ν', e1, e2, _, e4, _⟩ => ?_
  · match i with
    | 0 => simp at hx hv; subst hx hv; exact rfl
    | i + 1 => simp at hx
  · obtain ⟨cs, rfl, hs, hc⟩ := e2
    have hs : cs.size = 3 := hs
    have h0 := hc 0 (show 0 < 3 by decide)
    have h1 := hc 1 (show 1 < 3 by decide)
    have h2 := hc 2 (show 2 < 3 by decide)
    obtain ⟨u0, q0, _, r0⟩ := h0
    obtain ⟨u1, q1, _, r1⟩ := h1
    obtain ⟨u2, q2, _, r2⟩ := h2
    have r0 : u0 = .int .i64 1 := r0
    have r1 : u1 = .string ⟨#[]⟩ := r1
    have r2 : u2 = .string s := r2
    subst r0 r1 r2
    refine ⟨by
      rw [e1]
      congr 2
      apply Array.ext_getElem?
      intro i
      match i with
      | 0 => rw [q0]; rfl
      | 1 => rw [q1]; rfl
      | 2 => rw [q2]; rfl
      | i + 3 => rw [Array.getElem?_eq_none (by omega)]; rfl, e4.size, fun b hb _ => e4.blk b hb ?_, e4.os, e4.tape, e4.output⟩
    rintro ⟨n, bn, u, hn, _⟩
    simp [enumB, at_] at hn

def wd (l : List UInt8) : Value := .string (word l)
def rootCells (h : Nat) : Array Value :=
  #[.int .i64 0, wd [], wd [99, 111, 117, 112, 111, 110], .int .i64 2, wd [], .slice none 0 0, .int .i64 0,
    .int .i64 1, wd [], wd [110, 111, 116, 101], .int .i64 2, wd [], .slice none 0 0, .int .i64 0,
    .int .i64 1, wd [], wd [113, 116, 121], .int .i64 1, wd [], .slice none 0 0, .int .i64 1,
    .int .i64 1, wd [], wd [115, 105, 122, 101], .int .i64 3, wd [109, 101, 100, 105, 117, 109], .slice (some ⟨h, 0, none⟩) 3 3, .int .i64 0,
    .int .i64 1, wd [], wd [116, 97, 103, 115], .int .i64 4, wd [], .slice none 0 0, .int .i64 0]
def rootCases : Array Value := #[wd [115, 109, 97, 108, 108], wd [109, 101, 100, 105, 117, 109], wd [108, 97, 114, 103, 101]]

theorem c16w (w : World) : Calls Try.prog 16 #[] w fun e w' => ∃ w1 w2, Ext w w1 (fun _ => False) ∧ Ext (w1.alloc (.cells rootCases 9)) w2 (fun _ => False) ∧ w' = w2.alloc (.cells (rootCells w1.heap.size) 30) ∧ e = .returned (.slice (some ⟨w2.heap.size, 0, none⟩) 5 5) := by
  go_enter Try.func16, Try.ntmps16
  go_wp2_with (go_at_call 64; refine (c64 _ _).mono ?_; rintro e w' ⟨rfl, hx⟩)
  rename_i w1 h1 w2 h2 w3 h3
  go_ret
  exact ⟨w3, w', h1.step (h2.step h3), hx, rfl, rfl⟩

/-- A root in memory that was not there at 'lo'. -/
def RootAt (w : World) (lo g h : Nat) : Prop := lo ≤ g ∧ lo ≤ h ∧ g ≠ h ∧ w.heap[g]? = some (.cells (rootCells h) 30 (0, 0)) ∧ w.heap[h]? = some (.cells rootCases 9 (0, 0))
theorem RootAt.lt {w : World} {lo g h : Nat} (r : RootAt w lo g h) : g < w.heap.size ∧ h < w.heap.size := by
  obtain ⟨_, _, _, h1, h2⟩ := r
  exact ⟨(Array.getElem?_eq_some_iff.1 h1).1, (Array.getElem?_eq_some_iff.1 h2).1⟩
theorem RootAt.ext {w w' : World} {lo g h : Nat} (r : RootAt w lo g h) (e : Ext w w' fun _ => False) : RootAt w' lo g h :=
  ⟨r.1, r.2.1, r.2.2.1, (e.blk g r.lt.1 id).trans r.2.2.2.1, (e.blk h r.lt.2 id).trans r.2.2.2.2⟩
theorem RootAt.setCell {w : World} {lo g h : Nat} (r : RootAt w lo g h) (a : Addr) (v : Value) (hg : a.block ≠ g) (hh : a.block ≠ h) : RootAt (w.setCell a v) lo g h :=
  ⟨r.1, r.2.1, r.2.2.1, (Below.heap_setCell w a v g (Ne.symm hg)).trans r.2.2.2.1, (Below.heap_setCell w a v h (Ne.symm hh)).trans r.2.2.2.2⟩
theorem c16 (w : World) : Calls Try.prog 16 #[] w fun e w' => ∃ g h, e = .returned (.slice (some ⟨g, 0, none⟩) 5 5) ∧ RootAt w' w.heap.size g h ∧ Ext w w' fun _ => False := by
  refine (c16w w).mono ?_
  rintro e w' ⟨w1, w2, h1, h2, rfl, rfl⟩
  have hs2 := alloc_size w1 (.cells rootCases 9)
  have hs3 := h2.size
  have hs1 := h1.size
  have hall : Ext w (w2.alloc (.cells (rootCells w1.heap.size) 30)) fun _ => False := ((h1.alloc _).step h2).alloc _
  have hlt : w1.heap.size < w2.heap.size := by omega
  refine ⟨w2.heap.size, w1.heap.size, rfl, ⟨by omega, hs1, by omega, alloc_new _ _, ?_⟩, hall⟩
  rw [alloc_old _ _ hlt, h2.blk w1.heap.size (by omega) id]
  exact alloc_new _ _
theorem RootAt.cell {w : World} {lo g h : Nat} (r : RootAt w lo g h) {j : Nat} {u : Value} (hu : (rootCells h)[j]? = some u) : w.cell? ⟨g, j, none⟩ = some u := by
  unfold World.cell?; simp [r.2.2.2.1, hu]
theorem RootAt.rep {w : World} {lo g h : Nat} (r : RootAt w lo g h) : RepP w (Old w) (encFields rootFields) (.slice (some ⟨g, 0, none⟩) 5 5) := by
  refine ⟨some ⟨g, 0, none⟩, 5, rfl, Nat.le_refl _, (by decide), (fun e => by cases e), fun _ => ⟨_, rfl, r.lt.1, fun i j hi hj => ?_⟩⟩
  have hi : i < 5 := hi
  have hcell : ∀ (k : Nat) (u : Value), (rootCells h)[k]? = some u → w.cell? ((⟨g, 0, none⟩ : Addr).add k) = some u := by
    intro k u hu
    have := r.cell hu
    unfold Addr.add
    split
    · rename_i hk; subst hk; exact this
    · simpa using this
  have nil : RepP w (Old w) (encStrs []) (.slice none 0 0) := ⟨none, 0, rfl, Nat.le_refl _, Nat.zero_le _, fun _ => rfl, fun h => absurd h (by simp)⟩
  have three : RepP w (Old w) (encStrs [word [115, 109, 97, 108, 108], word [109, 101, 100, 105, 117, 109], word [108, 97, 114, 103, 101]]) (.slice (some ⟨h, 0, none⟩) 3 3) := by
    refine ⟨some ⟨h, 0, none⟩, 3, rfl, Nat.le_refl _, (by decide), (fun e => by cases e), fun _ => ⟨_, rfl, r.lt.2, fun a b ha hb => ?_⟩⟩
    have ha : a < 3 := ha
    have hb : b = 0 := by omega
    subst hb
    have hc : ∀ (k : Nat) (u : Value), rootCases[k]? = some u → w.cell? ((⟨h, 0, none⟩ : Addr).add k) = some u := by
      intro k u hu
      have h0 : ∀ (ad : Addr), ad = ⟨h, k, none⟩ → w.cell? ad = some u := by
        rintro ad rfl
        unfold World.cell?; simp [r.2.2.2.2, hu]
      refine h0 _ ?_
      unfold Addr.add
      split
      · rename_i hk; rw [hk]
      · simp
    have ha : a = 0 ∨ a = 1 ∨ a = 2 := by omega
    rcases ha with rfl | rfl | rfl <;> exact ⟨_, hc _ _ rfl, rfl, rfl⟩
  have hi : i = 0 ∨ i = 1 ∨ i = 2 ∨ i = 3 ∨ i = 4 := by omega
  have hj : j = 0 ∨ j = 1 ∨ j = 2 ∨ j = 3 ∨ j = 4 ∨ j = 5 ∨ j = 6 := by omega
  rcases hi with rfl | rfl | rfl | rfl | rfl <;> rcases hj with rfl | rfl | rfl | rfl | rfl | rfl | rfl <;>
    first
      | exact ⟨_, hcell _ _ rfl, rfl, rfl⟩
      | exact ⟨_, hcell _ _ rfl, rfl, nil⟩
      | exact ⟨_, hcell _ _ rfl, rfl, three⟩
end Go.Proofs.Ytoophkcicdbnfaa
