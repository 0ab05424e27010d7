import Derived.Test.YtalpbdabeffnlaaGreatAvDef
import Derived.Test.YtalpbdabeffnlaaGreatT
import Derived.Test.YtalpbdabeffnlaaGreatAvAid
/- Words of binary floating point that stand for whole numbers. -/
namespace Go.Fl
open Ieee

theorem cut_zero (s : Bool) (n : Nat) : Toward.even.cut s n 0 = n := by
  unfold Toward.cut
  simp [Nat.mod_one]
theorem shl_ne {m : Nat} (h : m ≠ 0) (k : Nat) : m <<< k ≠ 0 := by
  rw [Nat.shiftLeft_eq]
  have := Nat.two_pow_pos k
  exact Nat.mul_ne_zero h (by omega)
theorem log2_shift {m : Nat} (h : m ≠ 0) : ∀ k, (m <<< k).log2 = m.log2 + k
  | 0 => by simp
  | k + 1 => by
    have e : m <<< (k + 1) = 2 * (m <<< k) := by rw [Nat.shiftLeft_eq, Nat.shiftLeft_eq, Nat.pow_succ]; rw [Nat.mul_comm 2, Nat.mul_assoc]
    rw [e, Nat.log2_two_mul (shl_ne h k), log2_shift h k]
    omega
/-- Whole units cut off leave nothing behind. -/
theorem cut_shift (way : Toward) (s : Bool) (n d : Nat) (hn : n ≠ 0) : way.cut s (n <<< d) d = n := by
  unfold Toward.cut
  have hl : (n <<< d).log2 = n.log2 + d := log2_shift hn d
  have hmin : min d ((n <<< d).log2 + 2) = d := Nat.min_eq_left (by omega)
  rw [hmin]
  have hg : (1 <<< d) = 2 ^ d := by rw [Nat.shiftLeft_eq, Nat.one_mul]
  have hpos := Nat.two_pow_pos d
  have h1 : n <<< d / (1 <<< d) = n := by rw [hg, Nat.shiftLeft_eq]; exact Nat.mul_div_cancel _ hpos
  have h2 : n <<< d % (1 <<< d) = 0 := by rw [hg, Nat.shiftLeft_eq]; exact Nat.mul_mod_left _ _
  simp only [h1, h2]
  cases way <;> simp [hg]
theorem shl_shl (m a b : Nat) : (m <<< a) <<< b = m <<< (a + b) := by rw [Nat.shiftLeft_eq, Nat.shiftLeft_eq, Nat.shiftLeft_eq, Nat.mul_assoc, ← Nat.pow_add]
/-- The rung of a whole number below 2^53. -/
def rung (m : Nat) : Nat := if m = 0 then 0 else (m.log2 + 1022) * 2 ^ 52 + (m <<< (52 - m.log2))
theorem log_lt {m : Nat} (h : m < 2 ^ 53) : m.log2 ≤ 52 := by
  by_cases h0 : m = 0
  · subst h0; simp
  · have := (Nat.log2_lt h0).2 h; omega
theorem kept_ge {m : Nat} (h0 : m ≠ 0) (h : m < 2 ^ 53) : 2 ^ 52 ≤ m <<< (52 - m.log2) ∧ m <<< (52 - m.log2) < 2 ^ 53 := by
  have hl := log_lt h
  have h1 := Nat.log2_self_le h0
  have h2 := @Nat.lt_log2_self m
  rw [Nat.shiftLeft_eq]
  constructor
  · calc 2 ^ 52 = 2 ^ m.log2 * 2 ^ (52 - m.log2) := by rw [← Nat.pow_add]; congr 1; omega
      _ ≤ m * 2 ^ (52 - m.log2) := Nat.mul_le_mul_right _ h1
  · calc m * 2 ^ (52 - m.log2) < 2 ^ (m.log2 + 1) * 2 ^ (52 - m.log2) := Nat.mul_lt_mul_of_pos_right h2 (Nat.two_pow_pos _)
      _ = 2 ^ 53 := by rw [← Nat.pow_add]; congr 1; omega
theorem nearest_shift (s : Bool) {m : Nat} (h : m < 2 ^ 53) (k : Nat) : double.nearest s (m <<< k) (-(k : Int)) = double.word s (rung m) := by
  by_cases h0 : m = 0
  · subst h0
    have : (0 : Nat) <<< k = 0 := by rw [Nat.shiftLeft_eq, Nat.zero_mul]
    unfold Format.nearest rung
    rw [this, if_pos rfl, if_pos rfl]
  have hl := log_lt h
  have hk := kept_ge h0 h
  unfold Format.nearest rung
  rw [if_neg (shl_ne h0 k), if_neg h0, log2_shift h0 k]
  have hlp : double.leastPlace = -1074 := by decide
  have hlast : max (-(k : Int) + ((m.log2 + k : Nat) : Int) - (double.fractionBits : Int)) double.leastPlace = (m.log2 : Int) - 52 := by
    rw [hlp, show (double.fractionBits : Int) = 52 from rfl]; omega
  simp only [hlast]
  have hkept : Toward.even.cut s ((m <<< k) <<< (-(k : Int) - ((m.log2 : Int) - 52)).toNat) (((m.log2 : Int) - 52) - -(k : Int)).toNat = m <<< (52 - m.log2) := by
    by_cases hc : k ≤ 52 - m.log2
    · rw [show (((m.log2 : Int) - 52) - -(k : Int)).toNat = 0 by omega, cut_zero, shl_shl]
      congr 1; omega
    · have e : (m <<< k) <<< (-(k : Int) - ((m.log2 : Int) - 52)).toNat = (m <<< (52 - m.log2)) <<< (((m.log2 : Int) - 52) - -(k : Int)).toNat := by
        rw [shl_shl, shl_shl]; congr 1; omega
      rw [e]
      exact cut_shift _ _ _ _ (shl_ne h0 _)
  rw [hkept, hlp]
  have hb : double.binade = 2 ^ 52 := rfl
  have hi : double.infRung = 2047 * 2 ^ 52 := by decide
  rw [hb, hi, show ((m.log2 : Int) - 52 - -1074).toNat = m.log2 + 1022 by omega]
  rw [Nat.min_eq_left]
  have := hk.2
  omega
theorem read_word (s : Bool) {m : Nat} (h : m < 2 ^ 53) : ∃ i : Nat, i ≤ 1074 ∧ double.read (double.word s (rung m)) = .number s (m <<< i) (-(i : Int)) := by
  have hsw : double.signWeight = 2 ^ 63 := rfl
  have hb : double.binade = 2 ^ 52 := rfl
  have hi : double.infRung = 2047 * 2 ^ 52 := by decide
  have hlp : double.leastPlace = -1074 := by decide
  have hr : rung m < 2 ^ 63 := by
    unfold rung
    split
    · decide
    · rename_i h0
      have := (kept_ge h0 h).2
      have := log_lt h
      omega
  have hneg : (double.word s (rung m) / double.signWeight % 2 == 1) = s := by
    unfold Format.word
    rw [hsw]
    cases s with
    | false => rw [if_neg (by decide), Nat.div_eq_of_lt hr]; rfl
    | true => rw [if_pos rfl, Nat.add_div_left _ (by decide), Nat.div_eq_of_lt hr]; rfl
  have hrung : double.word s (rung m) % double.signWeight = rung m := by
    unfold Format.word
    rw [hsw]
    cases s with
    | false => rw [if_neg (by decide), Nat.mod_eq_of_lt hr]
    | true => rw [if_pos rfl, Nat.add_mod_left, Nat.mod_eq_of_lt hr]
  unfold Format.read
  simp only [hneg, hrung]
  by_cases h0 : m = 0
  · subst h0
    refine ⟨1074, Nat.le_refl _, ?_⟩
    have : rung 0 = 0 := rfl
    rw [this, if_pos (by rw [hb]; decide), hlp]
    rfl
  · have hk := kept_ge h0 h
    have hl := log_lt h
    refine ⟨52 - m.log2, by omega, ?_⟩
    have hru : rung m = (m.log2 + 1023) * 2 ^ 52 + (m <<< (52 - m.log2) - 2 ^ 52) := by unfold rung; rw [if_neg h0]; omega
    have hc : m <<< (52 - m.log2) - 2 ^ 52 < 2 ^ 52 := by omega
    rw [if_neg (by rw [hb, hru]; omega), if_pos (by rw [hi, hru]; omega), hb, hlp]
    have e1 : rung m % 2 ^ 52 = m <<< (52 - m.log2) - 2 ^ 52 := by rw [hru, Nat.mul_comm, Nat.mul_add_mod, Nat.mod_eq_of_lt hc]
    have e2 : rung m / 2 ^ 52 = m.log2 + 1023 := by rw [hru, Nat.mul_comm, Nat.mul_add_div (by decide), Nat.div_eq_of_lt hc, Nat.add_zero]
    rw [e1, e2, show 2 ^ 52 + (m <<< (52 - m.log2) - 2 ^ 52) = m <<< (52 - m.log2) by omega, show (-1074 : Int) + ((m.log2 + 1023 - 1 : Nat) : Int) = -((52 - m.log2 : Nat) : Int) by omega]

/-! ### Words that stand for whole numbers -/
def sgn (s : Bool) (m : Nat) : Int := if s then -(m : Int) else m
/-- The word stands for a whole number (of two zeros either). -/
def Fl (x : Nat) (v : Int) : Prop := ∃ (s : Bool) (m : Nat), m < 2 ^ 53 ∧ x = double.word s (rung m) ∧ v = sgn s m
theorem Fl.read {x : Nat} {v : Int} (h : Fl x v) : ∃ (s : Bool) (m i : Nat), m < 2 ^ 53 ∧ double.read x = .number s (m <<< i) (-(i : Int)) ∧ v = sgn s m := by
  obtain ⟨s, m, h1, rfl, h2⟩ := h
  obtain ⟨i, _, hi⟩ := read_word s h1
  exact ⟨s, m, i, h1, hi, h2⟩
theorem Fl.write (s : Bool) {m : Nat} (h : m < 2 ^ 53) (k : Nat) : Fl (double.write (.number s (m <<< k) (-(k : Int)))) (sgn s m) :=
  ⟨s, m, h, nearest_shift s h k, rfl⟩
theorem Fl.ofInt {n : Int} (h : n.natAbs < 2 ^ 53) : Fl (FloatKind.f64.nearest n) n := by
  have := nearest_shift (decide (n < 0)) h 0
  refine ⟨decide (n < 0), n.natAbs, h, ?_, ?_⟩
  · unfold FloatKind.nearest FloatKind.encode
    show double.nearest (decide (n < 0)) n.natAbs 0 = _
    simpa using this
  · unfold sgn
    by_cases hn : n < 0
    · simp [hn]; omega
    · simp [hn]; omega
theorem Fl.mul {x y : Nat} {a b : Int} (hx : Fl x a) (hy : Fl y b) (h : (a * b).natAbs < 2 ^ 53) : ∃ r, double.mul x y = some r ∧ Fl r (a * b) := by
  obtain ⟨s, m, i, _, hx2, rfl⟩ := hx.read
  obtain ⟨t, n, j, _, hy2, rfl⟩ := hy.read
  have hv : sgn s m * sgn t n = sgn (s ^^ t) (m * n) := by
    unfold sgn
    cases s <;> cases t <;> simp [Int.neg_mul, Int.mul_neg, Int.neg_neg]
  have hmn : m * n < 2 ^ 53 := by
    rw [hv] at h
    unfold sgn at h
    cases hst : (s ^^ t) <;> rw [hst] at h <;> simp at h <;> omega
  refine ⟨double.write (.number (s ^^ t) ((m * n) <<< (i + j)) (-((i + j : Nat) : Int))), ?_, ?_⟩
  · unfold Format.mul
    rw [hx2, hy2]
    show some (double.write (.number (s ^^ t) ((m <<< i) * (n <<< j)) (-(i : Int) + -(j : Int)))) = _
    rw [show (m <<< i) * (n <<< j) = (m * n) <<< (i + j) by rw [Nat.shiftLeft_eq, Nat.shiftLeft_eq, Nat.shiftLeft_eq, Nat.pow_add, Nat.mul_mul_mul_comm], show -(i : Int) + -(j : Int) = -((i + j : Nat) : Int) by omega]
  · rw [hv]; exact Fl.write _ hmn _
theorem signed_shift (s : Bool) (m i k : Nat) : signed s (m <<< i) k = sgn s m * ((2 ^ (i + k) : Nat) : Int) := by
  unfold signed sgn
  rw [shl_shl, Nat.shiftLeft_eq]
  cases s <;> simp [Int.neg_mul]
theorem sgn_total (q : Bool) (v : Int) : sgn (if v = 0 then q else decide (v < 0)) v.natAbs = v := by
  by_cases h : v = 0
  · subst h; cases q <;> rfl
  · rw [if_neg h]
    unfold sgn
    by_cases h2 : v < 0
    · rw [if_pos (by simpa using h2)]; omega
    · rw [if_neg (by simpa using h2)]; omega
/-- A sum of two data. -/
theorem sum_whole {s t : Bool} {m n i j : Nat} (h : (sgn s m + sgn t n).natAbs < 2 ^ 53) :
    ∃ r, (Datum.sum (.number s (m <<< i) (-(i : Int))) (.number t (n <<< j) (-(j : Int)))).map double.write = some r ∧ Fl r (sgn s m + sgn t n) := by
  have hb : min (-(i : Int)) (-(j : Int)) = -((max i j : Nat) : Int) := by omega
  have h1 : signed s (m <<< i) (-(i : Int) - min (-(i : Int)) (-(j : Int))).toNat = sgn s m * ((2 ^ (max i j) : Nat) : Int) := by
    rw [signed_shift, hb]; congr 3; omega
  have h2 : signed t (n <<< j) (-(j : Int) - min (-(i : Int)) (-(j : Int))).toNat = sgn t n * ((2 ^ (max i j) : Nat) : Int) := by
    rw [signed_shift, hb]; congr 3; omega
  have hpow : (0 : Int) < ((2 ^ (max i j) : Nat) : Int) := by have := Nat.two_pow_pos (max i j); omega
  have e : Datum.sum (.number s (m <<< i) (-(i : Int))) (.number t (n <<< j) (-(j : Int))) =
      some (.number (if (sgn s m + sgn t n) = 0 then s && t else decide (sgn s m + sgn t n < 0)) ((sgn s m + sgn t n).natAbs <<< (max i j)) (-((max i j : Nat) : Int))) := by
    unfold Datum.sum
    simp only [h1, h2]
    rw [← Int.add_mul, hb]
    have z : ((sgn s m + sgn t n) * ((2 ^ (max i j) : Nat) : Int) = 0) = ((sgn s m + sgn t n) = 0) := by
      apply propext
      constructor
      · intro h; rcases Int.mul_eq_zero.1 h with h | h
        · exact h
        · omega
      · intro h; rw [h, Int.zero_mul]
    have l : ((sgn s m + sgn t n) * ((2 ^ (max i j) : Nat) : Int) < 0) = ((sgn s m + sgn t n) < 0) := by
      apply propext
      constructor
      · intro h
        rcases Int.lt_or_le (sgn s m + sgn t n) 0 with h2 | h2
        · exact h2
        · exact absurd (Int.mul_nonneg h2 (Int.le_of_lt hpow)) (by omega)
      · intro h; exact Int.mul_neg_of_neg_of_pos h hpow
    simp only [z, l]
    rw [Int.natAbs_mul, Int.natAbs_natCast, Nat.shiftLeft_eq]
  rw [e]
  refine ⟨_, rfl, ?_⟩
  have := Fl.write (if (sgn s m + sgn t n) = 0 then s && t else decide (sgn s m + sgn t n < 0)) h (max i j)
  rw [sgn_total] at this
  exact this
theorem Fl.sub {x y : Nat} {a b : Int} (hx : Fl x a) (hy : Fl y b) (h : (a - b).natAbs < 2 ^ 53) : ∃ r, double.sub x y = some r ∧ Fl r (a - b) := by
  obtain ⟨s, m, i, _, hx2, rfl⟩ := hx.read
  obtain ⟨t, n, j, _, hy2, rfl⟩ := hy.read
  have e : -sgn t n = sgn (!t) n := by unfold sgn; cases t <;> simp
  rw [Int.sub_eq_add_neg, e] at h ⊢
  unfold Format.sub
  rw [hx2, hy2]
  exact sum_whole h
theorem Fl.add {x y : Nat} {a b : Int} (hx : Fl x a) (hy : Fl y b) (h : (a + b).natAbs < 2 ^ 53) : ∃ r, double.add x y = some r ∧ Fl r (a + b) := by
  obtain ⟨s, m, i, _, hx2, rfl⟩ := hx.read
  obtain ⟨t, n, j, _, hy2, rfl⟩ := hy.read
  unfold Format.add
  rw [hx2, hy2]
  exact sum_whole h
theorem Fl.order {x y : Nat} {a b : Int} (hx : Fl x a) (hy : Fl y b) : double.order x y = some (compare a b) := by
  obtain ⟨s, m, i, _, hx2, rfl⟩ := hx.read
  obtain ⟨t, n, j, _, hy2, rfl⟩ := hy.read
  unfold Format.order
  rw [hx2, hy2]
  have hb : min (-(i : Int)) (-(j : Int)) = -((max i j : Nat) : Int) := by omega
  have h1 : signed s (m <<< i) (-(i : Int) - min (-(i : Int)) (-(j : Int))).toNat = sgn s m * ((2 ^ (max i j) : Nat) : Int) := by
    rw [signed_shift, hb]; congr 3; omega
  have h2 : signed t (n <<< j) (-(j : Int) - min (-(i : Int)) (-(j : Int))).toNat = sgn t n * ((2 ^ (max i j) : Nat) : Int) := by
    rw [signed_shift, hb]; congr 3; omega
  have hpow : (0 : Int) < ((2 ^ (max i j) : Nat) : Int) := by have := Nat.two_pow_pos (max i j); omega
  unfold Datum.order
  simp only [h1, h2]
  congr 1
  generalize sgn s m = p
  generalize sgn t n = q
  generalize ((2 ^ (max i j) : Nat) : Int) = c at hpow
  rcases Int.lt_trichotomy p q with h | h | h
  · rw [Int.compare_eq_lt.2 (Int.mul_lt_mul_of_pos_right h hpow), Int.compare_eq_lt.2 h]
  · rw [h, Int.compare_eq_eq.2 rfl, Int.compare_eq_eq.2 rfl]
  · rw [Int.compare_eq_gt.2 (Int.mul_lt_mul_of_pos_right h hpow), Int.compare_eq_gt.2 h]
theorem integral_whole (way : Toward) (s : Bool) (m i : Nat) : Datum.integral way (.number s (m <<< i) (-(i : Int))) = .number s m 0 := by
  unfold Datum.integral
  by_cases h0 : m = 0
  · subst h0
    simp only [Nat.zero_shiftLeft]
    congr 1
    unfold Toward.cut
    cases way <;> simp
  · simp only [show (-(i : Int)).toNat = 0 by omega, show (- -(i : Int)).toNat = i by omega]
    rw [Nat.shiftLeft_zero, cut_shift way s m i h0]
theorem Fl.trunc {x : Nat} {a : Int} (hx : Fl x a) (way : Toward) : Fl (double.write ((double.read x).integral way)) a := by
  obtain ⟨s, m, i, hm, hx2, rfl⟩ := hx.read
  rw [hx2, integral_whole]
  have := Fl.write s hm 0
  simpa using this
theorem Fl.toInt {x : Nat} {a : Int} (hx : Fl x a) (way : Toward) : (double.read x).toInt way = some a := by
  obtain ⟨s, m, i, hm, hx2, rfl⟩ := hx.read
  unfold Datum.toInt
  rw [hx2, integral_whole]
  show some (signed s m 0) = _
  unfold signed sgn
  cases s <;> simp
theorem rung_lt {m : Nat} (h : m < 2 ^ 53) : rung m < 2 ^ 63 := by
  unfold rung
  split
  · decide
  · rename_i h0
    have := (kept_ge h0 h).2
    have := log_lt h
    omega
theorem Fl.lt {x : Nat} {a : Int} (hx : Fl x a) : x < 2 ^ 64 := by
  obtain ⟨s, m, hm, rfl, _⟩ := hx
  have := rung_lt hm
  have hsw : double.signWeight = 2 ^ 63 := rfl
  unfold Format.word
  rw [hsw]
  cases s <;> simp <;> omega
theorem xor_top {r : Nat} (h : r < 2 ^ 63) : r ^^^ 2 ^ 63 = 2 ^ 63 + r := by
  have e : 2 ^ 63 + r = 2 ^ 63 ||| r := by have := Nat.two_pow_add_eq_or_of_lt h 1; simpa using this
  rw [e]
  refine Nat.eq_of_testBit_eq fun i => ?_
  rw [Nat.testBit_xor, Nat.testBit_or, Nat.testBit_two_pow]
  by_cases hi : 63 = i
  · subst hi; rw [Nat.testBit_lt_two_pow h]; simp
  · simp [hi]
theorem Fl.neg {x : Nat} {a : Int} (hx : Fl x a) : Fl (Op.negFloat .f64 x) (-a) := by
  obtain ⟨s, m, hm, rfl, rfl⟩ := hx
  have hr := rung_lt hm
  have hsw : double.signWeight = 2 ^ 63 := rfl
  refine ⟨!s, m, hm, ?_, by unfold sgn; cases s <;> simp⟩
  show double.word s (rung m) ^^^ 2 ^ 63 = _
  unfold Format.word
  rw [hsw]
  cases s with
  | false => simp only [Bool.false_eq_true, if_false, Bool.not_false, if_true]; exact xor_top hr
  | true =>
    simp only [if_true, Bool.not_true, Bool.false_eq_true, if_false]
    rw [← xor_top hr, Nat.xor_assoc, Nat.xor_self, Nat.xor_zero]
theorem Fl.abs {x : Nat} {a : Int} (hx : Fl x a) : Fl (x % 2 ^ 63) (a.natAbs : Int) := by
  obtain ⟨s, m, hm, rfl, rfl⟩ := hx
  have hr := rung_lt hm
  have hsw : double.signWeight = 2 ^ 63 := rfl
  refine ⟨false, m, hm, ?_, by unfold sgn; cases s <;> simp⟩
  unfold Format.word
  rw [hsw]
  cases s with
  | false => simp only [Bool.false_eq_true, if_false]; exact Nat.mod_eq_of_lt hr
  | true => simp only [if_true, Bool.false_eq_true, if_false]; rw [Nat.add_mod_left]; exact Nat.mod_eq_of_lt hr
/-- The top bit cleared. -/
theorem clear_top {x : Nat} (h : x < 2 ^ 64) : IntKind.u64.wrap (((BitVec.ofInt 64 (x : Int)) &&& ~~~(BitVec.ofInt 64 9223372036854775808)).toNat : Int) = ((x % 2 ^ 63 : Nat) : Int) := by
  have e : ((BitVec.ofInt 64 (x : Int)) &&& ~~~(BitVec.ofInt 64 9223372036854775808)).toNat = x % 2 ^ 63 := by
    rw [BitVec.toNat_and, BitVec.toNat_not]
    have h1 : (BitVec.ofInt 64 (x : Int)).toNat = x := by
      rw [BitVec.toNat_ofInt]; simp; omega
    rw [h1, show 2 ^ 64 - 1 - (BitVec.ofInt 64 9223372036854775808).toNat = 2 ^ 63 - 1 by decide, Nat.and_two_pow_sub_one_eq_mod]
  rw [e]
  show IntKind.u64.wrap ((x % 2 ^ 63 : Nat) : Int) = _
  have : x % 2 ^ 63 < 2 ^ 63 := Nat.mod_lt _ (by decide)
  unfold IntKind.wrap
  simp [IntKind.bits, IntKind.signed]
  omega
end Go.Fl

/- Texts and lists of texts: what the program's and the reference's functions answer. -/
set_option linter.unusedVariables false
set_option linter.unusedSimpArgs false
namespace Go.Proofs.YtalpbdabeffnlaaGreat
open Go Go.Av
set_option maxRecDepth 100000

def noS : ByteArray := ⟨#[]⟩
def encStrs (l : List ByteArray) : PV := .rs 1 l.length fun i _ => .val (.string (l.getD i noS))
def sameStrs (l m : List ByteArray) : Bool := decide (l.length = m.length) && allUpto (fun i => sEq (l.getD i noS) (m.getD i noS)) l.length 0
def letterB (c : Int) : Bool := iLe 97 c && iLe c 122
def digitB (c : Int) : Bool := iLe 48 c && iLe c 57
def nameB (c : Int) : Bool := letterB c || digitB c
def nameOk (s : ByteArray) : Bool := iLt 0 s.size && iLe s.size 12 && letterB (bt s 0) && allUpto (fun i => nameB (bt s i)) s.size 0
theorem iLt_not (a b : Int) : iLt a b = !iLe b a := by
  cases h : iLe b a
  · simp [iLt_t, iLe_f] at *; exact h
  · simp [iLt_f, iLe_t] at *; exact h
theorem size_empty (s : ByteArray) : sEq s noS = iLe s.size 0 := by
  cases h : iLe (s.size : Int) 0
  · rw [sEq_f]; rw [iLe_f] at h; rintro rfl; exact absurd h (by decide)
  · rw [sEq_t]; rw [iLe_t] at h
    have h0 : s.size = 0 := by omega
    cases s with | mk a => exact congrArg ByteArray.mk (Array.eq_empty_of_size_eq_zero h0)
theorem name_all (s : ByteArray) (h : 0 < s.size) : allUpto (fun i => letterB (bt s i) || (digitB (bt s i) && !iEq (i : Nat) 0)) s.size 0 = (letterB (bt s 0) && allUpto (fun i => nameB (bt s i)) s.size 0) := by
  rw [Bool.eq_iff_iff, Bool.and_eq_true, allUpto_iff, allUpto_iff]
  constructor
  · intro hh
    have h0 := hh 0 (Nat.le_refl _) (by omega)
    have e0 : iEq 0 0 = true := by simp [iEq_t]
    refine ⟨by simpa [e0] using h0, fun j hj hk => ?_⟩
    have := hh j hj hk
    unfold nameB
    revert this
    cases letterB (bt s j) <;> cases digitB (bt s j) <;> simp
  · rintro ⟨h1, h2⟩ j hj hk
    have := h2 j hj hk
    unfold nameB at this
    by_cases h0 : j = 0
    · subst h0; simp [h1]
    · have : iEq (j : Nat) 0 = false := by rw [iEq_f]; omega
      simp_all

theorem f115 (c : Int) : PCall Tryz.prog 136 [.val (.int .u8 c)] (.p (.val (.bool (letterB c)))) [] := by
  refine gcode hT hM Tryz.func136 rfl rfl (rv := [(2, none)]) rfl rfl rfl fun G hG => ?_
  conv => whnf
  repeat' (first
    | (refine ⟨fun _ => ?_, fun _ => ?_⟩ <;> (conv => whnf))
    | (refine And.intro (by omega) ?_; conv => whnf)
    | (refine And.intro rfl ?_; conv => whnf)
    | (exact ⟨[], _, _, _, rfl, rfl, rfl, RepLe.bl (by first | (simp_all [letterB]; done) | grind [letterB]), trivial⟩)
    | (exact ⟨[], _, _, _, rfl, rfl, rfl, RepLe.vb (by first | (simp_all [letterB]; done) | grind [letterB]), trivial⟩)
    | (intro z hz; have hy := wrap64_eq hz (by omega) (by omega); clear hz; subst hy; conv => whnf)
    | (exact ⟨i + 1, ⟨by omega, by first | (simp_all [letterB]; done) | grind [letterB]⟩, by omega, stle ⟨trivial, trivial⟩ trivial rfl⟩))

theorem f73 (s : ByteArray) : PCall Tryz.prog 74 [.val (.string s)] (.p (.val (.bool (nameOk s)))) [] := by
  refine gcode hT hM Tryz.func74 rfl rfl (rv := [(2, none)]) rfl rfl rfl fun G hG => ?_
  conv => whnf
  refine ⟨fun h => ?_, fun h => ?_⟩
  · conv => whnf
    have h : sEq s noS = true := h
    rw [size_empty] at h
    exact ⟨[], _, _, _, rfl, rfl, rfl, RepLe.bl (by simp [nameOk, iLt_not, h]), trivial⟩
  conv => whnf
  have h : sEq s noS = false := h
  rw [size_empty, iLe_f] at h
  have hl : iLt 0 (s.size : Int) = true := by rw [iLt_t]; omega
  refine ⟨fun h2 => ?_, fun h2 => ?_⟩
  · conv => whnf
    rw [iLt_not] at h2
    exact ⟨[], _, _, _, rfl, rfl, rfl, RepLe.bl (by simp at h2; simp [nameOk, h2]), trivial⟩
  conv => whnf
  rw [iLt_not] at h2
  have h2' : iLe (s.size : Int) 12 = true := by simpa using h2
  have h12 := iLe_t.1 h2'
  refine ⟨by omega, ?_⟩
  conv => whnf
  refine CallK.lent (f115 _) rfl ?_
  conv => whnf
  refine ⟨fun h3 => ?_, fun h3 => ?_⟩
  · conv => whnf
    exact ⟨[], _, _, _, rfl, rfl, rfl, RepLe.bl (by simp at h3; simp [nameOk, h3]), trivial⟩
  conv => whnf
  have h3' : letterB (bt s 0) = true := by simpa using h3
  refine AW.loop (X := Nat) (fun i => told 40 [(0, .p (.val (.string s))), (18, vI .i64 (s.size : Int)), (19, vI .i64 (i : Int))] [] []) (fun i => i ≤ s.size ∧ nameOk s = allUpto (fun i => nameB (bt s i)) (s.size - i) i) (fun i => s.size - i) (used0 hG _) 0 ⟨by omega, by simp [nameOk, hl, h2', h3']⟩ (stle ⟨RepLe.refl _, RepLe.refl _, RepLe.refl _, trivial⟩ trivial rfl) ?_
  rintro i ⟨hi, hr⟩
  refine codeK_aw hT hM _ _ _ ?_
  conv => whnf
  refine ⟨fun h4 => ?_, fun h4 => ?_⟩
  · have hlt : i < s.size := by rw [iLt_t] at h4; omega
    rw [allUpto_step _ hlt] at hr
    conv => whnf
    repeat' (first
      | (refine ⟨fun _ => ?_, fun _ => ?_⟩ <;> (conv => whnf))
      | (refine And.intro (by omega) ?_; conv => whnf)
      | (refine CallK.lent (f115 _) rfl ?_; conv => whnf)
      | (refine And.intro rfl ?_; conv => whnf)
      | (exact ⟨[], _, _, _, rfl, rfl, rfl, RepLe.bl (by first | (simp_all [nameB, digitB, iLt_not]; done) | grind [nameB, digitB, iLt_not]), trivial⟩)
      | (exact ⟨[], _, _, _, rfl, rfl, rfl, RepLe.vb (by first | (simp_all [nameB, digitB, iLt_not]; done) | grind [nameB, digitB, iLt_not]), trivial⟩)
      | (intro z hz; have hy := wrap64_eq hz (by omega) (by omega); clear hz; subst hy; conv => whnf)
      | (exact ⟨i + 1, ⟨by omega, by first | (simp_all [nameB, digitB, iLt_not]; done) | grind [nameB, digitB, iLt_not]⟩, by omega, stle ⟨RepLe.refl _, RepLe.refl _, RepLe.of rfl, trivial⟩ trivial rfl⟩))
  · have hge : i = s.size := by rw [iLt_f] at h4; omega
    subst hge
    conv => whnf
    exact ⟨[], _, _, _, rfl, rfl, rfl, RepLe.bl (by rw [hr, allUpto_end]), trivial⟩

theorem f109 (s : ByteArray) : PCall Tryz.prog 96 [.val (.string s)] (.p (.val (.bool (nameOk s)))) [] := by
  refine gcode hT hM Tryz.func96 rfl rfl (rv := [(2, none)]) rfl rfl rfl fun G hG => ?_
  conv => whnf
  refine ⟨fun h => ?_, fun h => ?_⟩
  · conv => whnf
    rw [iLt_not] at h
    have h : iLe 1 (s.size : Int) = false := by simpa using h
    have h : iLt 0 (s.size : Int) = false := by rw [iLe_f] at h; rw [iLt_f]; omega
    exact ⟨[], _, _, _, rfl, rfl, rfl, RepLe.bl (by simp [nameOk, h]), trivial⟩
  conv => whnf
  have hl : iLt 0 (s.size : Int) = true := by rw [iLt_f] at h; rw [iLt_t]; omega
  refine ⟨fun h2 => ?_, fun h2 => ?_⟩
  · conv => whnf
    rw [iLt_not] at h2
    exact ⟨[], _, _, _, rfl, rfl, rfl, RepLe.bl (by simp at h2; simp [nameOk, h2]), trivial⟩
  conv => whnf
  rw [iLt_not] at h2
  have h2' : iLe (s.size : Int) 12 = true := by simpa using h2
  have h12 := iLe_t.1 h2'
  have h0 := iLt_t.1 hl
  refine AW.loop (X := Nat) (fun i => told 50 [(0, .p (.val (.string s))), (3, vI .i64 (i : Int))] [] []) (fun i => i ≤ s.size ∧ nameOk s = allUpto (fun i => letterB (bt s i) || (digitB (bt s i) && !iEq (i : Nat) 0)) (s.size - i) i) (fun i => s.size - i) (used0 hG _) 0 ⟨by omega, by rw [Nat.sub_zero, name_all s (by omega)]; simp [nameOk, hl, h2']⟩ (stle ⟨RepLe.refl _, RepLe.refl _, trivial⟩ trivial rfl) ?_
  rintro i ⟨hi, hr⟩
  refine codeK_aw hT hM _ _ _ ?_
  conv => whnf
  refine ⟨fun h4 => ?_, fun h4 => ?_⟩
  · have hlt : i < s.size := by rw [iLt_t] at h4; omega
    rw [allUpto_step _ hlt] at hr
    conv => whnf
    repeat' (first
      | (refine ⟨fun _ => ?_, fun _ => ?_⟩ <;> (conv => whnf))
      | (refine And.intro (by omega) ?_; conv => whnf)
      | (refine And.intro rfl ?_; conv => whnf)
      | (exact ⟨[], _, _, _, rfl, rfl, rfl, RepLe.bl (by first | (simp_all [nameB, letterB, digitB]; done) | grind [nameB, letterB, digitB]), trivial⟩)
      | (exact ⟨[], _, _, _, rfl, rfl, rfl, RepLe.vb (by first | (simp_all [nameB, letterB, digitB]; done) | grind [nameB, letterB, digitB]), trivial⟩)
      | (intro z hz; have hy := wrap64_eq hz (by omega) (by omega); clear hz; subst hy; conv => whnf)
      | (exact ⟨i + 1, ⟨by omega, by first | (simp_all [nameB, letterB, digitB]; done) | grind [nameB, letterB, digitB]⟩, by omega, stle ⟨RepLe.refl _, RepLe.of rfl, trivial⟩ trivial rfl⟩))
  · have hge : i = s.size := by rw [iLt_f] at h4; omega
    subst hge
    conv => whnf
    exact ⟨[], _, _, _, rfl, rfl, rfl, RepLe.bl (by rw [hr, allUpto_end]), trivial⟩
end Go.Proofs.YtalpbdabeffnlaaGreat

/- Lists of texts, fields, pairs, lenses: sameness. -/
set_option linter.unusedVariables false
set_option linter.unusedSimpArgs false
namespace Go.Proofs.YtalpbdabeffnlaaGreat
open Go Go.Av
set_option maxRecDepth 100000

structure SRef where
  scope : Int
  group : ByteArray
  name : ByteArray
structure SField where
  place : SRef
  kind : Int
  dflt : ByteArray
  cases : List ByteArray
  worth : Int
structure SPair where
  frm : ByteArray
  tto : ByteArray
structure SLens where
  kind : Int
  place : SRef
  name : ByteArray
  other : ByteArray
  factor : Int
  field : SField
  forth : List SPair
  back : List SPair
def noRef : SRef := ⟨0, noS, noS⟩
def noField : SField := ⟨noRef, 0, noS, [], 0⟩
def noPair : SPair := ⟨noS, noS⟩
def refCells (r : SRef) : List PV := [.val (.int .i64 r.scope), .val (.string r.group), .val (.string r.name)]
def fieldCells (f : SField) : List PV := [.val (.int .i64 f.place.scope), .val (.string f.place.group), .val (.string f.place.name), .val (.int .i64 f.kind), .val (.string f.dflt), encStrs f.cases, .val (.int .i64 f.worth)]
def pairCells (p : SPair) : List PV := [.val (.string p.frm), .val (.string p.tto)]
def encPairs (l : List SPair) : PV := .rs 2 l.length fun i => at_ .any (pairCells (l.getD i noPair))
def lensCells (x : SLens) : List PV := [.val (.int .i64 x.kind), .val (.int .i64 x.place.scope), .val (.string x.place.group), .val (.string x.place.name), .val (.string x.name), .val (.string x.other), .val (.int .i64 x.factor),
  .val (.int .i64 x.field.place.scope), .val (.string x.field.place.group), .val (.string x.field.place.name), .val (.int .i64 x.field.kind), .val (.string x.field.dflt), encStrs x.field.cases, .val (.int .i64 x.field.worth),
  encPairs x.forth, encPairs x.back]
def encRef (r : SRef) : PV := aggL (refCells r)
def encField (f : SField) : PV := aggL (fieldCells f)
def encPair (p : SPair) : PV := aggL (pairCells p)
def encLens (x : SLens) : PV := aggL (lensCells x)

/-- Every list in it is one that memory can hold. -/
def okField (f : SField) : Prop := f.cases.length ≤ maxLen
def okLens (x : SLens) : Prop := okField x.field ∧ x.forth.length ≤ maxLen ∧ x.back.length ≤ maxLen

def sameRef (a b : SRef) : Bool := iEq a.scope b.scope && (sEq a.group b.group && sEq a.name b.name)
def sameField (a b : SField) : Bool := sameRef a.place b.place && (iEq a.kind b.kind && (sEq a.dflt b.dflt && (iEq a.worth b.worth && sameStrs a.cases b.cases)))
def samePair (a b : SPair) : Bool := sEq a.frm b.frm && sEq a.tto b.tto
def samePairs (l m : List SPair) : Bool := decide (l.length = m.length) && allUpto (fun i => samePair (l.getD i noPair) (m.getD i noPair)) l.length 0
def sameLens (a b : SLens) : Bool := iEq a.kind b.kind && (sameRef a.place b.place && (sEq a.name b.name && (sEq a.other b.other && (iEq a.factor b.factor && (sameField a.field b.field && (samePairs a.forth b.forth && samePairs a.back b.back))))))

theorem f113 (l m : List ByteArray) (hl : l.length ≤ maxLen) : PCall Tryz.prog 111 [encStrs l, encStrs m] (.p (.val (.bool (sameStrs l m)))) [] := by
  have hl : l.length ≤ 9223372036854775807 := hl
  refine gcode hT hM Tryz.func111 rfl rfl (rv := [(4, none)]) rfl rfl rfl fun G hG => ?_
  conv => whnf
  refine ⟨fun h => ?_, fun h => ?_⟩
  · conv => whnf
    exact ⟨[], _, _, _, rfl, rfl, rfl, RepLe.bl (by simp [iEq_f] at h; simp [sameStrs]; omega), trivial⟩
  conv => whnf
  have hlen : l.length = m.length := by simp [iEq_t] at h; omega
  refine AW.loop (X := Nat) (fun i => told 26 [(0, .p (encStrs l)), (1, .p (encStrs m)), (12, vI .i64 (l.length : Int)), (13, vI .i64 (i : Int))] [] []) (fun i => i ≤ l.length ∧ sameStrs l m = allUpto (fun i => sEq (l.getD i noS) (m.getD i noS)) (l.length - i) i) (fun i => l.length - i) (used0 hG _) 0 ⟨by omega, by simp [sameStrs, hlen]⟩ (stle ⟨RepLe.refl _, RepLe.refl _, RepLe.refl _, RepLe.refl _, trivial⟩ trivial rfl) ?_
  rintro i ⟨hi, hr⟩
  refine codeK_aw hT hM _ _ _ ?_
  conv => whnf
  refine ⟨fun h4 => ?_, fun h4 => ?_⟩
  · have hlt : i < l.length := by rw [iLt_t] at h4; omega
    rw [allUpto_step _ hlt] at hr
    conv => whnf
    repeat' (first
      | (refine ⟨fun _ => ?_, fun _ => ?_⟩ <;> (conv => whnf))
      | (refine And.intro (by omega) ?_; conv => whnf)
      | (refine And.intro rfl ?_; conv => whnf)
      | (exact ⟨[], _, _, _, rfl, rfl, rfl, RepLe.bl (by first | (simp_all [noS]; done) | grind [noS]), trivial⟩)
      | (exact ⟨[], _, _, _, rfl, rfl, rfl, RepLe.vb (by first | (simp_all [noS]; done) | grind [noS]), trivial⟩)
      | (intro z hz; have hy := wrap64_eq hz (by omega) (by omega); clear hz; subst hy; conv => whnf)
      | (exact ⟨i + 1, ⟨by omega, by first | (simp_all [noS]; done) | grind [noS]⟩, by omega, stle ⟨RepLe.refl _, RepLe.refl _, RepLe.refl _, RepLe.of rfl, trivial⟩ trivial rfl⟩))
  · have hge : i = l.length := by rw [iLt_f] at h4; omega
    subst hge
    conv => whnf
    exact ⟨[], _, _, _, rfl, rfl, rfl, RepLe.bl (by rw [hr, allUpto_end]), trivial⟩

theorem f102 (l m : List ByteArray) (hl : l.length ≤ maxLen) : PCall Tryz.prog 89 [encStrs l, encStrs m] (.p (.val (.bool (sameStrs l m)))) [] := by
  have hl : l.length ≤ 9223372036854775807 := hl
  refine gcode hT hM Tryz.func89 rfl rfl (rv := [(4, none)]) rfl rfl rfl fun G hG => ?_
  conv => whnf
  refine ⟨fun h => ?_, fun h => ?_⟩
  · conv => whnf
    exact ⟨[], _, _, _, rfl, rfl, rfl, RepLe.bl (by simp [iEq_f] at h; simp [sameStrs]; omega), trivial⟩
  conv => whnf
  have hlen : l.length = m.length := by simp [iEq_t] at h; omega
  refine AW.loop (X := Nat) (fun i => told 26 [(0, .p (encStrs l)), (1, .p (encStrs m)), (5, vI .i64 (i : Int))] [] []) (fun i => i ≤ l.length ∧ sameStrs l m = allUpto (fun i => sEq (l.getD i noS) (m.getD i noS)) (l.length - i) i) (fun i => l.length - i) (used0 hG _) 0 ⟨by omega, by simp [sameStrs, hlen]⟩ (stle ⟨RepLe.refl _, RepLe.refl _, RepLe.refl _, trivial⟩ trivial rfl) ?_
  rintro i ⟨hi, hr⟩
  refine codeK_aw hT hM _ _ _ ?_
  conv => whnf
  refine ⟨fun h4 => ?_, fun h4 => ?_⟩
  · have hlt : i < l.length := by rw [iLt_t] at h4; omega
    rw [allUpto_step _ hlt] at hr
    conv => whnf
    repeat' (first
      | (refine ⟨fun _ => ?_, fun _ => ?_⟩ <;> (conv => whnf))
      | (refine And.intro (by omega) ?_; conv => whnf)
      | (refine And.intro rfl ?_; conv => whnf)
      | (exact ⟨[], _, _, _, rfl, rfl, rfl, RepLe.bl (by first | (simp_all [noS]; done) | grind [noS]), trivial⟩)
      | (exact ⟨[], _, _, _, rfl, rfl, rfl, RepLe.vb (by first | (simp_all [noS]; done) | grind [noS]), trivial⟩)
      | (intro z hz; have hy := wrap64_eq hz (by omega) (by omega); clear hz; subst hy; conv => whnf)
      | (exact ⟨i + 1, ⟨by omega, by first | (simp_all [noS]; done) | grind [noS]⟩, by omega, stle ⟨RepLe.refl _, RepLe.refl _, RepLe.of rfl, trivial⟩ trivial rfl⟩))
  · have hge : i = l.length := by rw [iLt_f] at h4; omega
    subst hge
    conv => whnf
    exact ⟨[], _, _, _, rfl, rfl, rfl, RepLe.bl (by rw [hr, allUpto_end]), trivial⟩

theorem f83 (l m : List ByteArray) (hl : l.length ≤ maxLen) : PCall Tryz.prog 98 [encStrs l, encStrs m] (.p (.val (.bool (sameStrs l m)))) [] := by
  refine gcode hT hM Tryz.func98 rfl rfl (rv := [(4, none)]) rfl rfl rfl fun G hG => ?_
  conv => whnf
  refine CallK.lent (f102 _ _ hl) rfl ?_
  conv => whnf
  exact ⟨[], _, _, _, rfl, rfl, rfl, RepLe.refl _, trivial⟩

theorem f110 (l m : List SPair) (hl : l.length ≤ maxLen) : PCall Tryz.prog 149 [encPairs l, encPairs m] (.p (.val (.bool (samePairs l m)))) [] := by
  have hl : l.length ≤ 9223372036854775807 := hl
  refine gcode hT hM Tryz.func149 rfl rfl (rv := [(4, none)]) rfl rfl rfl fun G hG => ?_
  conv => whnf
  refine ⟨fun h => ?_, fun h => ?_⟩
  · conv => whnf
    exact ⟨[], _, _, _, rfl, rfl, rfl, RepLe.bl (by simp [iEq_f] at h; simp [samePairs]; omega), trivial⟩
  conv => whnf
  have hlen : l.length = m.length := by simp [iEq_t] at h; omega
  refine AW.loop (X := Nat) (fun i => told 26 [(0, .p (encPairs l)), (1, .p (encPairs m)), (12, vI .i64 (l.length : Int)), (13, vI .i64 (i : Int))] [] []) (fun i => i ≤ l.length ∧ samePairs l m = allUpto (fun i => samePair (l.getD i noPair) (m.getD i noPair)) (l.length - i) i) (fun i => l.length - i) (used0 hG _) 0 ⟨by omega, by simp [samePairs, hlen]⟩ (stle ⟨RepLe.refl _, RepLe.refl _, RepLe.refl _, RepLe.refl _, trivial⟩ trivial rfl) ?_
  rintro i ⟨hi, hr⟩
  refine codeK_aw hT hM _ _ _ ?_
  conv => whnf
  refine ⟨fun h4 => ?_, fun h4 => ?_⟩
  · have hlt : i < l.length := by rw [iLt_t] at h4; omega
    rw [allUpto_step _ hlt] at hr
    conv => whnf
    repeat' (first
      | (refine ⟨fun _ => ?_, fun _ => ?_⟩ <;> (conv => whnf))
      | (refine And.intro (by omega) ?_; conv => whnf)
      | (refine And.intro rfl ?_; conv => whnf)
      | (exact ⟨[], _, _, _, rfl, rfl, rfl, RepLe.bl (by first | (simp_all [samePair]; done) | grind [samePair]), trivial⟩)
      | (exact ⟨[], _, _, _, rfl, rfl, rfl, RepLe.vb (by first | (simp_all [samePair]; done) | grind [samePair]), trivial⟩)
      | (intro z hz; have hy := wrap64_eq hz (by omega) (by omega); clear hz; subst hy; conv => whnf)
      | (exact ⟨i + 1, ⟨by omega, by first | (simp_all [samePair]; done) | grind [samePair]⟩, by omega, stle ⟨RepLe.refl _, RepLe.refl _, RepLe.refl _, RepLe.of rfl, trivial⟩ trivial rfl⟩))
  · have hge : i = l.length := by rw [iLt_f] at h4; omega
    subst hge
    conv => whnf
    exact ⟨[], _, _, _, rfl, rfl, rfl, RepLe.bl (by rw [hr, allUpto_end]), trivial⟩

theorem f69 (l m : List SPair) (hl : l.length ≤ maxLen) : PCall Tryz.prog 78 [encPairs l, encPairs m] (.p (.val (.bool (samePairs l m)))) [] := by
  have hl : l.length ≤ 9223372036854775807 := hl
  refine gcode hT hM Tryz.func78 rfl rfl (rv := [(4, none)]) rfl rfl rfl fun G hG => ?_
  conv => whnf
  refine ⟨fun h => ?_, fun h => ?_⟩
  · conv => whnf
    exact ⟨[], _, _, _, rfl, rfl, rfl, RepLe.bl (by simp [iEq_f] at h; simp [samePairs]; omega), trivial⟩
  conv => whnf
  have hlen : l.length = m.length := by simp [iEq_t] at h; omega
  refine AW.loop (X := Nat) (fun i => told 26 [(0, .p (encPairs l)), (1, .p (encPairs m)), (5, vI .i64 (i : Int))] [] []) (fun i => i ≤ l.length ∧ samePairs l m = allUpto (fun i => samePair (l.getD i noPair) (m.getD i noPair)) (l.length - i) i) (fun i => l.length - i) (used0 hG _) 0 ⟨by omega, by simp [samePairs, hlen]⟩ (stle ⟨RepLe.refl _, RepLe.refl _, RepLe.refl _, trivial⟩ trivial rfl) ?_
  rintro i ⟨hi, hr⟩
  refine codeK_aw hT hM _ _ _ ?_
  conv => whnf
  refine ⟨fun h4 => ?_, fun h4 => ?_⟩
  · have hlt : i < l.length := by rw [iLt_t] at h4; omega
    rw [allUpto_step _ hlt] at hr
    conv => whnf
    repeat' (first
      | (refine ⟨fun _ => ?_, fun _ => ?_⟩ <;> (conv => whnf))
      | (refine And.intro (by omega) ?_; conv => whnf)
      | (refine And.intro rfl ?_; conv => whnf)
      | (exact ⟨[], _, _, _, rfl, rfl, rfl, RepLe.bl (by first | (simp_all [samePair]; done) | grind [samePair]), trivial⟩)
      | (exact ⟨[], _, _, _, rfl, rfl, rfl, RepLe.vb (by first | (simp_all [samePair]; done) | grind [samePair]), trivial⟩)
      | (intro z hz; have hy := wrap64_eq hz (by omega) (by omega); clear hz; subst hy; conv => whnf)
      | (exact ⟨i + 1, ⟨by omega, by first | (simp_all [samePair]; done) | grind [samePair]⟩, by omega, stle ⟨RepLe.refl _, RepLe.refl _, RepLe.of rfl, trivial⟩ trivial rfl⟩))
  · have hge : i = l.length := by rw [iLt_f] at h4; omega
    subst hge
    conv => whnf
    exact ⟨[], _, _, _, rfl, rfl, rfl, RepLe.bl (by rw [hr, allUpto_end]), trivial⟩

theorem f66 (a b : SField) (ha : okField a) : PCall Tryz.prog 109 [encField a, encField b] (.p (.val (.bool (sameField a b)))) [] := by
  refine gcode hT hM Tryz.func109 rfl rfl (rv := [(4, none)]) rfl rfl rfl fun G hG => ?_
  conv => whnf
  repeat' (first
    | (refine ⟨fun _ => ?_, fun _ => ?_⟩ <;> (conv => whnf))
    | (refine And.intro (by omega) ?_; conv => whnf)
    | (refine CallK.lent (f113 _ _ ha) rfl ?_; conv => whnf)
    | (refine And.intro rfl ?_; conv => whnf)
    | (exact ⟨[], _, _, _, rfl, rfl, rfl, RepLe.bl (by first | (simp_all [sameField, sameRef]; done) | grind [sameField, sameRef]), trivial⟩)
    | (exact ⟨[], _, _, _, rfl, rfl, rfl, RepLe.vb (by first | (simp_all [sameField, sameRef]; done) | grind [sameField, sameRef]), trivial⟩)
    | (intro z hz; have hy := wrap64_eq hz (by omega) (by omega); clear hz; subst hy; conv => whnf)
    | (exact ⟨i + 1, ⟨by omega, by first | (simp_all [sameField, sameRef]; done) | grind [sameField, sameRef]⟩, by omega, stle ⟨trivial, trivial⟩ trivial rfl⟩))
theorem f32 (a b : SField) (ha : okField a) : PCall Tryz.prog 46 [encField a, encField b] (.p (.val (.bool (sameField a b)))) [] := by
  refine gcode hT hM Tryz.func46 rfl rfl (rv := [(4, none)]) rfl rfl rfl fun G hG => ?_
  conv => whnf
  repeat' (first
    | (refine ⟨fun _ => ?_, fun _ => ?_⟩ <;> (conv => whnf))
    | (refine And.intro (by omega) ?_; conv => whnf)
    | (refine CallK.lent (f83 _ _ ha) rfl ?_; conv => whnf)
    | (refine And.intro rfl ?_; conv => whnf)
    | (exact ⟨[], _, _, _, rfl, rfl, rfl, RepLe.bl (by first | (simp_all [sameField, sameRef]; done) | grind [sameField, sameRef]), trivial⟩)
    | (exact ⟨[], _, _, _, rfl, rfl, rfl, RepLe.vb (by first | (simp_all [sameField, sameRef]; done) | grind [sameField, sameRef]), trivial⟩)
    | (intro z hz; have hy := wrap64_eq hz (by omega) (by omega); clear hz; subst hy; conv => whnf)
    | (exact ⟨i + 1, ⟨by omega, by first | (simp_all [sameField, sameRef]; done) | grind [sameField, sameRef]⟩, by omega, stle ⟨trivial, trivial⟩ trivial rfl⟩))
theorem f24 (a b : SLens) (ha : okLens a) : PCall Tryz.prog 37 [encLens a, encLens b] (.p (.val (.bool (sameLens a b)))) [] := by
  refine gcode hT hM Tryz.func37 rfl rfl (rv := [(4, none)]) rfl rfl rfl fun G hG => ?_
  conv => whnf
  repeat' (first
    | (refine ⟨fun _ => ?_, fun _ => ?_⟩ <;> (conv => whnf))
    | (refine And.intro (by omega) ?_; conv => whnf)
    | (refine CallK.lent (f32 a.field b.field ha.1) rfl ?_; conv => whnf)
    | (refine CallK.lent (f69 _ _ ha.2.1) rfl ?_; conv => whnf)
    | (refine CallK.lent (f69 _ _ ha.2.2) rfl ?_; conv => whnf)
    | (refine And.intro rfl ?_; conv => whnf)
    | (exact ⟨[], _, _, _, rfl, rfl, rfl, RepLe.bl (by first | (simp_all [sameLens, sameRef]; done) | grind [sameLens, sameRef]), trivial⟩)
    | (exact ⟨[], _, _, _, rfl, rfl, rfl, RepLe.vb (by first | (simp_all [sameLens, sameRef]; done) | grind [sameLens, sameRef]), trivial⟩)
    | (intro z hz; have hy := wrap64_eq hz (by omega) (by omega); clear hz; subst hy; conv => whnf)
    | (exact ⟨i + 1, ⟨by omega, by first | (simp_all [sameLens, sameRef]; done) | grind [sameLens, sameRef]⟩, by omega, stle ⟨trivial, trivial⟩ trivial rfl⟩))
theorem f57 (a b : SLens) (ha : okLens a) : PCall Tryz.prog 100 [encLens a, encLens b] (.p (.val (.bool (sameLens a b)))) [] := by
  refine gcode hT hM Tryz.func100 rfl rfl (rv := [(4, none)]) rfl rfl rfl fun G hG => ?_
  conv => whnf
  repeat' (first
    | (refine ⟨fun _ => ?_, fun _ => ?_⟩ <;> (conv => whnf))
    | (refine And.intro (by omega) ?_; conv => whnf)
    | (refine CallK.lent (f66 a.field b.field ha.1) rfl ?_; conv => whnf)
    | (refine CallK.lent (f110 _ _ ha.2.1) rfl ?_; conv => whnf)
    | (refine CallK.lent (f110 _ _ ha.2.2) rfl ?_; conv => whnf)
    | (refine And.intro rfl ?_; conv => whnf)
    | (exact ⟨[], _, _, _, rfl, rfl, rfl, RepLe.bl (by first | (simp_all [sameLens, sameRef]; done) | grind [sameLens, sameRef]), trivial⟩)
    | (exact ⟨[], _, _, _, rfl, rfl, rfl, RepLe.vb (by first | (simp_all [sameLens, sameRef]; done) | grind [sameLens, sameRef]), trivial⟩)
    | (intro z hz; have hy := wrap64_eq hz (by omega) (by omega); clear hz; subst hy; conv => whnf)
    | (exact ⟨i + 1, ⟨by omega, by first | (simp_all [sameLens, sameRef]; done) | grind [sameLens, sameRef]⟩, by omega, stle ⟨trivial, trivial⟩ trivial rfl⟩))
end Go.Proofs.YtalpbdabeffnlaaGreat
