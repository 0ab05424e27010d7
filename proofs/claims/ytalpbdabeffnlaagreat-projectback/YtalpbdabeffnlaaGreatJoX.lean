import Derived.Test.YtalpbdabeffnlaaGreatJoB
import Derived.Test.YtalpbdabeffnlaaGreatJoV
import Derived.ProofKit
import Derived.Laws.Externs
import Derived.OwnWalk
import Derived.Laws.ComplexArith
import Derived.LoopTactic
/- Floating point in the program: whole numbers. -/
set_option linter.unusedVariables false
set_option linter.unusedSimpArgs false
namespace Go.Proofs.YtalpbdabeffnlaaGreat
open Go Go.Av Go.Fl
set_option maxRecDepth 100000

def truncW (x : Nat) : Nat := Ieee.double.write ((Ieee.double.read x).integral .zero)
theorem run_trunc {P : Program} {x : Nat} {a : Int} (h : Fl x a) (w : World) : (Extern.MathFloor.toIntegral "math.archTrunc" .zero #[.float .f64 x]).run P w = .ok (.float .f64 (truncW x)) w := by
  obtain ⟨s, m, i, hm, hx, _⟩ := h.read
  have hd : FloatKind.f64.decode x = .number s (m <<< i) (-(i : Int)) := hx
  have he : truncW x = FloatKind.f64.encode (.number s m 0) := by
    unfold truncW
    rw [hx, integral_whole]
    rfl
  rw [he]
  delta Extern.MathFloor.toIntegral
  generalize hdec : FloatKind.decode = dec
  have hd2 : dec .f64 x = .number s (m <<< i) (-(i : Int)) := by rw [← hdec]; exact hd
  have hi := integral_whole .zero s m i
  clear hd hx hdec he
  conv => lhs; arg 2; whnf
  generalize dec .f64 x = d at hd2
  subst hd2
  show Sem.run P (pure (Value.float .f64 (FloatKind.f64.encode (Ieee.Datum.integral .zero (.number s (m <<< i) (-(i : Int))))))) w = _
  rw [hi]
  rfl
set_option maxHeartbeats 1000000 in
theorem calls386 (x : Nat) {a : Int} (h : Fl x a) (w : World) : Calls Tryz.prog 195 #[.float .f64 x] w fun e w' => e = .returned (.float .f64 (truncW x)) ∧ w' = w := by
  go_enter Tryz.func195, Tryz.ntmps195
  go_wp2
  rw [run_callFunc_extern Tryz.func197 (by kernel_rfl) (by kernel_rfl) (by kernel_rfl) (e := Extern.MathFloor.toIntegral "math.archTrunc" .zero) (by kernel_rfl), run_trunc h]
  simp only [Result.andThen]
  rw [Oper.upon_value]
  go_wp2
  go_ret
  exact ⟨rfl, rfl⟩
set_option maxHeartbeats 1000000 in
theorem calls387 (x : Nat) (h : x < 2 ^ 64) (w : World) : Calls Tryz.prog 196 #[.float .f64 x] w fun e w' => e = .returned (.float .f64 (x % 2 ^ 63)) ∧ w' = w := by
  go_enter Tryz.func196, Tryz.ntmps196
  go_wp2
  rw [run_callFunc_extern Tryz.func200 (by kernel_rfl) (by kernel_rfl) (by kernel_rfl) (e := Extern.MathFloatBits.float64bits) (by kernel_rfl), show (Extern.MathFloatBits.float64bits #[.float .f64 x]).run Tryz.prog w = .ok (.int .u64 x) w from rfl]
  simp only [Result.andThen]
  rw [Oper.upon_value]
  go_wp2
  rw [show bits BinOp.andNot IntKind.u64 (x : Int) 9223372036854775808 = ((x % 2 ^ 63 : Nat) : Int) from clear_top h]
  rw [run_callFunc_extern Tryz.func199 (by kernel_rfl) (by kernel_rfl) (by kernel_rfl) (e := Extern.MathFloatBits.float64frombits) (by kernel_rfl), show (Extern.MathFloatBits.float64frombits #[.int .u64 ((x % 2 ^ 63 : Nat) : Int)]).run Tryz.prog w = .ok (.float .f64 (x % 2 ^ 63)) w from rfl]
  simp only [Result.andThen]
  rw [Oper.upon_value]
  go_wp2
  go_ret
  exact ⟨rfl, rfl⟩

def whole (v : Int) : Prop := v.natAbs ≤ 4503599627370496
theorem order_eql {x y : Nat} {a b : Int} (hx : Fl x a) (hy : Fl y b) (h : a = b) : (FloatKind.f64.format.order x y == some Ordering.eq) = true := by
  have := hx.order hy
  rw [show FloatKind.f64.format.order x y = some (compare a b) from this, h, Int.compare_eq_eq.2 rfl]
  rfl
theorem order_leq {x y : Nat} {a b : Int} (hx : Fl x a) (hy : Fl y b) (h : a ≤ b) : (FloatKind.f64.format.order x y == some Ordering.lt || FloatKind.f64.format.order x y == some Ordering.eq) = true := by
  have := hx.order hy
  rw [show FloatKind.f64.format.order x y = some (compare a b) from this]
  rcases Int.lt_or_eq_of_le h with h | h
  · rw [Int.compare_eq_lt.2 h]; rfl
  · rw [h, Int.compare_eq_eq.2 rfl]; rfl
theorem most_fl : Fl 4841369599423283200 4503599627370496 := ⟨false, 4503599627370496, by decide, by decide +kernel, by decide⟩
theorem run_feql {P : Program} {t : TypeId} {x y : Nat} {a b : Int} (hx : Fl x a) (hy : Fl y b) (h : a = b) (w : World) : (binOp .eql t (.float .f64 x) (.float .f64 y)).run P w = .ok (.bool true) w := by
  have e : (binOp .eql t (.float .f64 x) (.float .f64 y)).run P w = .ok (.bool (FloatKind.f64.format.order x y == some Ordering.eq)) w := rfl
  rw [e, order_eql hx hy h]
theorem run_fleq {P : Program} {t : TypeId} {x y : Nat} {a b : Int} (hx : Fl x a) (hy : Fl y b) (h : a ≤ b) (w : World) : (binOp .leq t (.float .f64 x) (.float .f64 y)).run P w = .ok (.bool true) w := by
  have e : (binOp .leq t (.float .f64 x) (.float .f64 y)).run P w = .ok (.bool (FloatKind.f64.format.order x y == some Ordering.lt || FloatKind.f64.format.order x y == some Ordering.eq)) w := rfl
  rw [e, order_leq hx hy h]
set_option maxHeartbeats 1000000 in
theorem calls385 (x : Nat) {a : Int} (h : Fl x a) (ha : whole a) (w : World) : Calls Tryz.prog 194 #[.float .f64 x, .float .f64 4841369599423283200] w fun e w' => e = .returned (.bool true) ∧ w' = w := by
  have h1 : FloatKind.f64.format.order (truncW x) x = some Ordering.eq := by have := order_eql (h.trunc .zero) h rfl; exact eq_of_beq this
  have h2 := order_leq h.abs most_fl (show ((a.natAbs : Nat) : Int) ≤ 4503599627370496 by unfold whole at ha; omega)
  have hlt := h.lt
  go_enter Tryz.func194, Tryz.ntmps194
  go_wp2_with fail
  refine (calls386 x h _).mono ?_
  rintro e w1 ⟨rfl, rfl⟩
  go_wp2_with fail
  refine (calls387 x hlt _).mono ?_
  rintro e w1 ⟨rfl, rfl⟩
  go_wp2_with fail
  go_wp2
  go_ret
  exact ⟨rfl, rfl⟩
set_option maxHeartbeats 1000000 in
theorem calls384 (x y : Nat) {a b : Int} (h : Fl x a) (k : Fl y b) (ha : whole a) (hb : whole b) (w : World) : Calls Tryz.prog 192 #[.complex .f64 x y, .float .f64 4841369599423283200] w fun e w' => e = .returned (.bool true) ∧ w' = w := by
  go_enter Tryz.func192, Tryz.ntmps192
  go_wp2_with fail
  refine (calls385 x h ha _).mono ?_
  rintro e w1 ⟨rfl, rfl⟩
  go_wp2_with fail
  refine (calls385 y k hb _).mono ?_
  rintro e w1 ⟨rfl, rfl⟩
  go_wp2
  go_ret
  exact ⟨rfl, rfl⟩
set_option maxHeartbeats 1000000 in
theorem calls381 (x y : Nat) {a b : Int} (h : Fl x a) (k : Fl y b) (ha : whole a) (hb : whole b) (w : World) : Calls Tryz.prog 183 #[.complex .f64 x y] w fun e w' => e = .returned (.bool true) ∧ w' = w := by
  go_enter Tryz.func183, Tryz.ntmps183
  go_wp2_with fail
  refine (calls384 x y h k ha hb _).mono ?_
  rintro e w1 ⟨rfl, rfl⟩
  go_wp2
  go_ret
  exact ⟨rfl, rfl⟩
theorem to_int {x : Nat} {a : Int} (h : Fl x a) (ha : whole a) : floatToIntVal .f64 x .i64 = some a := by
  have e : (FloatKind.f64.decode x).toInt .zero = some a := h.toInt .zero
  unfold floatToIntVal
  rw [e]
  unfold whole at ha
  have h1 : IntKind.i64.min ≤ a ∧ a ≤ IntKind.i64.max := ⟨show (-9223372036854775808 : Int) ≤ a by omega, show a ≤ (9223372036854775807 : Int) by omega⟩
  simp only
  rw [if_pos h1]
theorem run_to_int {x : Nat} {a : Int} (h : Fl x a) (ha : whole a) (w : World) : (convert 166 2 (.float .f64 x)).run Tryz.prog w = .ok (.int .i64 a) w :=
  run_convert_float_int w 166 2 .f64 .i64 x a (by rw [Tryz.underlying166]; rfl) Tryz.underlying2 (to_int h ha)
set_option maxHeartbeats 1000000 in
theorem calls365 (x y : Nat) {a b : Int} (h : Fl x a) (k : Fl y b) (ha : whole a) (hb : whole b) (w : World) : Calls Tryz.prog 155 #[.complex .f64 x y] w fun e w' => e = .returned (.tuple #[.int .i64 a, .int .i64 b, .int .i64 0]) ∧ w' = w := by
  go_enter Tryz.func155, Tryz.ntmps155
  go_wp2_with fail
  refine (calls381 x y h k ha hb _).mono ?_
  rintro e w1 ⟨rfl, rfl⟩
  go_wp2_with fail
  rw [run_to_int h ha]
  simp only [Result.andThen]
  rw [Oper.upon_value]
  go_wp2_with fail
  rw [run_to_int k hb]
  simp only [Result.andThen]
  rw [Oper.upon_value]
  go_wp2
  go_ret3
  exact ⟨rfl, rfl⟩
/-- The product's real part. -/
theorem mul_real {x y : Nat} {n f : Int} (h : Fl x 0) (k : Fl y n) (hf : whole f) (hn : whole n) (hnf : whole (n * f)) :
    ∃ re im, cMulBits x y 4607182418800017408 (Op.negFloat .f64 (FloatKind.f64.nearest f)) = some (re, im) ∧ Fl re (n * f) := by
  have one : Fl 4607182418800017408 1 := ⟨false, 1, by decide, by decide +kernel, by decide⟩
  have hfl : Fl (Op.negFloat .f64 (FloatKind.f64.nearest f)) (-f) := (Fl.ofInt (n := f) (by unfold whole at hf; omega)).neg
  unfold whole at hf hn hnf
  obtain ⟨ac, e1, k1⟩ := h.mul one (by decide)
  obtain ⟨bd, e2, k2⟩ := k.mul hfl (by rw [Int.mul_neg, Int.natAbs_neg]; omega)
  obtain ⟨re, e3, k3⟩ := k1.sub k2 (by rw [Int.mul_neg, Int.zero_mul]; omega)
  obtain ⟨ad, e4, k4⟩ := h.mul hfl (by rw [Int.zero_mul]; decide)
  obtain ⟨bc, e5, k5⟩ := k.mul one (by rw [Int.mul_one]; omega)
  obtain ⟨im, e6, k6⟩ := k4.add k5 (by rw [Int.zero_mul, Int.mul_one]; omega)
  refine ⟨re, im, ?_, ?_⟩
  · unfold cMulBits floatBits
    simp only [show FloatKind.f64.format = Ieee.double from rfl, e1, e2, e3, e4, e5, e6, Option.bind_some]
  · have : 0 * 1 - n * -f = n * f := by rw [Int.mul_neg]; omega
    rw [← this]; exact k3
end Go.Proofs.YtalpbdabeffnlaaGreat

/- Packs: what so many come to, by complex numbers. -/
set_option linter.unusedVariables false
set_option linter.unusedSimpArgs false
namespace Go.Proofs.YtalpbdabeffnlaaGreat
open Go Go.Av Go.Fl
set_option maxRecDepth 100000

set_option maxHeartbeats 1000000 in
theorem calls366 (n : Int) (h1 : ¬ n > 4503599627370496) (h2 : ¬ n < -4503599627370496) (w : World) : Calls Tryz.prog 156 #[.int .i64 n] w fun e w' => e = .returned (.bool false) ∧ w' = w := by
  go_enter Tryz.func156, Tryz.ntmps156
  go_wp2
  go_ret
  simp [h1, h2]
set_option maxHeartbeats 1000000 in
theorem calls74 (n : Int) (h1 : 2 ≤ n) (h2 : n ≤ 1000) (w : World) : Calls Tryz.prog 103 #[.int .i64 n] w fun e w' => e = .returned (.bool true) ∧ w' = w := by
  go_enter Tryz.func103, Tryz.ntmps103
  go_wp2
  go_ret
  simp [h1, h2]
theorem run_pick0 (a b : Value) (w : World) : (Instr.index 165 (.agg #[a, b]) (.int .i64 0)).run Tryz.prog w = .ok a w := by
  simp [Instr.index, asIntOf, run_underlying Tryz.underlying165, go_sem]
theorem run_pick1 (a b : Value) (w : World) : (Instr.index 165 (.agg #[a, b]) (.int .i64 1)).run Tryz.prog w = .ok b w := by
  simp [Instr.index, asIntOf, run_underlying Tryz.underlying165, go_sem]
set_option maxHeartbeats 2000000 in
theorem calls349 (n : Int) (h1 : ¬ n > 4503599627370496) (h2 : ¬ n < -4503599627370496) (w : World) : Calls Tryz.prog 121 #[.int .i64 0, .int .i64 n] w fun e w' => e = .returned (.tuple #[.complex .f64 (FloatKind.f64.nearest 0) (FloatKind.f64.nearest n), .int .i64 0]) ∧ w' = w := by
  go_enter Tryz.func121, Tryz.ntmps121
  go_wp2
  go_loop [11] (fun i => ∃ k : Nat, k ≤ 2 ∧ i = .int .i64 k) (fun i => match i with | .int _ n => 2 - n.toNat | _ => 0)
  case atStart => exact ⟨0, Nat.zero_le _, rfl⟩
  case round =>
    obtain ⟨k, hk, rfl⟩ := hrel
    have hk : k = 0 ∨ k = 1 ∨ k = 2 := by omega
    rcases hk with rfl | rfl | rfl
    · go_wp2
      rw [run_pick0]
      simp only [Result.andThen]
      rw [Oper.upon_value]
      go_wp2
      go_round
      case rel => exact ⟨1, by omega, rfl⟩
      case measure => simp
    · go_wp2
      rw [run_pick1]
      simp only [Result.andThen]
      rw [Oper.upon_value]
      go_wp2
      go_round
      case rel => exact ⟨2, by omega, rfl⟩
      case measure => simp
    · go_wp2
      go_ret2
      exact ⟨rfl, rfl⟩

theorem wrap_id {n : Int} (h1 : -9223372036854775808 ≤ n) (h2 : n ≤ 9223372036854775807) : IntKind.i64.wrap n = n := by
  unfold IntKind.wrap
  simp [IntKind.bits, IntKind.signed]
  omega
theorem run_negf {P : Program} (b : Nat) (w : World) : (Op.unary .neg (.float .f64 b)).run P w = .ok (.float .f64 (Op.negFloat .f64 b)) w := rfl
set_option maxHeartbeats 2000000 in
theorem calls350 (x y : Nat) {n f : Int} (hx : Fl x 0) (hy : Fl y n) (hn : whole n) (f1 : 2 ≤ f) (f2 : f ≤ 1000) (hp : whole (n * f)) (w : World) :
    Calls Tryz.prog 122 #[.complex .f64 x y, .int .i64 f] w fun e w' => e = .returned (.tuple #[.int .i64 (n * f), .int .i64 0]) ∧ w' = w := by
  have hw : IntKind.i64.wrap (n * f) = n * f := wrap_id (by unfold whole at hp; omega) (by unfold whole at hp; omega)
  have k1 : ¬ n * f > 4503599627370496 := by unfold whole at hp; omega
  have k2 : ¬ n * f < -4503599627370496 := by unfold whole at hp; omega
  obtain ⟨re, im, m1, m2⟩ := mul_real hx hy (f := f) (by unfold whole; omega) hn hp
  have m1 : cMulBits x y 4607182418800017408 (Op.negFloat .f64 (floatOfInt .f64 f)) = some (re, im) := m1
  go_enter Tryz.func122, Tryz.ntmps122
  go_wp2_with fail
  refine (calls365 x y hx hy (show whole 0 from (by unfold whole; decide)) hn _).mono ?_
  rintro e w1 ⟨rfl, rfl⟩
  go_wp2_with fail
  refine (calls74 f f1 f2 _).mono ?_
  rintro e w1 ⟨rfl, rfl⟩
  go_wp2_with fail
  refine (calls366 (n * f) (by omega) (by omega) _).mono ?_
  rintro e w1 ⟨rfl, rfl⟩
  go_wp2_with fail
  rw [run_negf]
  simp only [Result.andThen]
  rw [Oper.upon_value]
  go_wp2_with fail
  rw [run_complex_mul _ _ _ _ _ _ _ _ m1]
  simp only [Result.andThen]
  rw [Oper.upon_value]
  go_wp2_with fail
  rw [run_to_int m2 hp]
  simp only [Result.andThen]
  rw [Oper.upon_value]
  go_wp2_with fail
  refine (calls366 (n * f) (by omega) (by omega) _).mono ?_
  rintro e w1 ⟨rfl, rfl⟩
  go_wp2
  go_ret2
  exact ⟨rfl, rfl⟩
set_option maxHeartbeats 2000000 in
theorem calls332 {n f : Int} (hn : whole n) (f1 : 2 ≤ f) (f2 : f ≤ 1000) (hp : whole (n * f)) (w : World) :
    Calls Tryz.prog 62 #[.int .i64 n, .int .i64 f] w fun e w' => e = .returned (.tuple #[.int .i64 (n * f), .bool true]) ∧ w' = w := by
  have hx : Fl (FloatKind.f64.nearest 0) 0 := Fl.ofInt (by decide)
  have hy : Fl (FloatKind.f64.nearest n) n := Fl.ofInt (by unfold whole at hn; omega)
  have h1 : ¬ n > 4503599627370496 := by unfold whole at hn; omega
  have h2 : ¬ n < -4503599627370496 := by unfold whole at hn; omega
  go_enter Tryz.func62, Tryz.ntmps62
  go_wp2_with fail
  refine (calls349 n (by omega) (by omega) _).mono ?_
  rintro e w1 ⟨rfl, rfl⟩
  go_wp2_with fail
  refine (calls350 _ _ hx hy hn f1 f2 hp _).mono ?_
  rintro e w1 ⟨rfl, rfl⟩
  go_wp2
  go_ret2
  exact ⟨rfl, rfl⟩
theorem GCall.resLe {P : Program} {g : FuncId} {ys : List AV} {bs : List (Option Blk)} {res res' : AV} {obs : List (Option Blk)} (h : GCall P g ys bs res obs) (hle : RepLe res res') : GCall P g ys bs res' obs := by
  refine ⟨h.1, fun w F ν vals h1 h2 h3 h4 => (h.2 w F ν vals h1 h2 h3 h4).mono fun e w' ⟨v, F', ν', a1, a2, a3⟩ => ⟨v, F', ν', a1, hle _ _ _ _ a2, a3⟩⟩
theorem tup_val2 (a b : Value) : RepLe (.p (.val (.tuple #[a, b]))) (.tup 2 (at_ (.p .any) [.p (.val a), .p (.val b)])) := by
  rintro w F ν v rfl
  refine ⟨_, rfl, rfl, fun j hj => ?_⟩
  have : j = 0 ∨ j = 1 := by omega
  rcases this with rfl | rfl
  · exact ⟨a, rfl, rfl⟩
  · exact ⟨b, rfl, rfl⟩
/-- So many packs. -/
theorem f332 {n f : Int} (hn : whole n) (f1 : 2 ≤ f) (f2 : f ≤ 1000) (hp : whole (n * f)) : PCall Tryz.prog 62 [.val (.int .i64 n), .val (.int .i64 f)] (.tup 2 (at_ (.p .any) [.p (.val (.int .i64 (n * f))), .p (.val (.bool true))])) [] :=
  GCall.resLe (PCall.vals (us := [.int .i64 n, .int .i64 f]) (Ent.of Tryz.func62 rfl (by kernel_rfl)) (calls332 hn f1 f2 hp)) (tup_val2 _ _)
end Go.Proofs.YtalpbdabeffnlaaGreat

/- Lists of fields: sameness, places, what is heavy. -/
set_option linter.unusedVariables false
set_option linter.unusedSimpArgs false
namespace Go.Proofs.YtalpbdabeffnlaaGreat
open Go Go.Av
set_option maxRecDepth 100000

theorem cmp_lt : ∀ (l m : List UInt8), (Lib.compareBytes l m < 0 ↔ Op.bytesLess l m = true) ∧ (Lib.compareBytes l m = 0 ↔ l = m)
  | [], [] => by simp [Lib.compareBytes, Op.bytesLess]
  | [], _ :: _ => by simp [Lib.compareBytes, Op.bytesLess]
  | _ :: _, [] => by simp [Lib.compareBytes, Op.bytesLess]
  | a :: l, b :: m => by
    obtain ⟨h1, h2⟩ := cmp_lt l m
    unfold Lib.compareBytes Op.bytesLess
    by_cases hab : a < b
    · have : a ≠ b := fun e => by subst e; exact absurd hab (UInt8.lt_irrefl a)
      simp [hab, this]
    · by_cases hba : b < a
      · have : a ≠ b := fun e => by subst e; exact absurd hba (UInt8.lt_irrefl a)
        simp [hab, hba, this]
      · have : a = b := UInt8.le_antisymm (UInt8.not_lt.1 hba) (UInt8.not_lt.1 hab)
        subst this
        simp [hab, h1, h2]
theorem cmpS_lt (a b : ByteArray) : cmpS a b < 0 ↔ sLt a b = true := by
  unfold sLt cmpS
  rw [Lib.toList_data, Lib.toList_data]; exact (cmp_lt _ _).1
theorem cmpS_eq (a b : ByteArray) : cmpS a b = 0 ↔ a = b := by
  unfold cmpS
  rw [(cmp_lt _ _).2]
  constructor
  · intro h; cases a with | mk a => cases b with | mk b => exact congrArg ByteArray.mk (Array.toList_inj.1 h)
  · rintro rfl; rfl
theorem cmpI_lt (a b : Int) : cmpI a b < 0 ↔ a < b := by
  unfold cmpI
  cases h : iLt a b
  · rw [iLt_f] at h
    cases h2 : iLt b a <;> simp <;> omega
  · rw [iLt_t] at h; simp [h]
theorem cmpI_eq (a b : Int) : cmpI a b = 0 ↔ a = b := by
  unfold cmpI
  cases h : iLt a b
  · rw [iLt_f] at h
    cases h2 : iLt b a
    · rw [iLt_f] at h2; simp; omega
    · rw [iLt_t] at h2; simp; omega
  · rw [iLt_t] at h; simp; omega
theorem less_ref (a b : SRef) : lessRef a b = if iEq a.scope b.scope then (if sEq a.group b.group then sLt a.name b.name else sLt a.group b.group) else iLt a.scope b.scope := by
  unfold lessRef
  rw [Bool.eq_iff_iff, iLt_t]
  by_cases h1 : a.scope = b.scope
  · have e1 : cmpI a.scope b.scope = 0 := (cmpI_eq _ _).2 h1
    by_cases h2 : a.group = b.group
    · have e2 : cmpS a.group b.group = 0 := (cmpS_eq _ _).2 h2
      have h3 := cmpS_lt a.name b.name
      by_cases h4 : cmpS a.name b.name = 0
      · have h5 : ¬ sLt a.name b.name = true := fun e => by have := h3.2 e; omega
        have h5 : sLt a.name b.name = false := by simpa using h5
        simp [orI, e1, e2, h4, iEq_t.2 h1, sEq_t.2 h2, iEq_t.2 (rfl : (0 : Int) = 0), h5]
      · simp [orI, e1, e2, iEq_f.2 h4, iEq_t.2 h1, sEq_t.2 h2, iEq_t.2 (rfl : (0 : Int) = 0), h3]
    · have e2 : cmpS a.group b.group ≠ 0 := fun e => h2 ((cmpS_eq _ _).1 e)
      simp [orI, e1, iEq_f.2 e2, iEq_t.2 h1, sEq_f.2 h2, iEq_t.2 (rfl : (0 : Int) = 0), cmpS_lt]
  · have e1 : cmpI a.scope b.scope ≠ 0 := fun e => h1 ((cmpI_eq _ _).1 e)
    simp [orI, iEq_f.2 e1, iEq_f.2 h1, cmpI_lt, iLt_t]

theorem f86 (a b : SRef) : PCall Tryz.prog 83 [encRef a, encRef b] (.p (.val (.bool (lessRef a b)))) [] := by
  rw [less_ref]
  refine gcode hT hM Tryz.func83 rfl rfl (rv := [(4, none)]) rfl rfl rfl fun G hG => ?_
  conv => whnf
  refine ⟨fun h1 => ?_, fun h1 => ?_⟩
  · conv => whnf
    exact ⟨[], _, _, _, rfl, rfl, rfl, RepLe.bl (by simp_all), trivial⟩
  conv => whnf
  refine ⟨fun h2 => ?_, fun h2 => ?_⟩
  · conv => whnf
    exact ⟨[], _, _, _, rfl, rfl, rfl, RepLe.bl (by simp_all), trivial⟩
  conv => whnf
  exact ⟨[], _, _, _, rfl, rfl, rfl, RepLe.bl (by simp_all), trivial⟩

def encFields (l : List SField) : PV := .rs 7 l.length fun i => at_ .any (fieldCells (l.getD i noField))
def okFields (l : List SField) : Prop := l.length ≤ maxLen ∧ ∀ x ∈ l, okField x
theorem okFields.at {l : List SField} (h : okFields l) (i : Nat) : okField (l.getD i noField) := by
  rw [List.getD_eq_getElem?_getD]
  rcases Nat.lt_or_ge i l.length with hi | hi
  · rw [List.getElem?_eq_getElem hi]; exact h.2 _ (List.getElem_mem hi)
  · rw [List.getElem?_eq_none hi]; exact Nat.zero_le _
def sameFields (l m : List SField) : Bool := decide (l.length = m.length) && allUpto (fun i => sameField (l.getD i noField) (m.getD i noField)) l.length 0

theorem f18 (l m : List SField) (hl : okFields l) : PCall Tryz.prog 15 [encFields l, encFields m] (.p (.val (.bool (sameFields l m)))) [] := by
  have hlen : l.length ≤ 9223372036854775807 := hl.1
  refine gcode hT hM Tryz.func15 rfl rfl (rv := [(4, none)]) rfl rfl rfl fun G hG => ?_
  conv => whnf
  refine ⟨fun h => ?_, fun h => ?_⟩
  · conv => whnf
    exact ⟨[], _, _, _, rfl, rfl, rfl, RepLe.bl (by simp [iEq_f] at h; simp [sameFields]; omega), trivial⟩
  conv => whnf
  have heq : l.length = m.length := by simp [iEq_t] at h; omega
  refine AW.loop (X := Nat) (fun i => told 27 [(0, .p (encFields l)), (1, .p (encFields m)), (5, vI .i64 (i : Int))] [] []) (fun i => i ≤ l.length ∧ sameFields l m = allUpto (fun i => sameField (l.getD i noField) (m.getD i noField)) (l.length - i) i) (fun i => l.length - i) (used0 hG _) 0 ⟨by omega, by simp [sameFields, heq]⟩ (stle ⟨RepLe.refl _, RepLe.refl _, RepLe.refl _, trivial⟩ trivial rfl) ?_
  rintro i ⟨hi, hr⟩
  refine codeK_aw hT hM _ _ _ ?_
  conv => whnf
  refine ⟨fun h4 => ?_, fun h4 => ?_⟩
  · have hlt : i < l.length := by rw [iLt_t] at h4; omega
    rw [allUpto_step _ hlt] at hr
    conv => whnf
    refine ⟨by omega, ?_⟩
    conv => whnf
    refine ⟨by omega, ?_⟩
    conv => whnf
    refine CallK.lent (f32 (l.getD i noField) (m.getD i noField) (hl.at i)) rfl ?_
    conv => whnf
    refine ⟨rfl, ?_⟩
    conv => whnf
    refine ⟨fun h5 => ?_, fun h5 => ?_⟩
    · have h5 : sameField (l.getD i noField) (m.getD i noField) = false := by simpa using h5
      conv => whnf
      exact ⟨[], _, _, _, rfl, rfl, rfl, RepLe.bl (by rw [hr, h5]; simp), trivial⟩
    have h5 : sameField (l.getD i noField) (m.getD i noField) = true := by simpa using h5
    conv => whnf
    intro z hz
    have hy := wrap64_eq hz (by omega) (by omega)
    clear hz
    subst hy
    conv => whnf
    exact ⟨i + 1, ⟨by omega, by rw [hr, h5]; simp⟩, by omega, stle ⟨RepLe.refl _, RepLe.refl _, RepLe.of rfl, trivial⟩ trivial rfl⟩
  · have hge : i = l.length := by rw [iLt_f] at h4; omega
    subst hge
    conv => whnf
    exact ⟨[], _, _, _, rfl, rfl, rfl, RepLe.bl (by rw [hr, allUpto_end]), trivial⟩

def heavyFields (l : List SField) : Bool := iLt 40 l.length || !allUpto (fun i => !heavyField (l.getD i noField)) l.length 0
theorem f26 (l : List SField) (hl : okFields l) : PCall Tryz.prog 9 [encFields l] (.p (.val (.bool (heavyFields l)))) [] := by
  have hlen : l.length ≤ 9223372036854775807 := hl.1
  refine gcode hT hM Tryz.func9 rfl rfl (rv := [(2, none)]) rfl rfl rfl fun G hG => ?_
  conv => whnf
  refine ⟨fun h => ?_, fun h => ?_⟩
  · conv => whnf
    exact ⟨[], _, _, _, rfl, rfl, rfl, RepLe.bl (by simp_all [heavyFields]), trivial⟩
  conv => whnf
  refine AW.loop (X := Nat) (fun i => told 18 [(0, .p (encFields l)), (3, vI .i64 (i : Int))] [] []) (fun i => i ≤ l.length ∧ heavyFields l = !allUpto (fun i => !heavyField (l.getD i noField)) (l.length - i) i) (fun i => l.length - i) (used0 hG _) 0 ⟨by omega, by simp_all [heavyFields]⟩ (stle ⟨RepLe.refl _, RepLe.refl _, trivial⟩ trivial rfl) ?_
  rintro i ⟨hi, hr⟩
  refine codeK_aw hT hM _ _ _ ?_
  conv => whnf
  refine ⟨fun h4 => ?_, fun h4 => ?_⟩
  · have hlt : i < l.length := by rw [iLt_t] at h4; omega
    rw [allUpto_step _ hlt] at hr
    conv => whnf
    refine ⟨by omega, ?_⟩
    conv => whnf
    refine CallK.lent (f44 (l.getD i noField) (hl.at i)) rfl ?_
    conv => whnf
    refine ⟨fun h5 => ?_, fun h5 => ?_⟩
    · have h5 : heavyField (l.getD i noField) = true := h5
      conv => whnf
      exact ⟨[], _, _, _, rfl, rfl, rfl, RepLe.bl (by rw [hr, h5]; simp), trivial⟩
    have h5 : heavyField (l.getD i noField) = false := h5
    conv => whnf
    intro z hz
    have hy := wrap64_eq hz (by omega) (by omega)
    clear hz
    subst hy
    conv => whnf
    exact ⟨i + 1, ⟨by omega, by rw [hr, h5]; simp⟩, by omega, stle ⟨RepLe.refl _, RepLe.of rfl, trivial⟩ trivial rfl⟩
  · have hge : i = l.length := by rw [iLt_f] at h4; omega
    subst hge
    conv => whnf
    exact ⟨[], _, _, _, rfl, rfl, rfl, RepLe.bl (by rw [hr, allUpto_end]; rfl), trivial⟩
end Go.Proofs.YtalpbdabeffnlaaGreat
