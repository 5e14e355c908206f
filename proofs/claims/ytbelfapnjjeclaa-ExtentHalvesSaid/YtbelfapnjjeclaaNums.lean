/- The walks of the small functions on runs of blocks: whole, Whole, Sound, parts, Parts, make1, Run, Of, at runs whose parts are whole numbers from 0 on; no other condition. -/
import Derived.Test.YtbelfapnjjeclaaRows
import Derived.Test.YtbelfapnjjeclaaFloat
import Derived.WalkKit
import Derived.WalkSpells
import Derived.WalkLawsBesides
import Derived.Laws.BitsAllLaws
namespace Go.Proofs.Ytbelfapnjjeclaa
open Go.RowKit

theorem F_0 : F 0 = 0 := by decide +kernel
theorem F_1 : F 1 = 4607182418800017408 := by decide +kernel
theorem F_480 : F 480 = 4647151865492930560 := by decide +kernel
theorem F_most : F 1048576 = 4697254411347427328 := by decide +kernel

section
variable (a b : Int) (ha : a.natAbs < 2 ^ 53) (hb : b.natAbs < 2 ^ 53)
include ha hb
theorem leq_F : (FloatKind.f64.format.order (F a) (F b) == some .lt || FloatKind.f64.format.order (F a) (F b) == some .eq) = decide (a ≤ b) := by
  rw [order_F a b ha hb]
  rcases Int.lt_trichotomy a b with h | h | h
  · rw [Int.compare_eq_lt.2 h, decide_eq_true (by omega)]; rfl
  · subst h; rw [Int.compare_eq_eq.2 rfl, decide_eq_true (by omega)]; rfl
  · rw [Int.compare_eq_gt.2 h, decide_eq_false (by omega)]; rfl
theorem geq_F : (FloatKind.f64.format.order (F a) (F b) == some .gt || FloatKind.f64.format.order (F a) (F b) == some .eq) = decide (b ≤ a) := by
  rw [order_F a b ha hb]
  rcases Int.lt_trichotomy a b with h | h | h
  · rw [Int.compare_eq_lt.2 h, decide_eq_false (by omega)]; rfl
  · subst h; rw [Int.compare_eq_eq.2 rfl, decide_eq_true (by omega)]; rfl
  · rw [Int.compare_eq_gt.2 h, decide_eq_true (by omega)]; rfl
theorem eql_F : (FloatKind.f64.format.order (F a) (F b) == some .eq) = decide (a = b) := by
  rw [order_F a b ha hb]
  rcases Int.lt_trichotomy a b with h | h | h
  · rw [Int.compare_eq_lt.2 h, decide_eq_false (by omega)]; rfl
  · subst h; rw [Int.compare_eq_eq.2 rfl, decide_eq_true rfl]; rfl
  · rw [Int.compare_eq_gt.2 h, decide_eq_false (by omega)]; rfl
end

theorem Try.call42 (x : Nat) (w : World) : (callFunc 42 #[.float .f64 x]).run Try.prog w = .ok (.value (.int .u64 x)) w :=
  run_callFunc_extern Try.func42 (by kernel_rfl) (by kernel_rfl) (by kernel_rfl) (e := Extern.MathFloatBits.float64bits) (by kernel_rfl) _ w
theorem Try.call41 (n : Int) (w : World) : (callFunc 41 #[.int .u64 n]).run Try.prog w = .ok (.value (.float .f64 n.toNat)) w :=
  run_callFunc_extern Try.func41 (by kernel_rfl) (by kernel_rfl) (by kernel_rfl) (e := Extern.MathFloatBits.float64frombits) (by kernel_rfl) _ w
theorem Try.call43 (n : Int) (h : n.natAbs < 2 ^ 53) (w : World) : (callFunc 43 #[.float .f64 (F n)]).run Try.prog w = .ok (.value (.float .f64 (F n))) w := by
  rw [run_callFunc_extern Try.func43 (by kernel_rfl) (by kernel_rfl) (by kernel_rfl) (e := Extern.MathFloor.toIntegral "math.archTrunc" .zero) (by kernel_rfl) _ w]
  obtain ⟨s, m, k, hd⟩ := decode_F n h
  have ht := trunc_F n h
  rw [hd] at ht
  have key : Extern.MathFloor.toIntegral "math.archTrunc" .zero #[.float .f64 (F n)] = pure (.float .f64 (F n)) := by
    change (match FloatKind.f64.decode (F n) with | .nan s t => _ | d => pure (Value.float .f64 (FloatKind.f64.encode (d.integral .zero)))) = _
    rw [hd]
    exact congrArg (fun x => pure (Value.float .f64 x)) ht
  rw [key]
  rfl

set_option maxHeartbeats 400000 in
theorem abs_any (a : Int) (h0 : 0 ≤ a) (h : a.natAbs < 2 ^ 53) (w : World) :
    Calls Try.prog 39 #[.float .f64 (F a)] w fun e w' => e = .returned (.float .f64 (F a)) ∧ w = w' := by
  have hl := F_nonneg_lt a h0 h
  have e : bits .andNot .u64 ((F a : Nat) : Int) 9223372036854775808 = ((F a : Nat) : Int) := by
    rw [u64_andNot _ _ (by omega) (by omega) (by omega) (by omega)]
    have e1 : (18446744073709551615 - (9223372036854775808 : Int).toNat : Nat) = 2 ^ 63 - 1 := by decide
    rw [e1, Nat.and_two_pow_sub_one_eq_mod, Int.toNat_natCast, Nat.mod_eq_of_lt hl]
  have c42 := Try.call42 (F a)
  have c41 := Try.call41 ((F a : Nat) : Int)
  go_enter Try.func39, Try.ntmps39
  go_wp2
  go_ret
  exact ⟨rfl, rfl⟩

set_option maxHeartbeats 400000 in
theorem trunc_any (a : Int) (h : a.natAbs < 2 ^ 53) (w : World) :
    Calls Try.prog 40 #[.float .f64 (F a)] w fun e w' => e = .returned (.float .f64 (F a)) ∧ w = w' := by
  have c43 := Try.call43 a h
  go_enter Try.func40, Try.ntmps40
  go_wp2
  go_ret
  exact ⟨rfl, rfl⟩

set_option maxHeartbeats 400000 in
theorem whole_any (a : Int) (h0 : 0 ≤ a) (h1 : a ≤ 1048576) (w : World) :
    Calls Try.prog 38 #[.float .f64 (F a)] w fun e w' => e = .returned (.bool true) ∧ w = w' := by
  have hb : a.natAbs < 2 ^ 53 := by omega
  have g1 : (FloatKind.f64.format.order (F a) 4697254411347427328 == some .lt || FloatKind.f64.format.order (F a) 4697254411347427328 == some .eq) = true := by
    rw [← F_most, leq_F a 1048576 hb (by decide), decide_eq_true h1]
  have g2 : (FloatKind.f64.format.order (F a) (F a) == some .eq) = true := by
    rw [eql_F a a hb hb, decide_eq_true rfl]
  go_enter Try.func38, Try.ntmps38
  go_wp2_with (first | (go_at_call 39; refine (abs_any a h0 hb _).mono ?_; rintro e w' ⟨rfl, rfl⟩) | (go_at_call 40; refine (trunc_any a hb _).mono ?_; rintro e w' ⟨rfl, rfl⟩))
  go_ret
  exact ⟨rfl, rfl⟩

set_option maxHeartbeats 400000 in
theorem Whole_any (a b : Int) (h0 : 0 ≤ a) (h1 : a ≤ 1048576) (k0 : 0 ≤ b) (k1 : b ≤ 1048576) (w : World) :
    Calls Try.prog 37 #[.complex .f64 (F a) (F b)] w fun e w' => e = .returned (.bool true) ∧ w = w' := by
  go_enter Try.func37, Try.ntmps37
  go_wp2_with (first | (go_at_call 38; refine (whole_any _ (by assumption) (by assumption) _).mono ?_; rintro e w' ⟨rfl, rfl⟩))
  go_ret
  exact ⟨rfl, rfl⟩

set_option maxHeartbeats 400000 in
/-- A sound run. -/
theorem Sound_yes (a b : Int) (h0 : 0 ≤ a) (k0 : 1 ≤ b) (k1 : a + b ≤ 480) (w : World) :
    Calls Try.prog 34 #[.complex .f64 (F a) (F b)] w fun e w' => e = .returned (.bool true) ∧ w = w' := by
  have g1 : (FloatKind.f64.format.order (F a) 0 == some .gt || FloatKind.f64.format.order (F a) 0 == some .eq) = true := by
    rw [← F_0, geq_F a 0 (by omega) (by decide), decide_eq_true h0]
  have g2 : (FloatKind.f64.format.order (F b) 4607182418800017408 == some .gt || FloatKind.f64.format.order (F b) 4607182418800017408 == some .eq) = true := by
    rw [← F_1, geq_F b 1 (by omega) (by decide), decide_eq_true k0]
  have g3 : (FloatKind.f64.format.order (F (a + b)) 4647151865492930560 == some .lt || FloatKind.f64.format.order (F (a + b)) 4647151865492930560 == some .eq) = true := by
    rw [← F_480, leq_F (a + b) 480 (by omega) (by decide), decide_eq_true k1]
  have hop := fun t w => run_float_arith (P := Try.prog) w .add t .f64 _ _ _ (add_F a b (by omega) (by omega) (by omega))
  go_enter Try.func34, Try.ntmps34
  go_wp2_with (first | (go_at_call 37; refine (Whole_any a b (by omega) (by omega) (by omega) (by omega) _).mono ?_; rintro e w' ⟨rfl, rfl⟩))
  go_ret
  exact ⟨rfl, rfl⟩

set_option maxHeartbeats 400000 in
theorem parts_any (a b : Int) (h0 : a.natAbs < 2 ^ 53) (k0 : b.natAbs < 2 ^ 53) (w : World) :
    Calls Try.prog 35 #[.complex .f64 (F a) (F b)] w fun e w' => e = .returned (.tuple #[.int .i64 a, .int .i64 b]) ∧ w = w' := by
  have c1 : ∀ w, (convert 39 3 (.float .f64 (F a))).run Try.prog w = .ok (.int .i64 a) w := fun w => run_convert_float_int w 39 3 .f64 .i64 _ a (by rw [Try.underlying39]; rfl) Try.underlying3 (toInt_F a h0)
  have c2 : ∀ w, (convert 39 3 (.float .f64 (F b))).run Try.prog w = .ok (.int .i64 b) w := fun w => run_convert_float_int w 39 3 .f64 .i64 _ b (by rw [Try.underlying39]; rfl) Try.underlying3 (toInt_F b k0)
  go_enter Try.func35, Try.ntmps35
  go_wp2_with (simp only [c1, c2])
  go_ret2
  exact ⟨rfl, rfl⟩

set_option maxHeartbeats 400000 in
/-- 'run.Parts' of a sound run. -/
theorem Parts_yes (a b : Int) (h0 : 0 ≤ a) (k0 : 1 ≤ b) (k1 : a + b ≤ 480) (w : World) :
    Calls Try.prog 28 #[.complex .f64 (F a) (F b)] w fun e w' => e = .returned (.tuple #[.int .i64 a, .int .i64 b, .int .i64 0]) ∧ w = w' := by
  go_enter Try.func28, Try.ntmps28
  go_wp2_with (first | (go_at_call 34; refine (Sound_yes a b h0 k0 k1 _).mono ?_; rintro e w' ⟨rfl, rfl⟩) | (go_at_call 35; refine (parts_any a b (by omega) (by omega) _).mono ?_; rintro e w' ⟨rfl, rfl⟩))
  go_ret3
  exact ⟨rfl, rfl⟩

set_option maxHeartbeats 400000 in
theorem make1_any (a b : Int) (k0 : 1 ≤ b) (w : World) :
    Calls Try.prog 33 #[.int .i64 a, .int .i64 b] w fun e w' => e = .returned (.complex .f64 (F a) (F b)) ∧ w = w' := by
  go_enter Try.func33, Try.ntmps33
  go_wp2
  go_ret
  exact ⟨rfl, rfl⟩

set_option maxHeartbeats 400000 in
theorem Run_any (a b : Int) (k0 : 1 ≤ b) (w : World) :
    Calls Try.prog 20 #[.int .i64 a, .int .i64 b] w fun e w' => e = .returned (.complex .f64 (F a) (F b)) ∧ w = w' := by
  go_enter Try.func20, Try.ntmps20
  go_wp2
  go_ret
  exact ⟨rfl, rfl⟩

end Go.Proofs.Ytbelfapnjjeclaa
