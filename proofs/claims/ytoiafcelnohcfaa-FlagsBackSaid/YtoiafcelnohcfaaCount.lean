/- The walk of flags.Count: at a slice that has not 60 bytes, at a bound out of range, and at 60 bytes that lie in memory: how many flags are up. No other condition. -/
import Derived.Test.YtoiafcelnohcfaaRead
namespace Go.Proofs.Ytoiafcelnohcfaa
open Go.RowKit

set_option maxHeartbeats 400000 in
theorem Count_form (a : Option Addr) (len cap : Nat) (to : Int) (hl2 : ((len : Int) != 60) = true) (w : World) :
    Calls Try.prog 7 #[.slice a len cap, .int .i64 to] w fun e w' => e = .returned (.tuple #[.int .i64 0, .int .i64 2]) ∧ w = w' := by
  go_enter Try.func7, Try.ntmps7
  go_wp2
  go_ret2
  exact ⟨rfl, rfl⟩

set_option maxHeartbeats 400000 in
theorem Count_arg (a : Option Addr) (cap : Nat) (to : Int) (ht : to < 0 ∨ 480 < to) (w : World) :
    Calls Try.prog 7 #[.slice a 60 cap, .int .i64 to] w fun e w' => e = .returned (.tuple #[.int .i64 0, .int .i64 1]) ∧ w = w' := by
  rcases ht with h | h
  · go_enter Try.func7, Try.ntmps7
    go_wp2
    go_ret2
    exact ⟨rfl, rfl⟩
  · have h0 : ¬ to < 0 := by omega
    go_enter Try.func7, Try.ntmps7
    go_wp2
    go_ret2
    exact ⟨rfl, rfl⟩

theorem flip {f : FuncId} {args : Array Value} {w : World} {v : Value} (h : Calls Try.prog f args w fun e w' => e = .returned v ∧ w = w') : Calls Try.prog f args w fun e w' => e = .returned v ∧ w' = w :=
  h.mono fun _ _ ⟨a, b⟩ => ⟨a, b.symm⟩

theorem ret_pair {k j : IntKind} {a b c : Int} (h : a = b) : Ending.returned (.tuple #[.int k a, .int j c]) = .returned (.tuple #[.int k b, .int j c]) := by rw [h]

theorem mask_u8 (b k : Nat) (hb : b < 256) (hk : k < 8) : bits .and .u8 (b : Int) ((2 ^ k - 1) % 256) = ((b &&& (2 ^ k - 1) : Nat) : Int) := by
  have hp := pow_lt k hk
  have e : ((2 : Int) ^ k - 1) % 256 = ((2 ^ k - 1 : Nat) : Int) := by
    have e1 : ((2 : Int) ^ k) = ((2 ^ k : Nat) : Int) := by simp
    rw [e1]; omega
  rw [e, u8_and_nat _ _ hb (by omega)]

theorem pow_int (k : Nat) : ((2 : Int) ^ k) = ((2 ^ k : Nat) : Int) := by simp
theorem wrap_pow (k : Nat) (hk : k < 8) : IntKind.u8.wrap (2 ^ k) = 2 ^ k := by
  have hp := pow_lt k hk
  rw [IntKind.wrap_u8', pow_int]; omega
theorem wrap_pow1 (k : Nat) (hk : k < 8) : IntKind.u8.wrap (2 ^ k - 1) = 2 ^ k - 1 := by
  have hp := pow_lt k hk
  rw [IntKind.wrap_u8', pow_int]; omega

set_option maxHeartbeats 800000 in
theorem Count_ok (zs : List Int) (hf : Fits zs) (b off cap to : Nat) (hcap : 60 ≤ cap) (ht : to ≤ 480) (w : World) (hc : Lies w b off zs) :
    Calls Try.prog 7 #[.slice (some ⟨b, off, none⟩) 60 cap, .int .i64 to] w fun e w' => e = .returned (.tuple #[.int .i64 (cnt (bit zs) 0 to), .int .i64 0]) ∧ Below w.heap.size w w' := by
  have ht2 : (to : Int) / 8 ≤ 60 := by omega
  go_enter Try.func7, Try.ntmps7
  go_wp2
  go_loop [6, 25] (fun n i => ∃ k : Nat, k ≤ to / 8 ∧ i = .int .i64 k ∧ n = .int .i64 (cnt (bit zs) 0 (8 * k))) (fun _ i => to / 8 - (intOf i).toNat)
  case atStart => exact ⟨0, Nat.zero_le _, rfl, rfl⟩
  case round =>
    obtain ⟨k, hk, rfl, rfl⟩ := hrel
    by_cases hlt : k < to / 8
    · have h1 := hc.at k (by omega)
      have h2 := hf k
      have hb := byte_lt hf k
      have hle := cnt_le (bit zs) 0 (8 * k)
      have hp := pop_le (byteAt zs k)
      have HB : Hid (zs[k]?.getD 0 = ((byteAt zs k : Nat) : Int)) := byte_cast hf k
      have HC : Hid (cnt (bit zs) 0 (8 * (k + 1)) = cnt (bit zs) 0 (8 * k) + pop (byteAt zs k)) := cnt_byte zs k
      rw [HB.out] at h1
      clear h2
      go_wp2_with (go_at_call 16; refine (ones_any _ hb _).mono ?_; rintro e w' ⟨rfl, rfl⟩)
      go_round
      case rel => exact ⟨k + 1, by omega, by go_num, by rw [HC.out]; go_num⟩
      case measure => simp [intOf]; omega
    · obtain rfl : k = to / 8 := by omega
      have HR : Hid (cnt (bit zs) 0 to = cnt (bit zs) 0 (8 * (to / 8)) + pop (byteAt zs (to / 8) &&& (2 ^ (to % 8) - 1))) := cnt_rest hf to
      by_cases hz : to % 8 = 0
      · have hz2 : ¬ (0 : Int) < (to : Int) % 8 := by omega
        have HZ : Hid (to % 8 = 0) := hz
        clear hz
        go_wp2
        go_ret2
        exact ⟨by rw [HR.out, HZ.out]; simp [pop, cnt], Below.refl _ _⟩
      · have hz2 : (0 : Int) < (to : Int) % 8 := by omega
        have h1 := hc.at (to / 8) (by omega)
        have hb := byte_lt hf (to / 8)
        have HB : Hid (zs[to / 8]?.getD 0 = ((byteAt zs (to / 8) : Nat) : Int)) := byte_cast hf (to / 8)
        rw [HB.out] at h1
        have hle := cnt_le (bit zs) 0 (8 * (to / 8))
        have h3 : (to : Int) / 8 < 60 := by omega
        have hpow := pow_lt (to % 8) (by omega)
        have q1 : IntKind.i64.wrap ((to : Int) / 8) = (to : Int) / 8 := IntWalk.i64_in _ (by omega)
        have q2 : ((to : Int) / 8).toNat = to / 8 := by omega
        have q3 : ((to : Int) % 8).toNat = to % 8 := by omega
        have q4 : 0 ≤ (to : Int) / 8 := by omega
        have q5 : 0 ≤ (to : Int) % 8 := by omega
        have q6 : (to : Int).tmod 8 = (to : Int) % 8 := Int.tmod_eq_emod_of_nonneg (by omega)
        have q9 : IntKind.u8.wrap (2 ^ (to % 8)) = 2 ^ (to % 8) := wrap_pow _ (by omega)
        have q10 : IntKind.u8.wrap (2 ^ (to % 8) - 1) = 2 ^ (to % 8) - 1 := wrap_pow1 _ (by omega)
        obtain ⟨M, hM⟩ : ∃ M, M = byteAt zs (to / 8) &&& (2 ^ (to % 8) - 1) := ⟨_, rfl⟩
        rw [← hM] at HR
        have q7 : bits .and .u8 ((byteAt zs (to / 8) : Nat) : Int) ((2 ^ (to % 8) - 1) % 256) = (M : Int) := by rw [hM]; exact mask_u8 _ _ hb (by omega)
        have q11 : bits .and .u8 ((byteAt zs (to / 8) : Nat) : Int) (2 ^ (to % 8) - 1) = (M : Int) := by rw [← wrap_pow1 _ (show to % 8 < 8 by omega), IntKind.wrap_u8']; exact q7
        have hand := Nat.and_le_left (n := byteAt zs (to / 8)) (m := 2 ^ (to % 8) - 1)
        have hb2 : M < 256 := by omega
        have hp := pop_le M
        have q8 : IntKind.i64.wrap (((cnt (bit zs) 0 (8 * (to / 8)) : Nat) : Int) + ((pop M : Nat) : Int)) = ((cnt (bit zs) 0 (8 * (to / 8)) : Nat) : Int) + ((pop M : Nat) : Int) := IntWalk.i64_in _ (by omega)
        clear hand hM q7
        go_wp2_with fail
        go_quiet ((go_at_call 16; exact Calls.quiet_of_same (flip (ones_any _ hb2 _))))
        go_wp2
        go_ret2
        exact ⟨ret_pair (by rw [HR.out]; simp), below_drewN (Below.refl _ _) _⟩
end Go.Proofs.Ytoiafcelnohcfaa
