/- The walks of the functions that only read a map: up, power, OnesCount8, Count, at a map of 60 bytes that lie in memory; no other condition. -/
import Derived.Test.YtoiafcelnohcfaaNums
import Derived.Test.YtoiafcelnohcfaaBits
import Derived.Deep.QuietTactic
import Derived.BigQuiet
import Derived.IntWalk
namespace Go.Proofs.Ytoiafcelnohcfaa
open Go.RowKit

/-- 60 bytes lie at a place. -/
def Lies (w : World) (b off : Nat) (zs : List Int) : Prop := ∀ i, i < 60 → w.cell? ⟨b, off + i, none⟩ = some (.int .u8 (zs[i]?.getD 0))

theorem Lies.at {w : World} {b off : Nat} {zs : List Int} (h : Lies w b off zs) (i : Nat) (hi : i < 60) : w.cell? ⟨b, off + i, none⟩ = some (.int .u8 (zs[i]?.getD 0)) := h i hi

theorem ret_bool {a b : Bool} (h : a = b) : Ending.returned (.bool a) = .returned (.bool b) := by rw [h]
theorem ret_int {k : IntKind} {a b : Int} (h : a = b) : Ending.returned (.int k a) = .returned (.int k b) := by rw [h]

theorem and_one (z : Int) (k : Nat) (h0 : 0 ≤ z) (h1 : z < 256) (hk : k < 8) : (bits .and .u8 (z / 2 ^ k) 1 == 1) = z.toNat.testBit k := by
  obtain ⟨b, rfl⟩ := Int.eq_ofNat_of_zero_le h0
  have e : (b : Int) / 2 ^ k = ((b / 2 ^ k : Nat) : Int) := by simp
  have hlt : b / 2 ^ k < 256 := Nat.lt_of_le_of_lt (Nat.div_le_self _ _) (by omega)
  have e2 : bits .and .u8 ((b / 2 ^ k : Nat) : Int) ((1 : Nat) : Int) = ((b / 2 ^ k &&& 1 : Nat) : Int) := u8_and_nat _ _ hlt (by omega)
  rw [e, Int.toNat_natCast, ← shr_bit_nat b (by omega) k hk]
  have e3 : bits .and .u8 ((b / 2 ^ k : Nat) : Int) 1 = ((b / 2 ^ k % 2 : Nat) : Int) := by rw [← Nat.and_one_is_mod]; exact e2
  rw [e3]
  have : b / 2 ^ k % 2 = 0 ∨ b / 2 ^ k % 2 = 1 := by omega
  rcases this with h | h <;> rw [h] <;> rfl

set_option maxHeartbeats 400000 in
theorem up_any (zs : List Int) (hf : Fits zs) (b off cap n : Nat) (hn : n < 480) (w : World) (hc : Lies w b off zs) :
    Calls Try.prog 17 #[.slice (some ⟨b, off, none⟩) 60 cap, .int .i64 n] w fun e w' => e = .returned (.bool (bit zs n)) ∧ w = w' := by
  have h1 := hc.at (n / 8) (by omega)
  have h2 := hf (n / 8)
  have h3 : (n : Int) / 8 < 60 := by omega
  have h4 := and_one (zs[n / 8]?.getD 0) (n % 8) h2.1 h2.2 (by omega)
  have H4 : Hid (bit zs n = (bits .and .u8 (zs[n / 8]?.getD 0 / 2 ^ (n % 8)) 1 == 1)) := h4.symm
  clear h4
  go_enter Try.func17, Try.ntmps17
  go_wp2
  go_ret
  exact ⟨ret_bool H4.out.symm, rfl⟩

set_option maxHeartbeats 400000 in
theorem power_any (n : Nat) (hn : n < 8) (w : World) :
    Calls Try.prog 23 #[.int .i64 n] w fun e w' => e = .returned (.int .u8 ((2 ^ n : Nat) : Int)) ∧ w = w' := by
  go_enter Try.func23, Try.ntmps23
  go_wp2
  go_loop [3, 4] (fun p i => ∃ k : Nat, k ≤ n ∧ i = .int .i64 k ∧ p = .int .u8 ((2 ^ k : Nat) : Int)) (fun _ i => n - (intOf i).toNat)
  case atStart => exact ⟨0, Nat.zero_le _, rfl, rfl⟩
  case round =>
    obtain ⟨k, hk, rfl, rfl⟩ := hrel
    by_cases hlt : k < n
    · have hp := pow_lt (k + 1) (by omega)
      have e2 : 2 ^ (k + 1) = 2 ^ k * 2 := Nat.pow_succ 2 k
      have hb : ((2 ^ k : Nat) : Int) * 2 < 256 := by omega
      have h0 : 0 ≤ ((2 ^ k : Nat) : Int) := by omega
      generalize hP : ((2 ^ k : Nat) : Int) = P at *
      have HE : Hid (((2 ^ (k + 1) : Nat) : Int) = P * 2) := by rw [e2, ← hP]; exact Int.natCast_mul _ _
      clear e2 hp hP
      go_wp2
      go_round
      case rel => exact ⟨k + 1, by omega, by go_num, by rw [HE.out]⟩
      case measure => simp [intOf]; omega
    · obtain rfl : k = n := by omega
      go_wp2
      go_ret
      exact ⟨rfl, rfl⟩

theorem pop_le (b : Nat) : pop b ≤ 8 := cnt_le _ _ _

theorem tab_at (T : ByteArray) (b : Nat) (hT : b < T.size) (H : ((List.range 256).all fun i => (T.data[i]!).toNat == pop i) = true) (hb : b < 256) : wrap64 ((T[b]'hT).toNat : Int) = (pop b : Int) := by
  have h1 := List.all_eq_true.1 H b (List.mem_range.2 hb)
  have h2 : (T.data[b]!).toNat = pop b := by simpa using h1
  have h3 : T.data[b]! = T[b]'hT := by
    have : b < T.data.size := hT
    rw [getElem!_pos T.data b this]; rfl
  rw [← h3, h2]
  have := pop_le b
  exact IntWalk.wrap64_in _ ⟨by omega, by omega⟩

set_option maxRecDepth 100000 in
set_option maxHeartbeats 400000 in
theorem ones_any (b : Nat) (hb : b < 256) (w : World) :
    Calls Try.prog 16 #[.int .u8 b] w fun e w' => e = .returned (.int .i64 (pop b)) ∧ w = w' := by
  go_enter Try.func16, Try.ntmps16
  go_wp2
  go_ret
  exact ⟨ret_int (tab_at _ b _ (by decide +kernel) hb), rfl⟩
end Go.Proofs.Ytoiafcelnohcfaa
