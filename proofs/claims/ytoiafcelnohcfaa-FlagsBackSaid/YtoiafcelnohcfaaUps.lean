/- The walk of the reference's Up: of 60 bytes that lie in memory, the 480 flags, in a slice of the call's own. No other condition. -/
import Derived.Test.YtoiafcelnohcfaaCount
import Derived.Deep.RegionHeld3
import Derived.Deep.AppendLies
namespace Go.Proofs.Ytoiafcelnohcfaa
open Go.RowKit

/-- The first k flags. -/
def flagsUpto (zs : List Int) (k : Nat) : List Value := (List.range k).map fun n => Value.bool (bit zs n)

theorem Try.info4 : (Try.prog.info? 4).map (fun i => (i.zero, i.size, i.bytes)) = some (some (.bool false), 1, 1) := by kernel_rfl

theorem flags_snoc {zs : List Int} {k B P : Nat} (h : bit zs k = (B / P % 2 == 1)) : flagsUpto zs k ++ [Value.bool ((B : Int) / (P : Int) % 2 == 1)] = flagsUpto zs (k + 1) := by
  have e : ((B : Int) / (P : Int) % 2 == 1) = (B / P % 2 == 1) := by
    have e1 : (B : Int) / (P : Int) % 2 = ((B / P % 2 : Nat) : Int) := by simp
    rw [e1]
    have : B / P % 2 = 0 ∨ B / P % 2 = 1 := by omega
    rcases this with h | h <;> rw [h] <;> rfl
  rw [e, ← h, flagsUpto, flagsUpto, List.range_succ, List.map_append]
  rfl

theorem power_int (x : Int) (P : Nat) (h0 : 0 ≤ x) (h : x < 8) (hP : P = 2 ^ x.toNat) (w : World) :
    Calls Try.prog 23 #[.int .i64 x] w fun e w' => e = .returned (.int .u8 (P : Int)) ∧ w = w' := by
  obtain ⟨n, rfl⟩ := Int.eq_ofNat_of_zero_le h0
  subst hP
  exact power_any n (by omega) w

set_option maxRecDepth 100000 in
set_option maxHeartbeats 800000 in
theorem Up_ref (zs : List Int) (hf : Fits zs) (b off cap : Nat) (w : World) (hb : b < w.heap.size) (hc : Lies w b off zs) :
    Calls Try.prog 15 #[.slice (some ⟨b, off, none⟩) 60 cap] w fun e w' => ∃ v, e = .returned v ∧ w'.ownsRow w.heap.size 4 1 v 480 (flagsUpto zs 480) ∧ Below w.heap.size w w' := by
  obtain ⟨i0, hi, hz0, hz1, hz2⟩ := info_parts Try.info4
  go_enter Try.func15, Try.ntmps15
  go_wp2
  go_loopw [3, 4] (fun v i wr => ∃ k : Nat, k ≤ 480 ∧ i = .int .i64 k ∧ wr.ownsRow w.heap.size 4 1 v k (flagsUpto zs k) ∧ Below w.heap.size w wr) (fun _ i _ => 480 - (intOf i).toNat)
  case atStart => exact ⟨0, Nat.zero_le _, rfl, World.ownsRow_made w #[] 0 (Nat.le_refl _) (by unfold maxLen; omega) rfl, (Below.refl _ _).alloc (Nat.le_refl _) _⟩
  case round =>
    obtain ⟨k, hk, rfl, hown, hbel⟩ := hrel
    by_cases hlt : k < 480
    · have h1 : wr.cell? ⟨b, off + k / 8, none⟩ = some (.int .u8 ((byteAt zs (k / 8) : Nat) : Int)) := by
        rw [hbel.cell (by exact hb), hc.at (k / 8) (by omega), byte_cast hf]
      have hB := byte_lt hf (k / 8)
      have hP := pow_lt (k % 8) (by omega)
      have HX : Hid (bit zs k = (byteAt zs (k / 8) / 2 ^ (k % 8) % 2 == 1)) := (shr_bit_nat _ hB (k % 8) (by omega)).symm
      obtain ⟨B, HB⟩ : ∃ B, B = byteAt zs (k / 8) := ⟨_, rfl⟩
      obtain ⟨P, HP⟩ : ∃ P, P = 2 ^ (k % 8) := ⟨_, rfl⟩
      rw [← HB, ← HP] at HX
      rw [← HB] at h1 hB
      rw [← HP] at hP
      have HPx : Hid (P = 2 ^ ((k : Int) % 8).toNat) := by show P = _; rw [HP]; congr 1
      clear HB HP hc
      have q1 : IntKind.i64.wrap ((k : Int) / 8) = (k : Int) / 8 := IntWalk.i64_in _ (by omega)
      have q2 : ((k : Int) / 8).toNat = k / 8 := by omega
      have q6 : (k : Int).tmod 8 = (k : Int) % 8 := Int.tmod_eq_emod_of_nonneg (by omega)
      have q4 : 0 ≤ (k : Int) / 8 := by omega
      have q5 : (k : Int) / 8 < 60 := by omega
      have r0 : ¬ P = 0 := by omega
      have r1 : ((P : Int) == 0) = false := by simp; omega
      have r2 : (0 : Int) ≤ (B : Int) / (P : Int) := Int.ediv_nonneg (by omega) (by omega)
      have r3 : (B : Int) / (P : Int) < 256 := by have := Int.ediv_le_self (P : Int) (show (0 : Int) ≤ B by omega); omega
      have r4 : (B : Int).tdiv (P : Int) = (B : Int) / (P : Int) := Int.tdiv_eq_ediv_of_nonneg (by omega)
      have r5 : IntKind.u8.wrap ((B : Int) / (P : Int)) = (B : Int) / (P : Int) := by rw [IntKind.wrap_u8']; omega
      have r6 : ((B : Int) / (P : Int)).tmod 2 = (B : Int) / (P : Int) % 2 := Int.tmod_eq_emod_of_nonneg r2
      have hsz := hbel.size
      have hne : u3.ownBlock ≠ some b := fun h => by have := (hown.lt b h).1; omega
      have hlb : b < wr.heap.size := by omega
      go_wp2_with fail
      go_region_held3 (fun w' => w'.cell? ⟨b, off + k / 8, none⟩ = some (.int .u8 (B : Int)))
        (first
          | go_keep
          | (rw [hgrow.cell_far _ (by simp; omega) (Ne.symm hne)]; assumption))
        (first
          | (go_at_call 23; go_must (refine (power_int ((k : Int) % 8) P (by omega) (by omega) HPx.out _).mono ?_); rintro e w' ⟨rfl, rfl⟩)
          | (refine step_append_lies _ (by rfl) _ _ _ (by rfl) w.heap.size 4 i0 _ 1 1 Try.underlying39 hi hz0 hz1 hz2 rfl (by omega) u3 k (flagsUpto zs k) (by rfl) ((hown.alloc _).drew) ⟨wr.heap.size, 0, none⟩ 1 1 [.bool ((B : Int) / (P : Int) % 2 == 1)] (by rfl) (by rfl) (World.news_of_block (cs := #[.bool ((B : Int) / (P : Int) % 2 == 1)]) (t := 4) (fr := (0, 0)) (heap_alloc_new wr _)) (by simp [Value.oneCell']) (by omega) (by unfold maxLen; omega) (by omega) (by simp; omega) (wr.heap.size + 1) (by simp) ?_; intro gg cp w1 hown1 hgrow hat hlt1))
      rw [flags_snoc HX.out] at hown1
      have hb1 := ((hbel.alloc (by omega) _).drew).grown hgrow (by simp; omega) (fun k hk => (hown.lt k hk).1)
      clear hgrow hown hbel
      go_wp2
      go_roundw
      case rel => exact ⟨k + 1, by omega, by go_num, hown1, hb1⟩
      case measure => simp [intOf]; omega
    · obtain rfl : k = 480 := by omega
      go_wp2
      go_ret
      exact ⟨_, rfl, hown, hbel⟩

/-- The 480 flags lie in a slice. -/
def Flags480 (w : World) (g : Nat) (p : Nat → Bool) : Prop := ∀ n, n < 480 → w.cell? ⟨g, n, none⟩ = some (.bool (p n))

theorem Up_lies (zs : List Int) (hf : Fits zs) (b off cap : Nat) (w : World) (hb : b < w.heap.size) (hc : Lies w b off zs) :
    Calls Try.prog 15 #[.slice (some ⟨b, off, none⟩) 60 cap] w fun e w' => ∃ g cp, e = .returned (.slice (some ⟨g, 0, none⟩) 480 cp) ∧ Flags480 w' g (bit zs) ∧ (∀ n, w'.frozen? ⟨g, n, none⟩ = false) ∧ w.heap.size ≤ g ∧ g < w'.heap.size ∧ Below w.heap.size w w' := by
  refine (Up_ref zs hf b off cap w hb hc).mono ?_
  rintro e w' ⟨v, rfl, hown, hbel⟩
  obtain ⟨g, cp, rfl, _, _⟩ := hown.form (by omega)
  have hl := hown.lt g rfl
  refine ⟨g, cp, rfl, fun n hn => ?_, fun n => hown.frozenAt n, hl.1, hl.2, hbel⟩
  rw [hown.cellAt n (by omega)]
  simp [flagsUpto, hn]
end Go.Proofs.Ytoiafcelnohcfaa
