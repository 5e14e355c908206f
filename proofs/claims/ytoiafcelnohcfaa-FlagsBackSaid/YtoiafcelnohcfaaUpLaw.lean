/- The walk of the law FlagsUp: whatever slice of bytes and whatever number, it returns true and writes nothing that was there. No condition. -/
import Derived.Test.YtoiafcelnohcfaaAwake
namespace Go.Proofs.Ytoiafcelnohcfaa
open Go.RowKit

/-- A slice of bytes that came in: it is nil; or it leads to a row of 'cap' cells, the numbers 'zs'. -/
def CameIn (w : World) (a : Option Addr) (len cap : Nat) (zs : List Int) : Prop :=
  (a = none ∧ len = 0 ∧ cap = 0 ∧ zs = []) ∨
  ∃ x, a = some x ∧ len ≤ cap ∧ cap ≤ maxLen ∧ zs.length = cap ∧ (∀ i, i < zs.length → w.cell? (x.add i) = some (.int .u8 (zs.getD i 0))) ∧ ∀ n ∈ zs, (Lit.int .u8 n).wf = true

theorem came_60 {w : World} {a : Option Addr} {cap : Nat} {zs : List Int} (h : CameIn w a 60 cap zs) :
    ∃ (b off : Nat) (ys : List Int), a = some ⟨b, off, none⟩ ∧ 60 ≤ cap ∧ b < w.heap.size ∧ ys.length = 60 ∧ Fits ys ∧ Lies w b off ys := by
  rcases h with ⟨_, h0, _⟩ | ⟨x, rfl, hlc, hcm, hz, hcell, hwz⟩
  · omega
  · obtain ⟨b, off, spot⟩ := x
    have hc := hcell 0 (by omega)
    have hspot : spot = none := by simpa [Addr.add] using World.cell?_spot hc
    subst hspot
    refine ⟨b, off, zs.take 60, rfl, hlc, World.block_lt_of_cell? w _ hc, by simp; omega, fits_of_wf (fun n hn => hwz n (List.mem_of_mem_take hn)), fun i hi => ?_⟩
    have h1 := hcell i (by omega)
    rw [add_plain] at h1
    rw [h1, List.getElem?_take, if_pos hi]
    rfl

theorem form_ne {len : Nat} (h : len ≠ 60) : ((len : Int) != 60) = true := by simp; omega

set_option maxRecDepth 100000 in
set_option maxHeartbeats 800000 in
theorem FlagsUp_walk (a : Option Addr) (len cap : Nat) (zs : List Int) (n : Int) (w : World) (h : CameIn w a len cap zs) :
    Calls Try.prog 6 #[.slice a len cap, .int .i64 n] w fun e w' => e = .returned (.bool true) ∧ Below w.heap.size w w' := by
  by_cases hl : len = 60
  · subst hl
    obtain ⟨b, off, ys, rfl, hcap, hb, hl, hf, hc⟩ := came_60 h
    clear h
    by_cases hn : n < 0 ∨ 480 ≤ n
    · have hd : (decide (n < 0) || decide (480 ≤ n)) = true := by simp; omega
      rcases hn with hn | hn
      all_goals
        go_enter Try.func6, Try.ntmps6
        go_wp2_with fail
        refine (Up_arg _ cap n (by omega) _).mono ?_
        rintro e w1 ⟨rfl, rfl⟩
        go_wp2_with fail
        refine (awake_any _).mono ?_
        rintro e w2 ⟨rfl, hb2⟩
        go_wp2
        go_ret
        exact ⟨rfl, hb2⟩
    · obtain ⟨k, rfl⟩ := Int.eq_ofNat_of_zero_le (show 0 ≤ n by omega)
      have hk : k < 480 := by omega
      clear hn
      go_enter Try.func6, Try.ntmps6
      go_wp2_with fail
      refine (Up_ok ys hf b off cap k hk _ hc).mono ?_
      rintro e w1 ⟨rfl, rfl⟩
      go_wp2_with fail
      refine (awake_any _).mono ?_
      rintro e w2 ⟨rfl, hb2⟩
      have hs := hb2.size
      go_wp2_with fail
      refine (Up_lies ys hf b off cap _ (by omega) (below_lies hc hb2 hb)).mono ?_
      rintro e w3 ⟨g, cp, rfl, hfl, _, _, _, hb3⟩
      have h1 := hfl k hk
      have hbel := hb2.trans (hb3.mono hs)
      clear hfl hb2 hb3 hc hf
      go_wp2
      go_ret
      exact ⟨rfl, hbel⟩
  · have h2 := form_ne hl
    clear h hl
    go_enter Try.func6, Try.ntmps6
    go_wp2_with fail
    refine (Up_form _ len cap n h2 _).mono ?_
    rintro e w1 ⟨rfl, rfl⟩
    go_wp2_with fail
    refine (awake_any _).mono ?_
    rintro e w2 ⟨rfl, hb2⟩
    go_wp2
    go_ret
    exact ⟨rfl, hb2⟩
end Go.Proofs.Ytoiafcelnohcfaa
