/- The walks of drydocklaw05.awake (true, whatever the world) and of the reference's Same at two slices that hold the same runs. No other condition. -/
import Derived.Test.YtoiafcelnohcfaaMark
import Derived.Test.YtoiafcelnohcfaaDown
namespace Go.Proofs.Ytoiafcelnohcfaa
open Go.RowKit

theorem F_3 : F 3 = 4613937818241073152 := by decide +kernel
theorem F_4 : F 4 = 4616189618054758400 := by decide +kernel
theorem F_7 : F 7 = 4619567317775286272 := by decide +kernel

theorem fits_none : Fits none60 := by
  intro i
  unfold none60
  rw [List.getElem?_replicate]
  by_cases h : i < 60 <;> simp [h]

theorem cnt_awake : cnt (bit (puts true none60 3 4)) 0 5 = 2 := by decide +kernel
theorem gaps_awake : gaps (fun n => !bit (puts true none60 3 4) n) 0 10 = [(0, 3), (7, 3)] := by decide +kernel

theorem below_lies {w w' : World} {b off : Nat} {zs : List Int} (h : Lies w b off zs) (hbel : Below w.heap.size w w') (hb : b < w.heap.size) : Lies w' b off zs := fun i hi => by
  rw [hbel.cell (by exact hb)]; exact h i hi

theorem owns_at {w : World} {B : Nat} {v : Value} {l : List (Nat × Nat)} (h : w.ownsRow B 32 1 v l.length (runsV l)) :
    ∃ a cap, v = .slice a l.length cap ∧ ∀ i, (hi : i < l.length) → ∃ g, a = some ⟨g, 0, none⟩ ∧ w.cell? ⟨g, i, none⟩ = some (runV l[i]) := by
  by_cases hl : l.length = 0
  · rcases h.2 with ⟨h1, h2⟩ | ⟨g, cap, cur, h1, _⟩
    · exact ⟨none, 0, by rw [h1, hl], fun i hi => by omega⟩
    · exact ⟨_, _, h1, fun i hi => by omega⟩
  · obtain ⟨g, cap, rfl, _, _⟩ := h.form (by omega)
    refine ⟨_, _, rfl, fun i hi => ⟨g, rfl, ?_⟩⟩
    rw [h.cellAt i (by omega), runsV, List.getElem?_map, List.getElem?_eq_getElem hi]
    rfl

set_option maxRecDepth 100000 in
set_option maxHeartbeats 1600000 in
theorem awake_any (w : World) : Calls Try.prog 11 #[] w fun e w' => e = .returned (.bool true) ∧ Below w.heap.size w w' := by
  go_enter Try.func11, Try.ntmps11
  go_wp2_with fail
  refine (New_any _).mono ?_
  rintro e w1 ⟨g, cp, rfl, hcp, hlies, hfr, hg1, hg2, hbel⟩
  go_wp2_with fail
  have hm := Mark_one true none60 fits_none rfl g 0 cp w1.heap.size 1 3 4 (by omega) (by omega) (w1.alloc (.cells #[.complex .f64 4613937818241073152 4616189618054758400] 32)) (by simp; omega)
    (below_lies hlies ((Below.refl _ _).alloc (Nat.le_refl _) _) hg2) (by simp) (by rw [← F_3, ← F_4]; exact World.cell?_alloc_at _ _ _ 0 rfl)
  refine hm.mono ?_
  clear hm hlies hfr
  rintro e w2 ⟨g2, cp2, rfl, hcp2, hlies2, hg3, hg4, hbel2⟩
  have hbel3 : Below w.heap.size w w2 := (hbel.alloc hbel.size _).trans (hbel2.mono (by simp; have := hbel.size; omega))
  have hfits := puts_fits true fits_none 3 4
  clear hbel hbel2 hg1 hg2 hcp
  go_wp2_with fail
  refine (Count_ok (puts true none60 3 4) hfits g2 0 cp2 5 hcp2 (by omega) _ hlies2).mono ?_
  rw [cnt_awake]
  rintro e w3 ⟨rfl, hbel4⟩
  go_wp2_with fail
  have hlies3 := below_lies hlies2 hbel4 hg4
  have hs := hbel4.size
  refine (Down_ok (puts true none60 3 4) hfits g2 0 cp2 0 10 (by omega) (by omega) _ (by omega) hlies3).mono ?_
  rw [gaps_awake]
  rintro e w4 ⟨v, rfl, hown, hbel5⟩
  obtain ⟨a, cap, rfl, hcells⟩ := owns_at hown
  obtain ⟨g5, rfl, hc1⟩ := hcells 1 (by simp)
  have hc2 : w4.cell? ⟨g5, 1, none⟩ = some (.complex .f64 4619567317775286272 4613937818241073152) := by rw [← F_7, ← F_3]; exact hc1
  have hb : Below w.heap.size w w4 := hbel3.trans ((hbel4.trans (hbel5.mono hs)).mono hbel3.size)
  have o1 : FloatKind.f64.format.order 4619567317775286272 4619567317775286272 = some .eq := by decide +kernel
  have o2 : FloatKind.f64.format.order 4613937818241073152 4613937818241073152 = some .eq := by decide +kernel
  clear hcells hc1 hown hlies2 hlies3 hfits hbel3 hbel4 hbel5
  go_wp2
  go_ret
  exact ⟨rfl, hb⟩

theorem ne_F (r : Nat × Nat) (h1 : r.1 ≤ 480) (h2 : r.2 ≤ 480) : ((FloatKind.f64.format.order (F (r.1 : Int)) (F (r.1 : Int)) == some .eq) && (FloatKind.f64.format.order (F (r.2 : Int)) (F (r.2 : Int)) == some .eq)) = true := by
  rw [eql_F _ _ (by omega) (by omega), eql_F _ _ (by omega) (by omega)]; simp

set_option maxRecDepth 100000 in
set_option maxHeartbeats 1600000 in
theorem Same_yes (l : List (Nat × Nat)) (hl : ∀ r ∈ l, r.1 ≤ 480 ∧ r.2 ≤ 480) (hlen : l.length ≤ 1000) (B1 B2 : Nat) (v1 v2 : Value) (w : World) (h1 : w.ownsRow B1 32 1 v1 l.length (runsV l)) (h2 : w.ownsRow B2 32 1 v2 l.length (runsV l)) :
    Calls Try.prog 12 #[v1, v2] w fun e w' => e = .returned (.bool true) ∧ Below w.heap.size w w' := by
  obtain ⟨a1, c1, rfl, hc1⟩ := owns_at h1
  obtain ⟨a2, c2, rfl, hc2⟩ := owns_at h2
  clear h1 h2
  by_cases h0 : l.length = 0
  · rw [h0]
    clear hc1 hc2 h0
    go_enter Try.func12, Try.ntmps12
    go_wp2
    go_loop [5] (fun i => i = .int .i64 0) (fun _ => 0)
    case atStart => rfl
    case round =>
      subst hrel
      go_wp2
      go_ret
      exact ⟨rfl, Below.refl _ _⟩
  · obtain ⟨g1, rfl, j1⟩ := hc1 0 (by omega)
    obtain ⟨g2, rfl, j2⟩ := hc2 0 (by omega)
    clear j1 j2
    have HL : Hid (∀ k, (hk : k < l.length) → (w.cell? ⟨g1, k, none⟩ = some (runV l[k]) ∧ w.cell? ⟨g2, k, none⟩ = some (runV l[k])) ∧ l[k].1 ≤ 480 ∧ l[k].2 ≤ 480) := by
      intro k hk
      obtain ⟨g, hg, h3⟩ := hc1 k hk
      obtain ⟨g', hg', h4⟩ := hc2 k hk
      injection hg with hg; injection hg with hg _ _
      injection hg' with hg'; injection hg' with hg' _ _
      subst hg hg'
      exact ⟨⟨h3, h4⟩, hl _ (List.getElem_mem hk)⟩
    have hpos : 0 < l.length := by omega
    obtain ⟨N, hN⟩ : ∃ N, N = l.length := ⟨_, rfl⟩
    have HN : Hid (N = l.length) := hN
    rw [← hN] at hlen hpos ⊢
    clear hN hc1 hc2 hl
    go_enter Try.func12, Try.ntmps12
    go_wp2
    go_loopw [5] (fun i wr => ∃ k n : Nat, k ≤ N ∧ i = .int .i64 k ∧ wr = w.drewN n) (fun i _ => N - (intOf i).toNat)
    case atStart => exact ⟨0, 0, Nat.zero_le _, rfl, rfl⟩
    case round =>
      obtain ⟨k, n, hk, rfl, rfl⟩ := hrel
      by_cases hlt : k < N
      · obtain ⟨⟨h3, h4⟩, h5, h6⟩ := HL.out k (by have := HN.out; omega)
        have hne := ne_F _ h5 h6
        unfold runV at h3 h4
        obtain ⟨x, hx⟩ : ∃ x, x = F ((l[k]'(by have := HN.out; omega)).1 : Int) := ⟨_, rfl⟩
        obtain ⟨y, hy⟩ : ∃ y, y = F ((l[k]'(by have := HN.out; omega)).2 : Int) := ⟨_, rfl⟩
        rw [← hx, ← hy] at h3 h4 hne
        clear hx hy h5 h6
        go_wp2
        go_quiet (fail)
        go_wp2
        go_roundw
        case rel => exact ⟨k + 1, _, by omega, by go_num, rfl⟩
        case measure => simp [intOf]; omega
      · obtain rfl : k = N := by omega
        go_wp2
        go_ret
        exact ⟨rfl, below_drewN (Below.refl _ _) _⟩
end Go.Proofs.Ytoiafcelnohcfaa
