/- The walks of run.Meet at two runs that are apart, of slices.ContainsFunc over runs that are apart from one, and of node.Extents and extent.Sound at sound extents. -/
import Derived.Test.YtbelfapnjjeclaaSame
namespace Go.Proofs.Ytbelfapnjjeclaa
open Go.RowKit Go.Maps

set_option maxHeartbeats 400000 in
theorem make1_none (a b : Int) (k0 : b ≤ 0) (w : World) :
    Calls Try.prog 33 #[.int .i64 a, .int .i64 b] w fun e w' => e = .returned (.complex .f64 0 0) ∧ w = w' := by
  go_enter Try.func33, Try.ntmps33
  go_wp2
  go_ret
  exact ⟨rfl, rfl⟩

set_option maxHeartbeats 800000 in
theorem Meet_apart (x n y m : Nat) (h1 : 1 ≤ n) (h2 : x + n ≤ 480) (h3 : 1 ≤ m) (h4 : y + m ≤ 480) (h : x + n ≤ y ∨ y + m ≤ x) (w : World) :
    Calls Try.prog 32 #[.complex .f64 (F (x : Int)) (F (n : Int)), .complex .f64 (F (y : Int)) (F (m : Int))] w fun e w' => e = .returned (.complex .f64 0 0) ∧ w = w' := by
  rcases h with h | h
  all_goals
    go_enter Try.func32, Try.ntmps32
    go_wp2_with fail
    refine (Sound_yes (x : Int) (n : Int) (by omega) (by omega) (by omega) _).mono ?_
    rintro e w1 ⟨rfl, rfl⟩
    go_wp2_with fail
    refine (Sound_yes (y : Int) (m : Int) (by omega) (by omega) (by omega) _).mono ?_
    rintro e w1 ⟨rfl, rfl⟩
    go_wp2_with fail
    refine (parts_any (x : Int) (n : Int) (by omega) (by omega) _).mono ?_
    rintro e w1 ⟨rfl, rfl⟩
    go_wp2_with fail
    refine (parts_any (y : Int) (m : Int) (by omega) (by omega) _).mono ?_
    rintro e w1 ⟨rfl, rfl⟩
    go_wp2_with fail
    refine (make1_none _ _ (by omega) _).mono ?_
    rintro e w1 ⟨rfl, rfl⟩
    go_wp2
    go_ret
    exact ⟨rfl, rfl⟩

/-- A run as a Go value. -/
def runV (r : Nat × Nat) : Value := .complex .f64 (F (r.1 : Int)) (F (r.2 : Int))
def runsV (l : List (Nat × Nat)) : List Value := l.map runV

theorem runsV_snoc (l : List (Nat × Nat)) (f n : Nat) : runsV l ++ [Value.complex .f64 (F (f : Int)) (F (n : Int))] = runsV (l ++ [(f, n)]) := by
  rw [runsV, runsV, List.map_append]; rfl

theorem Try.info40 : (Try.prog.info? 40).map (fun i => (i.zero, i.size, i.bytes)) = some (some (.complex .f64 0 0), 1, 16) := by kernel_rfl

/-- Runs lie in a slice of the call's own. -/
def RunsIn (w : World) (a : Option Addr) (l : List (Nat × Nat)) : Prop := ∀ i, (hi : i < l.length) → ∃ g, a = some ⟨g, 0, none⟩ ∧ g < w.heap.size ∧ w.cell? ⟨g, i, none⟩ = some (runV l[i])

theorem runs_in {w : World} {B : Nat} {v : Value} {l : List (Nat × Nat)} (h : w.ownsRow B 40 1 v l.length (runsV l)) : ∃ a cap, v = .slice a l.length cap ∧ RunsIn w a l := by
  by_cases hl : l.length = 0
  · rcases h.2 with ⟨h1, h2⟩ | ⟨g, cap, cur, h1, _⟩
    · exact ⟨none, 0, by rw [h1, hl], fun i hi => by omega⟩
    · exact ⟨_, _, h1, fun i hi => by omega⟩
  · obtain ⟨g, cap, rfl, _, hlt⟩ := h.form (by omega)
    refine ⟨_, _, rfl, fun i hi => ⟨g, rfl, hlt, ?_⟩⟩
    rw [h.cellAt i (by omega), runsV, List.getElem?_map, List.getElem?_eq_getElem hi]
    rfl

/-- A run may lie on a disk. -/
def OnDisk (r : Nat × Nat) : Prop := 1 ≤ r.2 ∧ r.1 + r.2 ≤ 480

theorem order_0 : FloatKind.f64.format.order 0 0 = some .eq := by decide +kernel

set_option maxHeartbeats 800000 in
theorem lit_apart (x n y m bx : Nat) (h1 : 1 ≤ n) (h2 : x + n ≤ 480) (h3 : 1 ≤ m) (h4 : y + m ≤ 480) (h : x + n ≤ y ∨ y + m ≤ x) (w : World) (hc : w.cell? ⟨bx, 1, none⟩ = some (.complex .f64 (F (y : Int)) (F (m : Int)))) :
    Calls Try.prog 31 #[.complex .f64 (F (x : Int)) (F (n : Int)), .pointer (some ⟨bx, 0, none⟩)] w fun e w' => e = .returned (.bool false) ∧ w = w' := by
  have h0 := order_0
  go_enter Try.func31, Try.ntmps31
  go_wp2_with (go_at_call 32; refine (Meet_apart x n y m h1 h2 h3 h4 h _).mono ?_; rintro e w' ⟨rfl, rfl⟩)
  go_ret
  exact ⟨rfl, rfl⟩

set_option maxHeartbeats 1600000 in
set_option maxRecDepth 100000 in
theorem Index_apart (l : List (Nat × Nat)) (a : Option Addr) (cap y m bx : Nat) (w : World) (hin : RunsIn w a l) (hlen : l.length ≤ 1000) (hl : ∀ r ∈ l, OnDisk r ∧ (r.1 + r.2 ≤ y ∨ y + m ≤ r.1)) (h3 : 1 ≤ m) (h4 : y + m ≤ 480)
    (hc : w.cell? ⟨bx, 1, none⟩ = some (.complex .f64 (F (y : Int)) (F (m : Int)))) :
    Calls Try.prog 36 #[.slice a l.length cap, .func (.func 31) #[] #[.pointer (some ⟨bx, 0, none⟩)]] w fun e w' => e = .returned (.int .i64 (-1)) ∧ w = w' := by
  by_cases h0 : l.length = 0
  · rw [h0]
    clear hin hl hc
    go_enter Try.func36, Try.ntmps36
    go_wp2
    refine wp_loop_rounds 1 ?_
    rw [rounds_succ]
    go_wp2
    go_ret
    exact ⟨rfl, rfl⟩
  · obtain ⟨g, rfl, _⟩ := hin 0 (by omega)
    have HL : Hid (∀ k, (hk : k < l.length) → w.cell? ⟨g, k, none⟩ = some (runV l[k]) ∧ OnDisk l[k] ∧ (l[k].1 + l[k].2 ≤ y ∨ y + m ≤ l[k].1)) := by
      intro k hk
      obtain ⟨g', hg', _, hk2⟩ := hin k hk
      injection hg' with hg'; injection hg' with hg' _ _
      subst hg'
      exact ⟨hk2, hl _ (List.getElem_mem hk)⟩
    obtain ⟨N, hN⟩ : ∃ N, N = l.length := ⟨_, rfl⟩
    have HN : Hid (N = l.length) := hN
    rw [← hN] at hlen ⊢
    clear hN hin hl
    go_enter Try.func36, Try.ntmps36
    go_wp2
    go_loop [8] (fun i => ∃ k : Nat, k ≤ N ∧ i = .int .i64 k) (fun i => N - (intOf i).toNat)
    case atStart => exact ⟨0, Nat.zero_le _, rfl⟩
    case round =>
      obtain ⟨k, hk, rfl⟩ := hrel
      by_cases hlt : k < N
      · obtain ⟨hk1, ⟨hk2, hk3⟩, hk4⟩ := HL.out k (by have := HN.out; omega)
        generalize l[k]'(by have := HN.out; omega) = r at hk1 hk2 hk3 hk4
        obtain ⟨x, n⟩ := r
        have hk5 : w.cell? ⟨g, k, none⟩ = some (.complex .f64 (F (x : Int)) (F (n : Int))) := hk1
        simp only at hk2 hk3 hk4
        clear hk1
        go_wp2_with (go_at_call 31; refine (lit_apart x n y m bx hk2 hk3 h3 h4 hk4 _ hc).mono ?_; rintro e w' ⟨rfl, rfl⟩)
        go_round
        case rel => exact ⟨k + 1, by omega, by go_num⟩
        case measure => simp [intOf]; omega
      · obtain rfl : k = N := by omega
        go_wp2
        go_ret
        exact ⟨rfl, rfl⟩

set_option maxHeartbeats 800000 in
theorem Contains_apart (l : List (Nat × Nat)) (a : Option Addr) (cap y m bx : Nat) (w : World) (hin : RunsIn w a l) (hlen : l.length ≤ 1000) (hl : ∀ r ∈ l, OnDisk r ∧ (r.1 + r.2 ≤ y ∨ y + m ≤ r.1)) (h3 : 1 ≤ m) (h4 : y + m ≤ 480)
    (hc : w.cell? ⟨bx, 1, none⟩ = some (.complex .f64 (F (y : Int)) (F (m : Int)))) :
    Calls Try.prog 30 #[.slice a l.length cap, .func (.func 31) #[] #[.pointer (some ⟨bx, 0, none⟩)]] w fun e w' => e = .returned (.bool false) ∧ w = w' := by
  have hi := Index_apart l a cap y m bx w hin hlen hl h3 h4 hc
  clear hin hl hc
  go_enter Try.func30, Try.ntmps30
  go_wp2_with fail
  refine hi.mono ?_
  clear hi
  rintro e w1 ⟨rfl, rfl⟩
  go_wp2
  go_ret
  exact ⟨rfl, rfl⟩
end Go.Proofs.Ytbelfapnjjeclaa
