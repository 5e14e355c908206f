/- The walks of the reference's Count, Runs and Down: of 60 bytes that lie in memory, how many flags are up, and the runs of blocks whose flags are down, as the plain law has them. No other condition. -/
import Derived.Test.YtoiafcelnohcfaaUps
namespace Go.Proofs.Ytoiafcelnohcfaa
open Go.RowKit

set_option maxHeartbeats 400000 in
theorem CountR_form (a : Option Addr) (len cap : Nat) (to : Int) (hl2 : ((len : Int) != 60) = true) (w : World) :
    Calls Try.prog 8 #[.slice a len cap, .int .i64 to] w fun e w' => e = .returned (.tuple #[.int .i64 0, .int .i64 2]) ∧ w = w' := by
  go_enter Try.func8, Try.ntmps8
  go_wp2
  go_ret2
  exact ⟨rfl, rfl⟩

set_option maxHeartbeats 400000 in
theorem CountR_arg (a : Option Addr) (cap : Nat) (to : Int) (ht : to < 0 ∨ 480 < to) (w : World) :
    Calls Try.prog 8 #[.slice a 60 cap, .int .i64 to] w fun e w' => e = .returned (.tuple #[.int .i64 0, .int .i64 1]) ∧ w = w' := by
  rcases ht with h | h
  · go_enter Try.func8, Try.ntmps8
    go_wp2
    go_ret2
    exact ⟨rfl, rfl⟩
  · have h0 : ¬ to < 0 := by omega
    go_enter Try.func8, Try.ntmps8
    go_wp2
    go_ret2
    exact ⟨rfl, rfl⟩

theorem cnt_step (p : Nat → Bool) (k : Nat) : cnt p 0 (k + 1) = cnt p 0 k + (p k).toNat := by rw [cnt, Nat.zero_add]

set_option maxRecDepth 100000 in
set_option maxHeartbeats 800000 in
theorem CountR_ok (zs : List Int) (hf : Fits zs) (b off cap to : Nat) (ht : to ≤ 480) (w : World) (hb : b < w.heap.size) (hc : Lies w b off zs) :
    Calls Try.prog 8 #[.slice (some ⟨b, off, none⟩) 60 cap, .int .i64 to] w fun e w' => e = .returned (.tuple #[.int .i64 (cnt (bit zs) 0 to), .int .i64 0]) ∧ Below w.heap.size w w' := by
  go_enter Try.func8, Try.ntmps8
  go_wp2_with (go_at_call 15; refine (Up_lies zs hf b off cap _ hb hc).mono ?_; rintro e w1 ⟨g, cp, rfl, hfl, hfr, hg1, hg2, hbel⟩)
  go_loop [7, 8] (fun n i => ∃ k : Nat, k ≤ to ∧ i = .int .i64 k ∧ n = .int .i64 (cnt (bit zs) 0 k)) (fun _ i => to - (intOf i).toNat)
  case atStart => exact ⟨0, Nat.zero_le _, rfl, rfl⟩
  case round =>
    obtain ⟨k, hk, rfl, rfl⟩ := hrel
    by_cases hlt : k < to
    · have h1 := hfl k (by omega)
      have hle := cnt_le (bit zs) 0 k
      have HC : Hid (cnt (bit zs) 0 (k + 1) = cnt (bit zs) 0 k + (bit zs k).toNat) := cnt_step _ _
      clear hfr hfl hc
      cases hbk : bit zs k
      all_goals
        rw [hbk] at h1 HC
        clear hbk
        go_wp2
        go_round
        case rel => exact ⟨k + 1, by omega, by go_num, by rw [HC.out]; first | rfl | go_num⟩
        case measure => simp [intOf]; omega
    · obtain rfl : k = to := by omega
      go_wp2
      go_ret2
      exact ⟨rfl, hbel⟩

theorem Try.info32 : (Try.prog.info? 32).map (fun i => (i.zero, i.size, i.bytes)) = some (some (.complex .f64 0 0), 1, 16) := by kernel_rfl

/-- A run as a Go value. -/
def runV (r : Nat × Nat) : Value := .complex .f64 (F (r.1 : Int)) (F (r.2 : Int))
def runsV (l : List (Nat × Nat)) : List Value := l.map runV

theorem runsV_snoc (l : List (Nat × Nat)) {f k : Nat} (h : f ≤ k) : runsV l ++ [Value.complex .f64 (F (f : Int)) (F ((k : Int) - (f : Int)))] = runsV (l ++ [(f, k - f)]) := by
  have e : (k : Int) - (f : Int) = ((k - f : Nat) : Int) := by omega
  rw [e, runsV, runsV, List.map_append]; rfl

/-- What the loop of Runs has at its head. -/
def RunsAt (p : Nat → Bool) (fr to : Nat) (l : List (Nat × Nat)) (f k : Nat) : Prop :=
  (k ≤ to → l ++ G p to (to - k) f k = gaps p fr to) ∧ (to < k → l = gaps p fr to)

theorem RunsAt_start (p : Nat → Bool) (fr to : Nat) (h : fr ≤ to) : RunsAt p fr to [] fr fr := ⟨fun _ => rfl, fun h => by omega⟩
theorem RunsAt_has {p : Nat → Bool} {fr to : Nat} {l : List (Nat × Nat)} {f k : Nat} (h : RunsAt p fr to l f k) (hk : k < to) (hp : p k = true) : RunsAt p fr to l f (k + 1) :=
  ⟨fun _ => by rw [← G_has p to f k hk hp]; exact h.1 (by omega), fun h' => by omega⟩
theorem RunsAt_close {p : Nat → Bool} {fr to : Nat} {l : List (Nat × Nat)} {f k : Nat} (h : RunsAt p fr to l f k) (hk : k ≤ to) (hp : k < to → p k = false) (hf : f < k) : RunsAt p fr to (l ++ [(f, k - f)]) (k + 1) (k + 1) := by
  have h1 := h.1 hk
  constructor
  · intro h2
    rw [G_not p to f k (by omega) (hp (by omega)), if_pos hf] at h1
    rw [← h1, List.append_assoc]
  · intro h2
    obtain rfl : k = to := by omega
    rw [G_at_end p k f k rfl, if_pos hf] at h1
    exact h1
theorem RunsAt_skip {p : Nat → Bool} {fr to : Nat} {l : List (Nat × Nat)} {f k : Nat} (h : RunsAt p fr to l f k) (hk : k ≤ to) (hp : k < to → p k = false) (hf : ¬ f < k) : RunsAt p fr to l (k + 1) (k + 1) := by
  have h1 := h.1 hk
  constructor
  · intro h2
    rw [G_not p to f k (by omega) (hp (by omega)), if_neg hf] at h1
    rw [← h1]; rfl
  · intro h2
    obtain rfl : k = to := by omega
    rw [G_at_end p k f k rfl, if_neg hf] at h1
    simpa using h1

set_option maxRecDepth 100000 in
set_option maxHeartbeats 1600000 in
theorem Runs_ok (p : Nat → Bool) (g cp fr to : Nat) (hft : fr ≤ to) (ht : to ≤ 480) (w : World) (hg : g < w.heap.size) (hfl : Flags480 w g p) :
    Calls Try.prog 19 #[.slice (some ⟨g, 0, none⟩) 480 cp, .int .i64 fr, .int .i64 to] w fun e w' => ∃ v, e = .returned v ∧ w'.ownsRow w.heap.size 32 1 v (gaps p fr to).length (runsV (gaps p fr to)) ∧ Below w.heap.size w w' := by
  obtain ⟨i0, hi, hz0, hz1, hz2⟩ := info_parts Try.info32
  go_enter Try.func19, Try.ntmps19
  go_wp2
  go_loopw [7, 8, 9] (fun v fi i wr => ∃ (l : List (Nat × Nat)) (f k : Nat), fi = .int .i64 f ∧ i = .int .i64 k ∧ f ≤ k ∧ k ≤ to + 1 ∧ l.length ≤ k ∧ Hid (RunsAt p fr to l f k) ∧ wr.ownsRow w.heap.size 32 1 v l.length (runsV l) ∧ Below w.heap.size w wr) (fun _ _ i _ => to + 1 - (intOf i).toNat)
  case atStart => exact ⟨[], fr, fr, rfl, rfl, by omega, by omega, by simp, RunsAt_start p fr to hft, World.ownsRow_made w #[] 0 (Nat.le_refl _) (by unfold maxLen; omega) rfl, (Below.refl _ _).alloc (Nat.le_refl _) _⟩
  case round =>
    obtain ⟨l, f, k, rfl, rfl, hfk, hk, hll, hat, hown, hbel⟩ := hrel
    have hsz := hbel.size
    by_cases hlt : k ≤ to
    · by_cases hkt : k < to
      · have h1 : wr.cell? ⟨g, k, none⟩ = some (.bool (p k)) := by rw [hbel.cell (by exact hg)]; exact hfl k (by omega)
        cases hp : p k
        · rw [hp] at h1
          have HP : Hid (p k = false) := hp
          clear hp hfl
          by_cases hf : f < k
          · have hat' := RunsAt_close hat.out hlt (fun h => HP.out) hf
            have HT : Hid _ := hat'
            clear hat hat'
            go_wp2_with (first
              | (go_at_call 25; refine (Run_any (f : Int) ((k : Int) - (f : Int)) (by omega) _).mono ?_; rintro e w' ⟨rfl, rfl⟩)
              | (refine wpList_append_lies _ rfl _ _ _ rfl w.heap.size 32 i0 _ 1 16 Try.underlying26 hi hz0 hz1 hz2 rfl (by omega) u7 l.length (runsV l) rfl (hown.alloc _) ⟨wr.heap.size, 0, none⟩ 1 1 [.complex .f64 (F (f : Int)) (F ((k : Int) - (f : Int)))] rfl rfl (World.news_of_block (cs := #[.complex .f64 (F (f : Int)) (F ((k : Int) - (f : Int)))]) (t := 32) (fr := (0, 0)) (heap_alloc_new wr _)) (by simp [Value.oneCell']) (by omega) (by unfold maxLen; omega) (by omega) (by simp; omega) (wr.heap.size + 1) (by simp) ?_; intro gg cp1 w1 hown1 hgrow hat1 hlt1))
            rw [runsV_snoc l hfk] at hown1
            have hb1 := ((hbel.alloc (by omega) _)).grown hgrow (by simp; omega) (fun k hk => (hown.lt k hk).1)
            have hlen : (l ++ [(f, k - f)]).length = l.length + 1 := by simp
            clear hgrow hown hbel hat1
            go_wp2
            go_roundw
            case rel => exact ⟨l ++ [(f, k - f)], k + 1, k + 1, by go_num, by go_num, by omega, by omega, by omega, HT, by rw [hlen]; exact hown1, hb1⟩
            case measure => simp [intOf]; omega
          · have hat' := RunsAt_skip hat.out hlt (fun _ => HP.out) hf
            have HT : Hid _ := hat'
            clear hat hat'
            go_wp2
            go_roundw
            case rel => exact ⟨l, k + 1, k + 1, by go_num, by go_num, by omega, by omega, by omega, HT, hown, hbel⟩
            case measure => simp [intOf]; omega
        · rw [hp] at h1
          have hat' := RunsAt_has hat.out hkt hp
          have HT : Hid _ := hat'
          clear hat hat' hp hfl
          go_wp2
          go_roundw
          case rel => exact ⟨l, f, k + 1, rfl, by go_num, by omega, by omega, by omega, HT, hown, hbel⟩
          case measure => simp [intOf]; omega
      · clear hfl
        by_cases hf : f < k
        · have hat' := RunsAt_close hat.out hlt (fun h => by omega) hf
          have HT : Hid _ := hat'
          clear hat hat'
          go_wp2_with (first
            | (go_at_call 25; refine (Run_any (f : Int) ((k : Int) - (f : Int)) (by omega) _).mono ?_; rintro e w' ⟨rfl, rfl⟩)
            | (refine wpList_append_lies _ rfl _ _ _ rfl w.heap.size 32 i0 _ 1 16 Try.underlying26 hi hz0 hz1 hz2 rfl (by omega) u7 l.length (runsV l) rfl (hown.alloc _) ⟨wr.heap.size, 0, none⟩ 1 1 [.complex .f64 (F (f : Int)) (F ((k : Int) - (f : Int)))] rfl rfl (World.news_of_block (cs := #[.complex .f64 (F (f : Int)) (F ((k : Int) - (f : Int)))]) (t := 32) (fr := (0, 0)) (heap_alloc_new wr _)) (by simp [Value.oneCell']) (by omega) (by unfold maxLen; omega) (by omega) (by simp; omega) (wr.heap.size + 1) (by simp) ?_; intro gg cp1 w1 hown1 hgrow hat1 hlt1))
          rw [runsV_snoc l hfk] at hown1
          have hb1 := ((hbel.alloc (by omega) _)).grown hgrow (by simp; omega) (fun k hk => (hown.lt k hk).1)
          have hlen : (l ++ [(f, k - f)]).length = l.length + 1 := by simp
          clear hgrow hown hbel hat1
          go_wp2
          go_roundw
          case rel => exact ⟨l ++ [(f, k - f)], k + 1, k + 1, by go_num, by go_num, by omega, by omega, by omega, HT, by rw [hlen]; exact hown1, hb1⟩
          case measure => simp [intOf]; omega
        · have hat' := RunsAt_skip hat.out hlt (fun h => by omega) hf
          have HT : Hid _ := hat'
          clear hat hat'
          go_wp2
          go_roundw
          case rel => exact ⟨l, k + 1, k + 1, by go_num, by go_num, by omega, by omega, by omega, HT, hown, hbel⟩
          case measure => simp [intOf]; omega
    · have hR := hat.out.2 (by omega)
      subst hR
      clear hat
      go_wp2
      go_ret
      exact ⟨_, rfl, hown, hbel⟩

theorem owns_mono {w : World} {B B' : Nat} {e : TypeId} {size : Nat} {v : Value} {n : Nat} {xs : List Value} (h : w.ownsRow B e size v n xs) (hB : B' ≤ B) : w.ownsRow B' e size v n xs := by
  refine ⟨h.1, ?_⟩
  rcases h.2 with h1 | ⟨g, cap, cur, hv, hb, rest⟩
  · exact .inl h1
  · exact .inr ⟨g, cap, cur, hv, Nat.le_trans hB hb, rest⟩

/-- The flags behind k rounds of turning them. -/
def turned (p : Nat → Bool) (k : Nat) : Nat → Bool := fun n => if n < k then !p n else p n

theorem turned_step {wr : World} {g k : Nat} {p : Nat → Bool} (hk : k < 480) (h : Flags480 wr g (turned p k)) : Flags480 (wr.setCell ⟨g, k, none⟩ (.bool (!p k))) g (turned p (k + 1)) := by
  intro n hn
  by_cases e : n = k
  · subst e
    rw [World.cell?_setCell_same wr _ _ (h n hn)]
    simp [turned]
  · have hne : (⟨g, k, none⟩ : Addr) ≠ ⟨g, n, none⟩ := fun h' => e (by injection h' with _ h2 _; exact h2.symm)
    rw [World.cell?_setCell_other wr _ _ _ hne, h n hn]
    unfold turned
    by_cases h1 : n < k
    · rw [if_pos h1, if_pos (by omega)]
    · rw [if_neg h1, if_neg (by omega)]

def DownPost (w : World) (l : List (Nat × Nat)) (e : Ending) (w' : World) : Prop :=
  ∃ v, e = .returned (.tuple #[v, .int .i64 0]) ∧ w'.ownsRow w.heap.size 32 1 v l.length (runsV l) ∧ Below w.heap.size w w'

set_option maxHeartbeats 400000 in
theorem DownR_form (a : Option Addr) (len cap : Nat) (fr to : Int) (hl2 : ((len : Int) != 60) = true) (w : World) :
    Calls Try.prog 10 #[.slice a len cap, .int .i64 fr, .int .i64 to] w fun e w' => e = .returned (.tuple #[.slice none 0 0, .int .i64 2]) ∧ w = w' := by
  go_enter Try.func10, Try.ntmps10
  go_wp2
  go_ret2
  exact ⟨rfl, rfl⟩

set_option maxHeartbeats 400000 in
theorem DownR_arg (a : Option Addr) (cap : Nat) (fr to : Int) (ht : fr < 0 ∨ to < fr ∨ 480 < to) (w : World) :
    Calls Try.prog 10 #[.slice a 60 cap, .int .i64 fr, .int .i64 to] w fun e w' => e = .returned (.tuple #[.slice none 0 0, .int .i64 1]) ∧ w = w' := by
  by_cases h : fr < 0
  · go_enter Try.func10, Try.ntmps10
    go_wp2
    go_ret2
    exact ⟨rfl, rfl⟩
  · by_cases h1 : to < fr
    · go_enter Try.func10, Try.ntmps10
      go_wp2
      go_ret2
      exact ⟨rfl, rfl⟩
    · have h2 : 480 < to := by omega
      go_enter Try.func10, Try.ntmps10
      go_wp2
      go_ret2
      exact ⟨rfl, rfl⟩

set_option maxRecDepth 100000 in
set_option maxHeartbeats 1600000 in
theorem DownR_ok (zs : List Int) (hf : Fits zs) (b off cap fr to : Nat) (hft : fr ≤ to) (ht : to ≤ 480) (w : World) (hb : b < w.heap.size) (hc : Lies w b off zs) :
    Calls Try.prog 10 #[.slice (some ⟨b, off, none⟩) 60 cap, .int .i64 fr, .int .i64 to] w fun e w' => DownPost w (gaps (fun n => !bit zs n) fr to) e w' := by
  go_enter Try.func10, Try.ntmps10
  go_wp2_with (go_at_call 15; refine (Up_lies zs hf b off cap _ hb hc).mono ?_; rintro e w1 ⟨g, cp, rfl, hfl, hfr, hg1, hg2, hbel⟩)
  go_loopw [9] (fun i wr => ∃ k : Nat, k ≤ 480 ∧ i = .int .i64 k ∧ Flags480 wr g (turned (bit zs) k) ∧ (∀ n, wr.frozen? ⟨g, n, none⟩ = false) ∧ g < wr.heap.size ∧ Below w.heap.size w wr) (fun i _ => 480 - (intOf i).toNat)
  case atStart => exact ⟨0, Nat.zero_le _, rfl, hfl, hfr, hg2, hbel⟩
  case round =>
    clear hfl hfr hg2 hbel
    obtain ⟨k, hk, rfl, hfl, hfr, hg2, hbel⟩ := hrel
    by_cases hlt : k < 480
    · have h1 : wr.cell? ⟨g, k, none⟩ = some (.bool (bit zs k)) := by rw [hfl k hlt]; simp [turned]
      have h2 := hfr k
      have hfl' := turned_step hlt hfl
      have hfr' : ∀ n, (wr.setCell ⟨g, k, none⟩ (.bool (!bit zs k))).frozen? ⟨g, n, none⟩ = false := fun n => by rw [World.frozen?_setCell]; exact hfr n
      have hbel' := hbel.setCell (p := ⟨g, k, none⟩) hg1 (.bool (!bit zs k))
      have HA : Hid _ := hfl'
      have HB : Hid _ := hfr'
      have HC : Hid _ := hbel'
      clear hfl' hfr' hbel' hfl hfr hbel hc
      go_wp2
      go_roundw
      case rel => exact ⟨k + 1, by omega, by go_num, HA, HB, by simpa using hg2, HC⟩
      case measure => simp [intOf]; omega
    · obtain rfl : k = 480 := by omega
      have hfl2 : Flags480 wr g (fun n => !bit zs n) := fun n hn => by rw [hfl n hn]; simp [turned, hn]
      have HF : Hid _ := hfl2
      clear hfl hfr hc hfl2
      go_wp2_with (go_at_call 19; refine (Runs_ok (fun n => !bit zs n) g cp fr to hft ht _ (by assumption) HF.out).mono ?_; rintro e w2 ⟨v, rfl, hown, hbel2⟩)
      go_ret2
      exact ⟨v, rfl, owns_mono hown hbel.size, hbel.trans (hbel2.mono hbel.size)⟩
end Go.Proofs.Ytoiafcelnohcfaa
