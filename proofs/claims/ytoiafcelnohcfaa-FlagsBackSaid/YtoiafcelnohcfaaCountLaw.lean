/- The walk of the law FlagsCount: whatever slice of bytes and whatever two numbers, it returns true and writes nothing that was there. No condition. -/
import Derived.Test.YtoiafcelnohcfaaUpLaw
namespace Go.Proofs.Ytoiafcelnohcfaa
open Go.RowKit

theorem owns_below {w w' : World} {B : Nat} {e : TypeId} {size : Nat} {v : Value} {n : Nat} {xs : List Value} (h : w.ownsRow B e size v n xs) (hb : Below w.heap.size w w') : w'.ownsRow B e size v n xs := by
  refine ⟨h.1, ?_⟩
  rcases h.2 with h1 | ⟨g, cap, cur, hv, hg, hh, rest⟩
  · exact .inl h1
  · have hlt : g < w.heap.size := by
      rcases Nat.lt_or_ge g w.heap.size with h2 | h2
      · exact h2
      · rw [Array.getElem?_eq_none h2] at hh; cases hh
    exact .inr ⟨g, cap, cur, hv, hg, by rw [hb.block g hlt]; exact hh, rest⟩

theorem gaps_small (p : Nat → Bool) (fr to : Nat) (h : fr ≤ to) (ht : to ≤ 480) : ∀ r ∈ gaps p fr to, r.1 ≤ 480 ∧ r.2 ≤ 480 := fun r hr => by
  have := good_gaps p fr to h r hr
  exact ⟨by have := this.2.2.1; omega, by have := this.2.2.1; omega⟩

theorem total_ge (l : List (Nat × Nat)) (h : ∀ r ∈ l, 1 ≤ r.2) : l.length ≤ total l := by
  induction l with
  | nil => simp
  | cons x l ih =>
    have h1 := h x (by simp)
    have h2 := ih (fun r hr => h r (by simp [hr]))
    simp [total] at h2 ⊢
    omega

theorem gaps_len (p : Nat → Bool) (fr to : Nat) (h : fr ≤ to) : (gaps p fr to).length ≤ to - fr := by
  have h1 := total_ge (gaps p fr to) (fun r hr => (good_gaps p fr to h r hr).2.1)
  rw [total_gaps p fr to h] at h1
  exact Nat.le_trans h1 (cnt_le _ _ _)

theorem Same_nil (w : World) : Calls Try.prog 12 #[.slice none 0 0, .slice none 0 0] w fun e w' => e = .returned (.bool true) ∧ Below w.heap.size w w' :=
  Same_yes [] (by simp) (by simp) w.heap.size w.heap.size _ _ w (World.ownsRow_nil _ _ _ _) (World.ownsRow_nil _ _ _ _)

set_option maxRecDepth 100000 in
set_option maxHeartbeats 1600000 in
theorem FlagsCount_walk (a : Option Addr) (len cap : Nat) (zs : List Int) (fr to : Int) (w : World) (h : CameIn w a len cap zs) :
    Calls Try.prog 3 #[.slice a len cap, .int .i64 fr, .int .i64 to] w fun e w' => e = .returned (.bool true) ∧ Below w.heap.size w w' := by
  by_cases hl : len = 60
  · subst hl
    obtain ⟨b, off, ys, rfl, hcap, hb, hl, hf, hc⟩ := came_60 h
    clear h
    by_cases ht : to < 0 ∨ 480 < to
    · have hd : fr < 0 ∨ to < fr ∨ 480 < to := by omega
      go_enter Try.func3, Try.ntmps3
      go_wp2_with fail
      refine (Count_arg _ cap to ht _).mono ?_
      rintro e w1 ⟨rfl, rfl⟩
      go_wp2_with fail
      refine (CountR_arg _ cap to ht _).mono ?_
      rintro e w1 ⟨rfl, rfl⟩
      go_wp2_with fail
      refine (Down_arg _ cap fr to hd _).mono ?_
      rintro e w1 ⟨rfl, rfl⟩
      go_wp2_with fail
      refine (DownR_arg _ cap fr to hd _).mono ?_
      rintro e w1 ⟨rfl, rfl⟩
      go_wp2_with fail
      refine (awake_any _).mono ?_
      rintro e w2 ⟨rfl, hb2⟩
      go_wp2_with fail
      refine (Same_nil _).mono ?_
      rintro e w3 ⟨rfl, hb3⟩
      go_wp2
      go_ret
      exact ⟨rfl, hb2.trans (hb3.mono hb2.size)⟩
    · obtain ⟨t, rfl⟩ := Int.eq_ofNat_of_zero_le (show 0 ≤ to by omega)
      have ht2 : t ≤ 480 := by omega
      clear ht
      by_cases hd : fr < 0 ∨ (t : Int) < fr
      · have hd2 : fr < 0 ∨ (t : Int) < fr ∨ 480 < (t : Int) := by omega
        clear hd
        go_enter Try.func3, Try.ntmps3
        go_wp2_with fail
        refine (Count_ok ys hf b off cap t hcap ht2 _ hc).mono ?_
        rintro e w1 ⟨rfl, hb1⟩
        have hs1 := hb1.size
        go_wp2_with fail
        refine (CountR_ok ys hf b off cap t ht2 _ (by omega) (below_lies hc hb1 hb)).mono ?_
        rintro e w2 ⟨rfl, hb2⟩
        have hb3 := hb1.trans (hb2.mono hs1)
        clear hb1 hb2 hs1 hc
        go_wp2_with fail
        refine (Down_arg _ cap fr t hd2 _).mono ?_
        rintro e w1 ⟨rfl, rfl⟩
        go_wp2_with fail
        refine (DownR_arg _ cap fr t hd2 _).mono ?_
        rintro e w1 ⟨rfl, rfl⟩
        go_wp2_with fail
        refine (awake_any _).mono ?_
        rintro e w4 ⟨rfl, hb4⟩
        have hs := hb4.size
        go_wp2_with fail
        refine (Same_nil _).mono ?_
        rintro e w5 ⟨rfl, hb5⟩
        go_wp2
        go_ret
        exact ⟨rfl, (hb3.trans (hb4.mono hb3.size)).trans (hb5.mono (Nat.le_trans hb3.size hs))⟩
      · obtain ⟨f, rfl⟩ := Int.eq_ofNat_of_zero_le (show 0 ≤ fr by omega)
        have hft : f ≤ t := by omega
        clear hd
        have hsm := gaps_small (fun n => !bit ys n) f t hft ht2
        have hgl := gaps_len (fun n => !bit ys n) f t hft
        go_enter Try.func3, Try.ntmps3
        go_wp2_with fail
        refine (Count_ok ys hf b off cap t hcap ht2 _ hc).mono ?_
        rintro e w1 ⟨rfl, hb1⟩
        have hs1 := hb1.size
        have hc1 := below_lies hc hb1 hb
        go_wp2_with fail
        refine (CountR_ok ys hf b off cap t ht2 _ (by omega) hc1).mono ?_
        rintro e w2 ⟨rfl, hb2⟩
        have hs2 := hb2.size
        have hc2 := below_lies hc1 hb2 (by omega)
        have hb3 := hb1.trans (hb2.mono hs1)
        clear hb1 hb2 hc hc1
        go_wp2_with fail
        refine (Down_ok ys hf b off cap f t hft ht2 _ (by omega) hc2).mono ?_
        rintro e w3 ⟨v1, rfl, hown1, hb4⟩
        have hs3 := hb4.size
        have hc3 := below_lies hc2 hb4 (by omega)
        have hb5 := hb3.trans (hb4.mono hb3.size)
        clear hb4 hc2 hb3
        go_wp2_with fail
        refine (DownR_ok ys hf b off cap f t hft ht2 _ (by omega) hc3).mono ?_
        rintro e w4 ⟨v2, rfl, hown2, hb6⟩
        have hown3 := owns_below hown1 hb6
        have hb7 := hb5.trans (hb6.mono hb5.size)
        clear hb6 hc3 hown1 hb5
        go_wp2_with fail
        refine (awake_any _).mono ?_
        rintro e w5 ⟨rfl, hb8⟩
        have hown4 := owns_below hown3 hb8
        have hown5 := owns_below hown2 hb8
        have hb9 := hb7.trans (hb8.mono hb7.size)
        clear hb7 hb8 hown3 hown2
        go_wp2_with fail
        refine (Same_yes _ hsm (by omega) _ _ v1 v2 _ hown4 hown5).mono ?_
        rintro e w6 ⟨rfl, hb10⟩
        have hb11 := hb9.trans (hb10.mono hb9.size)
        clear hb9 hb10 hown4 hown5 hsm hgl
        go_wp2
        go_ret
        exact ⟨rfl, hb11⟩
  · have h2 := form_ne hl
    clear h hl
    go_enter Try.func3, Try.ntmps3
    go_wp2_with fail
    refine (Count_form _ len cap to h2 _).mono ?_
    rintro e w1 ⟨rfl, rfl⟩
    go_wp2_with fail
    refine (CountR_form _ len cap to h2 _).mono ?_
    rintro e w1 ⟨rfl, rfl⟩
    go_wp2_with fail
    refine (Down_form _ len cap fr to h2 _).mono ?_
    rintro e w1 ⟨rfl, rfl⟩
    go_wp2_with fail
    refine (DownR_form _ len cap fr to h2 _).mono ?_
    rintro e w1 ⟨rfl, rfl⟩
    go_wp2_with fail
    refine (awake_any _).mono ?_
    rintro e w2 ⟨rfl, hb2⟩
    go_wp2_with fail
    refine (Same_nil _).mono ?_
    rintro e w3 ⟨rfl, hb3⟩
    go_wp2
    go_ret
    exact ⟨rfl, hb2.trans (hb3.mono hb2.size)⟩
end Go.Proofs.Ytoiafcelnohcfaa
