/- The walk of the law FlagsAll: whatever slice of bytes and whatever two numbers, it returns true and writes nothing that was there. No condition. -/
import Derived.Test.YtoiafcelnohcfaaCountLaw
namespace Go.Proofs.Ytoiafcelnohcfaa
open Go.RowKit

theorem total_snoc (l : List (Nat × Nat)) (k : Nat) (hk : k < l.length) : total (l.take (k + 1)) = total (l.take k) + l[k].2 := by
  rw [List.take_succ_eq_append_getElem hk, total, total, List.map_append, List.sum_append]; simp

theorem total_take_le (l : List (Nat × Nat)) : ∀ k, total (l.take k) ≤ total l := by
  induction l with
  | nil => intro k; simp [total]
  | cons x l ih =>
    intro k
    cases k with
    | zero => simp [total]
    | succ k => have := ih k; simp [total] at this ⊢; omega

theorem conv_F (n : Nat) (h : n ≤ 480) (w : World) : (convert 35 3 (.float .f64 (F (n : Int)))).run Try.prog w = .ok (.int .i64 n) w :=
  run_convert_float_int w 35 3 .f64 .i64 _ n (by rw [Try.underlying35]; rfl) Try.underlying3 (toInt_F n (by omega))

set_option maxRecDepth 100000 in
set_option maxHeartbeats 1600000 in
theorem FlagsAll_walk (a : Option Addr) (len cap : Nat) (zs : List Int) (fr to : Int) (w : World) (h : CameIn w a len cap zs) :
    Calls Try.prog 5 #[.slice a len cap, .int .i64 fr, .int .i64 to] w fun e w' => e = .returned (.bool true) ∧ Below w.heap.size w w' := by
  by_cases hl : len = 60
  · subst hl
    obtain ⟨b, off, ys, rfl, hcap, hb, hl, hf, hc⟩ := came_60 h
    clear h
    by_cases hd : fr < 0 ∨ to < fr ∨ 480 < to
    · go_enter Try.func5, Try.ntmps5
      go_wp2_with fail
      refine (Down_arg _ cap fr to hd _).mono ?_
      rintro e w1 ⟨rfl, rfl⟩
      go_wp2_with fail
      refine (awake_any _).mono ?_
      rintro e w2 ⟨rfl, hb2⟩
      go_wp2_with fail
      refine (awake_any _).mono ?_
      rintro e w3 ⟨rfl, hb3⟩
      go_wp2
      go_ret
      exact ⟨rfl, hb2.trans (hb3.mono hb2.size)⟩
    · obtain ⟨f, rfl⟩ := Int.eq_ofNat_of_zero_le (show 0 ≤ fr by omega)
      obtain ⟨t, rfl⟩ := Int.eq_ofNat_of_zero_le (show 0 ≤ to by omega)
      have hft : f ≤ t := by omega
      have ht2 : t ≤ 480 := by omega
      clear hd
      obtain ⟨l, hl⟩ : ∃ l, l = gaps (fun n => !bit ys n) f t := ⟨_, rfl⟩
      have hsm := gaps_small (fun n => !bit ys n) f t hft ht2
      have hgl := gaps_len (fun n => !bit ys n) f t hft
      have hap := apart_at _ (apart_gaps (fun n => !bit ys n) f t hft)
      have htot := total_gaps (fun n => !bit ys n) f t hft
      have hnot := cnt_not (bit ys) f (t - f)
      have hsp := cnt_split (bit ys) 0 f (t - f)
      rw [Nat.zero_add, Nat.add_sub_of_le hft] at hsp
      have hdown := fun w (hb : b < w.heap.size) hc => Down_ok ys hf b off cap f t hft ht2 w hb hc
      rw [← hl] at hsm hgl hap htot hdown
      go_enter Try.func5, Try.ntmps5
      go_wp2_with fail
      refine (hdown _ hb hc).mono ?_
      rintro e w1 ⟨v1, rfl, hown1, hb1⟩
      have hs1 := hb1.size
      have hc1 := below_lies hc hb1 hb
      clear hc hdown hl
      go_wp2_with fail
      refine (awake_any _).mono ?_
      rintro e w2 ⟨rfl, hb2⟩
      have hs2 := hb2.size
      have hc2 := below_lies hc1 hb2 (by omega)
      have hown2 := owns_below hown1 hb2
      have hb3 := hb1.trans (hb2.mono hs1)
      clear hown1 hc1 hb1 hb2
      go_wp2_with fail
      refine (Count_ok ys hf b off cap f hcap (by omega) _ hc2).mono ?_
      rintro e w3 ⟨rfl, hb4⟩
      have hs3 := hb4.size
      have hc3 := below_lies hc2 hb4 (by omega)
      have hown3 := owns_below hown2 hb4
      have hb5 := hb3.trans (hb4.mono hb3.size)
      clear hown2 hc2 hb3 hb4
      go_wp2_with fail
      refine (Count_ok ys hf b off cap t hcap ht2 _ hc3).mono ?_
      rintro e w4 ⟨rfl, hb6⟩
      have hown4 := owns_below hown3 hb6
      have hb7 := hb5.trans (hb6.mono hb5.size)
      clear hown3 hc3 hb5 hb6 hf
      obtain ⟨x, c1, rfl, hcells⟩ := owns_at hown4
      have HC : Hid _ := hcells
      have HS : Hid _ := hsm
      have HA : Hid _ := hap
      have HT : Hid _ := htot
      have HN : Hid _ := hnot
      have HP : Hid _ := hsp
      have hcl := cnt_le (bit ys) 0 f
      have hcl2 := cnt_le (bit ys) 0 t
      have hcl3 := cnt_le (bit ys) f (t - f)
      have htl : total l ≤ 480 := by rw [htot]; have := cnt_le (fun n => !bit ys n) f (t - f); omega
      obtain ⟨N, hN⟩ : ∃ N, N = l.length := ⟨_, rfl⟩
      have HL : Hid (N = l.length) := hN
      rw [← hN] at hgl ⊢
      clear hN hcells hsm hap htot hnot hsp hown4
      go_wp2
      go_loopw [13, 14] (fun n i wr => ∃ k m : Nat, k ≤ N ∧ i = .int .i64 k ∧ n = .int .i64 (total (l.take k)) ∧ wr = w4.drewN m) (fun _ i _ => N - (intOf i).toNat)
      case atStart => exact ⟨0, 0, Nat.zero_le _, rfl, rfl, rfl⟩
      case round =>
        obtain ⟨k, m, hk, rfl, rfl, rfl⟩ := hrel
        by_cases hlt : k < N
        · have hkl : k < l.length := by have := HL.out; omega
          obtain ⟨g, rfl, hk1⟩ := HC.out k hkl
          have hks := HS.out _ (List.getElem_mem hkl)
          have hsn := total_snoc l k hkl
          have hle := total_take_le l (k + 1)
          obtain ⟨r, hr⟩ : ∃ r, r = l[k] := ⟨_, rfl⟩
          rw [← hr] at hk1 hks hsn
          obtain ⟨x, y⟩ := r
          have hk2 : w4.cell? ⟨g, k, none⟩ = some (.complex .f64 (F (x : Int)) (F (y : Int))) := hk1
          have hsn2 : Hid (total (l.take (k + 1)) = total (l.take k) + y) := hsn
          rw [hsn] at hle
          have c1 := conv_F y hks.2
          clear hk1 hsn
          by_cases hk0 : k = 0
          · subst hk0
            have e0 : total (l.take 0) = 0 := rfl
            have hsn3 : Hid (total (l.take (0 + 1)) = y) := by have := hsn2.out; rw [e0] at this; show total (l.take (0 + 1)) = y; omega
            rw [e0] at hle ⊢
            clear hr hsn2 e0
            go_wp2
            go_quiet (fail)
            go_wp2
            go_roundw
            case rel => exact ⟨0 + 1, _, by omega, by go_num, by rw [hsn3.out], rfl⟩
            case measure => simp [intOf]; omega
          · obtain ⟨j, rfl⟩ : ∃ j, k = j + 1 := ⟨k - 1, by omega⟩
            obtain ⟨g', hg', hj1⟩ := HC.out j (by omega)
            injection hg' with hg'
            injection hg' with hg' _ _
            subst hg'
            have hjs := HS.out _ (List.getElem_mem (show j < l.length by omega))
            have hja := HA.out j hkl
            rw [← hr] at hja
            obtain ⟨q, hq⟩ : ∃ q, q = l[j]'(by omega) := ⟨_, rfl⟩
            rw [← hq] at hj1 hjs hja
            obtain ⟨x', y'⟩ := q
            have hj2 : w4.cell? ⟨g, j, none⟩ = some (.complex .f64 (F (x' : Int)) (F (y' : Int))) := hj1
            have hop := fun t w => run_float_arith (P := Try.prog) w .add t .f64 _ _ _ (add_F (x' : Int) (y' : Int) (by omega) (by omega) (by omega))
            have hleq : (FloatKind.f64.format.order (F (x : Int)) (F ((x' : Int) + (y' : Int))) == some .lt || FloatKind.f64.format.order (F (x : Int)) (F ((x' : Int) + (y' : Int))) == some .eq) = false := by
              rw [leq_F _ _ (by omega) (by omega)]
              simp only at hja
              simp; omega
            clear hr hq hj1 hja hk0
            go_wp2
            go_quiet (fail)
            go_wp2
            go_roundw
            case rel => exact ⟨j + 1 + 1, _, by omega, by go_num, by rw [hsn2.out]; go_num, rfl⟩
            case measure => simp [intOf]; omega
        · obtain rfl : k = N := by omega
          have hall : total (l.take k) = total l := by rw [HL.out, List.take_length]
          rw [hall]
          have hfin : (((total l : Nat) : Int) + ((cnt (bit ys) 0 t : Nat) : Int) - ((cnt (bit ys) 0 f : Nat) : Int) == (t : Int) - (f : Int)) = true := by
            have h1 := HT.out
            have h2 := HN.out
            have h3 := HP.out
            rw [beq_iff_eq, h1, h3]
            omega
          clear hall
          go_wp2
          go_ret
          exact ⟨rfl, below_drewN hb7 _⟩
  · have h2 := form_ne hl
    clear h hl
    go_enter Try.func5, Try.ntmps5
    go_wp2_with fail
    refine (Down_form _ len cap fr to h2 _).mono ?_
    rintro e w1 ⟨rfl, rfl⟩
    go_wp2_with fail
    refine (awake_any _).mono ?_
    rintro e w2 ⟨rfl, hb2⟩
    go_wp2_with fail
    refine (awake_any _).mono ?_
    rintro e w3 ⟨rfl, hb3⟩
    go_wp2
    go_ret
    exact ⟨rfl, hb2.trans (hb3.mono hb2.size)⟩
end Go.Proofs.Ytoiafcelnohcfaa
