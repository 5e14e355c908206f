/- The walk of flags.Mark at 60 bytes that lie in memory and one sound run: a map of the call's own, that run's flags up, or down. No other condition. -/
import Derived.Test.YtoiafcelnohcfaaMade
import Derived.BigRegion
namespace Go.Proofs.Ytoiafcelnohcfaa
open Go.RowKit

def MarkPost (w : World) (zs : List Int) (e : Ending) (w' : World) : Prop :=
  ∃ g cp, e = .returned (.tuple #[.slice (some ⟨g, 0, none⟩) 60 cp, .int .i64 0]) ∧ 60 ≤ cp ∧ Lies w' g 0 zs ∧ w.heap.size ≤ g ∧ g < w'.heap.size ∧ Below w.heap.size w w'

theorem lies_set {w : World} {g : Nat} {zs : List Int} (h : Lies w g 0 zs) (hl : zs.length = 60) {i : Nat} (hi : i < 60) (v : Int) : Lies (w.setCell ⟨g, i, none⟩ (.int .u8 v)) g 0 (zs.set i v) := by
  intro j hj
  rw [Nat.zero_add]
  have h1 : w.cell? ⟨g, j, none⟩ = some (.int .u8 (zs[j]?.getD 0)) := by have := h j hj; rwa [Nat.zero_add] at this
  by_cases e : j = i
  · subst e
    rw [World.cell?_setCell_same w _ _ h1, List.getElem?_set, if_pos rfl, if_pos (by omega)]
    rfl
  · have hne : (⟨g, i, none⟩ : Addr) ≠ ⟨g, j, none⟩ := fun h' => e (by injection h' with _ h2 _; exact h2.symm)
    rw [World.cell?_setCell_other w _ _ _ hne, h1, List.getElem?_set, if_neg (fun h => e h.symm)]

theorem lies_drew {w : World} {b off : Nat} {zs : List Int} (h : Lies w b off zs) : Lies w.drew b off zs := h

theorem puts_down {zs : List Int} {x k n B P C : Nat} (HN : n = x + k) (HB : B = byteAt (puts false zs x k) (n / 8)) (HP : P = 2 ^ (n % 8)) (HC : C = B &&& (255 - P)) :
    (puts false zs x k).set (n / 8) (C : Int) = puts false zs x (k + 1) := by
  subst HC HB HP HN
  rw [puts, put]; rfl

theorem puts_up {zs : List Int} {x k n B P C D : Nat} (HN : n = x + k) (HB : B = byteAt (puts true zs x k) (n / 8)) (HP : P = 2 ^ (n % 8)) (HC : C = B &&& (255 - P)) (HD : D = C ||| P) :
    ((puts true zs x k).set (n / 8) (C : Int)).set (n / 8) (D : Int) = puts true zs x (k + 1) := by
  subst HD HC HB HP HN
  rw [puts, put, List.set_set]; rfl

set_option maxRecDepth 100000 in
set_option maxHeartbeats 1600000 in
theorem Mark_one (up : Bool) (zs : List Int) (hf : Fits zs) (hl : zs.length = 60) (b off cap r rc x d : Nat) (hd : 1 ≤ d) (hx : x + d ≤ 480) (w : World) (hb : b < w.heap.size) (hc : Lies w b off zs)
    (hr : r < w.heap.size) (hrc : w.cell? ⟨r, 0, none⟩ = some (.complex .f64 (F (x : Int)) (F (d : Int)))) :
    Calls Try.prog 13 #[.slice (some ⟨b, off, none⟩) 60 cap, .bool up, .slice (some ⟨r, 0, none⟩) 1 rc] w (MarkPost w (puts up zs x d)) := by
  go_enter Try.func13, Try.ntmps13
  go_wp2_with (go_at_call 21; refine (Clone_any zs hl b off cap _ hb hc).mono ?_; rintro e w1 ⟨g, cp, rfl, hcp, hlies, hfr, hg1, hg2, hbel⟩)
  go_loopw [22] (fun i wr => ∃ j : Nat, j ≤ 1 ∧ i = .int .i64 j ∧ Lies wr g 0 (puts up zs x (j * d)) ∧ (∀ n, wr.frozen? ⟨g, n, none⟩ = false) ∧ g < wr.heap.size ∧ Below w.heap.size w wr) (fun i _ => 1 - (intOf i).toNat)
  case atStart => exact ⟨0, by omega, rfl, by rw [Nat.zero_mul]; exact hlies, hfr, hg2, hbel⟩
  case round =>
    obtain ⟨j, hj, rfl, hlies1, hfr1, hg3, hbel1⟩ := hrel
    clear hlies hfr hg2 hbel hc
    by_cases hj0 : j = 0
    · subst hj0
      have hcell : wr.cell? ⟨r, 0, none⟩ = some (.complex .f64 (F (x : Int)) (F (d : Int))) := by rw [hbel1.cell (by exact hr)]; exact hrc
      rw [Nat.zero_mul] at hlies1
      obtain ⟨wo, rfl⟩ : ∃ wo : World, wo = wr := ⟨_, rfl⟩
      go_wp2_with (go_at_call 22; refine (Parts_yes (x : Int) (d : Int) (by omega) (by omega) (by omega) _).mono ?_; rintro e w' ⟨rfl, rfl⟩)
      go_loopw [14] (fun i wr => ∃ k n : Nat, k ≤ d ∧ Hid (n = x + k) ∧ x ≤ n ∧ n ≤ x + d ∧ i = .int .i64 n ∧ Lies wr g 0 (puts up zs x k) ∧ (∀ n, wr.frozen? ⟨g, n, none⟩ = false) ∧ g < wr.heap.size ∧ Below w.heap.size w wr) (fun i _ => x + d - (intOf i).toNat)
      case atStart => exact ⟨0, x, by omega, rfl, by omega, by omega, rfl, hlies1, hfr1, hg3, hbel1⟩
      case round =>
        clear hlies1 hfr1 hg3 hbel1 hcell hrc
        obtain ⟨k, n, hk, HN, hn1, hn2, rfl, hlies2, hfr2, hg4, hbel2⟩ := hrel
        by_cases hlt : n < x + d
        · have h1 := hlies2.at (n / 8) (by omega)
          have hkd : k < d := by have := HN.out; omega
          have hff := puts_fits up hf x k
          have hB := byte_lt hff (n / 8)
          rw [byte_cast hff, Nat.zero_add] at h1
          obtain ⟨B, HB⟩ : ∃ B, B = byteAt (puts up zs x k) (n / 8) := ⟨_, rfl⟩
          obtain ⟨P, HP⟩ : ∃ P, P = 2 ^ (n % 8) := ⟨_, rfl⟩
          rw [← HB] at h1 hB
          have hP := pow_lt (n % 8) (by omega)
          have q9 : IntKind.u8.wrap (2 ^ (n % 8)) = (P : Int) := by rw [wrap_pow _ (by omega), HP, pow_int]
          rw [← HP] at hP
          have hf1 := hfr2 (n / 8)
          have q1 : IntKind.i64.wrap ((n : Int) / 8) = (n : Int) / 8 := IntWalk.i64_in _ (by omega)
          have q2 : ((n : Int) / 8).toNat = n / 8 := by omega
          have q3 : ((n : Int) % 8).toNat = n % 8 := by omega
          have q4 : 0 ≤ (n : Int) / 8 := by omega
          have q5 : (n : Int) / 8 < 60 := by omega
          have q6 : (n : Int).tmod 8 = (n : Int) % 8 := Int.tmod_eq_emod_of_nonneg (by omega)
          have q7 : 0 ≤ (n : Int) % 8 := by omega
          have e1 := u8_andNot_nat B P hB hP.1
          have e2 := u8_or_nat (B &&& (255 - P)) P (Nat.lt_of_le_of_lt Nat.and_le_left hB) hP.1
          obtain ⟨C, HC⟩ : ∃ C, C = B &&& (255 - P) := ⟨_, rfl⟩
          rw [← HC] at e1 e2
          obtain ⟨D, HD⟩ : ∃ D, D = C ||| P := ⟨_, rfl⟩
          rw [← HD] at e2
          have HB' : Hid _ := HB
          have HC' : Hid _ := HC
          have HD' : Hid _ := HD
          have HP' : Hid _ := HP
          have HL : Hid _ := hlies2
          have HF : Hid _ := hfr2
          have HE : Hid _ := hbel2
          clear HB HC HD HP hlies2 hfr2 hbel2 hff hf
          have hlen : (puts up zs x k).length = 60 := by rw [puts_length]; exact hl
          have HLn : Hid ((puts up zs x k).length = 60) := hlen
          clear hlen hl
          cases up
          · go_wp2
            go_region
            go_wp2
            go_roundw
            case rel =>
              refine ⟨k + 1, n + 1, by omega, by show n + 1 = x + (k + 1); rw [HN.out]; omega, by omega, by omega, by go_num, ?_, fun m => ?_, by simpa using hg4, (HE.out.setCell (p := ⟨g, n / 8, none⟩) hg1 _).drew⟩
              · rw [← puts_down HN.out HB'.out HP'.out HC'.out]; exact lies_set HL.out HLn.out (by omega) _
              · exact (World.frozen?_setCell _ _ _ _).trans (HF.out m)
            case measure => simp [intOf]; omega
          · go_wp2
            go_region
            go_wp2
            go_region
            go_wp2
            go_roundw
            case rel =>
              refine ⟨k + 1, n + 1, by omega, by show n + 1 = x + (k + 1); rw [HN.out]; omega, by omega, by omega, by go_num, ?_, fun m => ?_, by simpa using hg4, ((HE.out.setCell (p := ⟨g, n / 8, none⟩) hg1 _).setCell (p := ⟨g, n / 8, none⟩) hg1 _).drew.drew⟩
              · rw [← puts_up HN.out HB'.out HP'.out HC'.out HD'.out]; exact lies_set (lies_set HL.out HLn.out (by omega) _) (by rw [List.length_set]; exact HLn.out) (by omega) _
              · exact (World.frozen?_setCell _ _ _ _).trans ((World.frozen?_setCell _ _ _ _).trans (HF.out m))
            case measure => simp [intOf]; omega
        · obtain rfl : k = d := by have := HN.out; omega
          have HL : Hid _ := hlies2
          have HF : Hid _ := hfr2
          have HE : Hid _ := hbel2
          clear hlies2 hfr2 hbel2
          go_wp2
          go_roundw
          case rel => exact ⟨1, by omega, by go_num, by rw [Nat.one_mul]; exact HL, HF, hg4, HE⟩
          case measure => simp [intOf]
    · obtain rfl : j = 1 := by omega
      rw [Nat.one_mul] at hlies1
      go_wp2
      go_ret2
      exact ⟨g, cp, rfl, hcp, hlies1, hg1, hg3, hbel1⟩
end Go.Proofs.Ytoiafcelnohcfaa
