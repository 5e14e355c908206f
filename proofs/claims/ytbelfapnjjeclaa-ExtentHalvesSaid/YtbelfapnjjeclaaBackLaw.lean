/- The walk of the law ExtentBack: whatever slice of numbers, it returns true and writes nothing that was there. No condition. -/
import Derived.Test.YtbelfapnjjeclaaBackPlain
namespace Go.Proofs.Ytbelfapnjjeclaa
open Go.RowKit Go.Maps

theorem TrimR_in {w : World} {a : Option Addr} {cap : Nat} {qs : List Nat} (hl : qs.length ≤ 1000) (hcap : qs.length ≤ cap) (h : PtrsIn w a qs) :
    Calls Try.prog 13 #[.slice a qs.length cap] w (IntsPost w (trim qs)) := by
  by_cases h0 : qs.length = 0
  · have hq : qs = [] := List.length_eq_zero_iff.1 h0
    subst hq
    rw [show ([] : List Nat).length = 0 from rfl]
    have ht : trim [] = [] := rfl
    rw [ht]
    clear h hl h0 ht
    rcases a with _ | ⟨b, off, spot⟩
    all_goals
      go_enter Try.func13, Try.ntmps13
      go_wp2
      refine wp_loop_rounds 1 ?_
      rw [rounds_succ]
      go_wp2
      go_ret
      exact ⟨_, rfl, World.ownsRow_made w #[] 0 (Nat.le_refl _) (by unfold maxLen; omega) rfl, (Below.refl _ _).alloc (Nat.le_refl _) _⟩
  · obtain ⟨b, off, rfl, h1, h2⟩ := h (by omega)
    exact TrimR_any b off cap qs w hl hcap h2

theorem wf_small (n : Nat) (h : n ≤ 480) : (Lit.int .i64 (n : Int)).wf = true := by
  have h1 : IntKind.i64.min ≤ 0 := by decide
  have h2 : 480 ≤ IntKind.i64.max := by decide
  unfold Lit.wf
  simp only [Bool.and_eq_true, decide_eq_true_eq]
  omega

/-- A file's pointers in a slice of the call's own: as numbers. -/
theorem own_ints {w : World} {a : Option Addr} {qs : List Nat} (hv : Valid qs) (h : PtrsIn w a qs) : IntsIn w a qs.length (toZ qs) := by
  have hl := hv.len
  refine ⟨by rw [toZ_length]; omega, by unfold maxLen; omega, fun n hn => ?_, fun h0 => ?_⟩
  · unfold toZ at hn
    obtain ⟨q, hq, rfl⟩ := List.mem_map.1 hn
    obtain ⟨i, hi, he⟩ := List.getElem_of_mem hq
    have := hv.data i q (by rw [List.getElem?_eq_getElem hi, he])
    exact wf_small q (by omega)
  · obtain ⟨b, off, rfl, hb, hp⟩ := h h0
    exact ⟨b, off, rfl, hb, fun j hj => by rw [toZ_at]; exact hp j hj⟩

theorem came_cap {w : World} {a : Option Addr} {len cap : Nat} {zs : List Int} (h : CameIn w a len cap zs) : len ≤ cap := by
  rcases h with ⟨_, rfl, _, _⟩ | ⟨_, _, h, _⟩
  · omega
  · exact h

set_option maxRecDepth 100000 in
set_option maxHeartbeats 1600000 in
theorem ExtentBack_no (a : Option Addr) (len cap : Nat) (zs : List Int) (w : World) (hi : IntsIn w a len zs) (hv : valid zs len = false) :
    Calls Try.prog 4 #[.slice a len cap] w fun e w' => e = .returned (.bool true) ∧ Below w.heap.size w w' := by
  have h1 := From_no (cap := cap) hi hv
  clear hi hv
  go_enter Try.func4, Try.ntmps4
  go_wp2_with fail
  refine h1.mono ?_
  clear h1
  rintro e w1 ⟨rfl, hb1⟩
  go_wp2_with fail
  refine (awake_yes _).mono ?_
  rintro e w2 ⟨rfl, hb2⟩
  have hb3 := hb1.trans (hb2.mono hb1.size)
  clear hb1 hb2
  go_wp2_with fail
  refine (awake_yes _).mono ?_
  rintro e w3 ⟨rfl, hb4⟩
  have hb5 := hb3.trans (hb4.mono hb3.size)
  clear hb3 hb4
  go_wp2
  go_ret
  exact ⟨rfl, hb5⟩

theorem brk_keep {qs : List Nat} {k p c : Nat} (hp : qs[k]? = some p) (h : p = 0 ∨ ∃ m q, k = m + 1 ∧ qs[m]? = some q ∧ ¬ (q = 0 ∨ p ≠ q + 1)) (hc : c = brk (qs.take k) 0) : c = brk (qs.take (k + 1)) 0 := by
  rcases h with h | ⟨m, q, rfl, hq, h⟩
  · subst h
    cases k with
    | zero => rw [hc, brk_first hp]; rfl
    | succ m =>
      have hm : m < qs.length := by have := (List.getElem?_eq_some_iff.1 hp).1; omega
      rw [brk_next hp (List.getElem?_eq_getElem hm), hc, if_neg (by simp)]; rfl
  · rw [brk_next hp hq, hc, if_neg (fun h1 => h h1.2)]; rfl

theorem brk_more {qs : List Nat} {k p c : Nat} (hp : qs[k]? = some p) (h0 : p ≠ 0) (h : k = 0 ∨ ∃ m q, k = m + 1 ∧ qs[m]? = some q ∧ (q = 0 ∨ p ≠ q + 1)) (hc : c = brk (qs.take k) 0) : c + 1 = brk (qs.take (k + 1)) 0 := by
  rcases h with rfl | ⟨m, q, rfl, hq, h⟩
  · rw [hc, brk_first hp, if_neg h0]; rfl
  · rw [brk_next hp hq, hc, if_pos ⟨h0, h⟩]

set_option maxRecDepth 100000 in
set_option maxHeartbeats 3200000 in
theorem ExtentBack_yes (a : Option Addr) (cap : Nat) (zs : List Int) (qs : List Nat) (w : World) (hcap : qs.length ≤ cap) (hi : IntsIn w a qs.length zs) (hv : valid zs qs.length = true) (hq : Valid qs) (hp : PtrsIn w a qs) :
    Calls Try.prog 4 #[.slice a qs.length cap] w fun e w' => e = .returned (.bool true) ∧ Below w.heap.size w w' := by
  have h1 := From_yes (cap := cap) hi hv hq hp
  have hq2 := valid_trim hq
  have hl96 := hq.len
  have HIN : Hid (PtrsIn w a qs) := hp
  have HV : Hid (Valid qs) := hq
  have HTR : Hid (∀ w1, Below w.heap.size w w1 → Calls Try.prog 13 #[.slice a qs.length cap] w1 (IntsPost w1 (trim qs))) := fun w1 hb => TrimR_in (by omega) hcap (hp.below hb)
  have HSE : Hid (∀ B1 B2 v1 v2 w1, w1.ownsRow B1 45 2 v1 (E qs).length (extsV (E qs)) → w1.ownsRow B2 45 2 v2 (E qs).length (extsV (E qs)) → Calls Try.prog 9 #[v1, v2] w1 fun e w' => e = .returned (.bool true) ∧ Below w1.heap.size w1 w') := fun B1 B2 v1 v2 w1 => SameE_yes (E qs) (E_small hq) (by have := len_E_le hq; omega) B1 B2 v1 v2 w1
  have HIE : Hid (∀ B1 B2 v1 v2 w1, w1.ownsRow B1 3 1 v1 (trim qs).length (intsV (trim qs)) → w1.ownsRow B2 3 1 v2 (trim qs).length (intsV (trim qs)) → Calls Try.prog 12 #[v1, v2] w1 fun e w' => e = .returned (.bool true) ∧ Below w1.heap.size w1 w') := fun B1 B2 v1 v2 w1 => ints_yes (trim qs) (by have := hq2.len; omega) B1 B2 v1 v2 w1
  have HTO : Hid (∀ a1 cap1 w1, ExtsIn w1 a1 (E qs) → Calls Try.prog 11 #[.slice a1 (E qs).length cap1] w1 (ToPost w1 (trim qs))) := fun a1 cap1 w1 h => by
    have := To_yes (E qs) a1 cap1 w1 h (len_E_le hq) (sok_E hq)
    rw [trim_arr hq] at this; exact this
  have HSO : Hid (∀ a1 cap1 w1, ExtsIn w1 a1 (E qs) → Calls Try.prog 14 #[.slice a1 (E qs).length cap1] w1 fun e w' => e = .returned (.bool true) ∧ Below w1.heap.size w1 w') := fun a1 cap1 w1 h => SoundE_yes (E qs) a1 cap1 w1 h (len_E_le hq) (sok_E hq)
  have HFR : Hid (∀ a1 cap1 w1, PtrsIn w1 a1 (trim qs) → Calls Try.prog 6 #[.slice a1 (trim qs).length cap1] w1 (FromPost w1 (E qs))) := fun a1 cap1 w1 h => by
    have := From_yes (cap := cap1) (own_ints hq2 h) (valid_of hq2) hq2 h
    rw [E_trim] at this; exact this
  obtain ⟨N, hN⟩ : ∃ N, N = qs.length := ⟨_, rfl⟩
  have HN : Hid (N = qs.length) := hN
  obtain ⟨L, hL⟩ : ∃ L, L = (E qs).length := ⟨_, rfl⟩
  have HL : Hid (L = brk (qs.take N) 0) := by rw [hL, hN, List.take_length]; exact len_E qs
  have hL96 : L ≤ 96 := by rw [hL]; exact len_E_le hq
  rw [← hN] at h1 hl96 HTR ⊢
  rw [← hL] at HSE HTO HSO
  have HLE : Hid (L = (E qs).length) := hL
  obtain ⟨T, hT⟩ : ∃ T, T = (trim qs).length := ⟨_, rfl⟩
  have HT : Hid (T = (trim qs).length) := hT
  rw [← hT] at HIE HFR
  clear hN hL hT hi hv hq hp hq2 hcap
  go_enter Try.func4, Try.ntmps4
  go_wp2_with fail
  refine h1.mono ?_
  clear h1
  rintro e w1 ⟨v3, rfl, hown3, hb1⟩
  obtain ⟨a3, cap3, rfl, hin3⟩ := exts_in hown3
  rw [← HLE.out] at hown3 ⊢
  have H3 : Hid (ExtsIn w1 a3 (E qs)) := hin3
  clear hin3
  go_wp2_with fail
  refine (awake_yes _).mono ?_
  rintro e w2 ⟨rfl, hb2⟩
  have hown3' := owns_below hown3 hb2
  have H3' : Hid (ExtsIn w2 a3 (E qs)) := H3.out.below hb2
  have hb3 := hb1.trans (hb2.mono hb1.size)
  have h2 := HTO.out a3 cap3 w2 H3'.out
  clear hb1 hb2 H3 hown3 HTO
  go_wp2_with fail
  refine h2.mono ?_
  clear h2
  rintro e w3 ⟨v5, rfl, hown5, hb4⟩
  have hown3 := owns_below hown3' hb4
  have H3 : Hid (ExtsIn w3 a3 (E qs)) := H3'.out.below hb4
  have hb5 := hb3.trans (hb4.mono hb3.size)
  obtain ⟨a5, cap5, rfl, j1, hp5⟩ := ints_at hown5
  have H5 : PtrsIn w3 a5 (trim qs) := fun h0 => by
    obtain ⟨g, hg, h6, h7⟩ := hp5 h0
    exact ⟨g, 0, hg, h6, h7⟩
  rw [← HT.out] at hown5 ⊢
  have h3 := HFR.out a5 cap5 w3 H5
  clear hb3 hb4 H3' hown3' hp5 j1 H5 HFR
  go_wp2_with fail
  refine h3.mono ?_
  clear h3
  rintro e w4 ⟨v7, rfl, hown7, hb6⟩
  have hown3' := owns_below hown3 hb6
  have hown5' := owns_below hown5 hb6
  have H3' : Hid (ExtsIn w4 a3 (E qs)) := H3.out.below hb6
  have hb7 := hb5.trans (hb6.mono hb5.size)
  have HP4 : Hid (PtrsIn w4 a qs) := HIN.out.below hb7
  rw [← HLE.out] at hown7
  clear hb5 hb6 H3 hown3 hown5
  have O3 : Hid _ := hown3'
  have O5 : Hid _ := hown5'
  have O7 : Hid _ := hown7
  clear hown3' hown5' hown7
  go_wp2
  go_loopw [9, 10] (fun vc vi wr => ∃ k c n : Nat, k ≤ N ∧ c ≤ k ∧ vi = .int .i64 k ∧ vc = .int .i64 c ∧ Hid (c = brk (qs.take k) 0) ∧ wr = w4.drewN n) (fun _ vi _ => N - (intOf vi).toNat)
  case atStart => exact ⟨0, 0, 0, Nat.zero_le _, Nat.le_refl _, rfl, rfl, rfl, rfl⟩
  case round =>
    obtain ⟨k, c, n, hk, hc, rfl, rfl, HC, rfl⟩ := hrel
    by_cases hlt : k < N
    · have hkq : k < qs.length := by have := HN.out; omega
      obtain ⟨b, off, rfl, hb, hcell⟩ := HP4.out (by omega)
      have HCELL : Hid (Ptrs w4 b off qs) := hcell
      obtain ⟨p, hp⟩ : ∃ p, p = qs[k]?.getD 0 := ⟨_, rfl⟩
      have hcx : w4.cell? ⟨b, off + k, none⟩ = some (.int .i64 (p : Int)) := by rw [hp]; exact hcell k hkq
      have hps : qs[k]? = some p := by rw [hp, List.getElem?_eq_getElem hkq]; rfl
      have hpd := HV.out.data k p hps
      have hp480 : p < 480 := by omega
      clear hp hpd hcell
      by_cases hp0 : p = 0
      · have HC2 : Hid (c = brk (qs.take (k + 1)) 0) := by
          exact brk_keep hps (.inl hp0) HC.out
        have t1 : ((p : Int) != 0) = false := by simpa using hp0
        clear hp0 hps HCELL HC hkq
        go_wp2_with fail
        go_quiet (fail)
        go_wp2
        go_roundw
        case rel => exact ⟨k + 1, c, _, by omega, by omega, by go_num, rfl, HC2, rfl⟩
        case measure => simp [intOf]; omega
      · have t1 : ((p : Int) != 0) = true := by simpa using hp0
        by_cases hk0 : k = 0
        · have HC2 : Hid (c + 1 = brk (qs.take (k + 1)) 0) := by
            exact brk_more hps hp0 (.inl hk0) HC.out
          have t2 : ((k : Int) == 0) = true := by simpa using hk0
          clear hp0 hps HCELL HC hkq hk0
          go_wp2_with fail
          go_quiet (fail)
          go_wp2
          go_roundw
          case rel => exact ⟨k + 1, c + 1, _, by omega, by omega, by go_num, by go_num, HC2, rfl⟩
          case measure => simp [intOf]; omega
        · have t2 : ((k : Int) == 0) = false := by simpa using hk0
          obtain ⟨m, hm⟩ : ∃ m, k = m + 1 := ⟨k - 1, by omega⟩
          obtain ⟨q, hqe⟩ : ∃ q, q = qs[m]?.getD 0 := ⟨_, rfl⟩
          have hcq : w4.cell? ⟨b, off + m, none⟩ = some (.int .i64 (q : Int)) := by rw [hqe]; exact HCELL.out m (by omega)
          have hqs : qs[m]? = some q := by rw [hqe, List.getElem?_eq_getElem (show m < qs.length by omega)]; rfl
          have hqd := HV.out.data m q hqs
          have hq480 : q < 480 := by omega
          have q1 : IntKind.i64.wrap ((k : Int) - 1) = (k : Int) - 1 := IntWalk.i64_in _ (by omega)
          have q2 : ((k : Int) - 1).toNat = m := by omega
          have q3 : 0 ≤ (k : Int) - 1 := by omega
          have q4 : (k : Int) - 1 < (N : Int) := by omega
          have q5 : IntKind.i64.wrap ((q : Int) + 1) = (q : Int) + 1 := IntWalk.i64_in _ (by omega)
          have HM : Hid (k = m + 1) := hm
          clear hqe hqd hm
          by_cases hbr : q = 0 ∨ p ≠ q + 1
          · have HC2 : Hid (c + 1 = brk (qs.take (k + 1)) 0) := by
              exact brk_more hps hp0 (.inr ⟨m, q, HM.out, hqs, hbr⟩) HC.out
            clear hps hqs HC hkq hp0 hk0 HCELL
            by_cases hq0 : q = 0
            · have t3 : ((q : Int) == 0) = true := by simpa using hq0
              clear hbr hq0
              go_wp2_with fail
              go_quiet (fail)
              go_wp2
              go_roundw
              case rel => exact ⟨k + 1, c + 1, _, by omega, by omega, by go_num, by go_num, HC2, rfl⟩
              case measure => simp [intOf]; omega
            · have t3 : ((q : Int) == 0) = false := by simpa using hq0
              have t4 : ((p : Int) != (q : Int) + 1) = true := by simp; omega
              clear hbr hq0
              go_wp2_with fail
              go_quiet (fail)
              go_wp2
              go_roundw
              case rel => exact ⟨k + 1, c + 1, _, by omega, by omega, by go_num, by go_num, HC2, rfl⟩
              case measure => simp [intOf]; omega
          · have HC2 : Hid (c = brk (qs.take (k + 1)) 0) := by
              exact brk_keep hps (.inr ⟨m, q, HM.out, hqs, hbr⟩) HC.out
            have t3 : ((q : Int) == 0) = false := by simp; omega
            have t4 : ((p : Int) != (q : Int) + 1) = false := by simp; omega
            clear hps hqs HC hkq hp0 hk0 HCELL hbr
            go_wp2_with fail
            go_quiet (fail)
            go_wp2
            go_roundw
            case rel => exact ⟨k + 1, c, _, by omega, by omega, by go_num, rfl, HC2, rfl⟩
            case measure => simp [intOf]; omega
    · obtain rfl : k = N := by omega
      obtain rfl : c = L := by rw [HC.out, HL.out]
      have hb8 : Below w.heap.size w (w4.drewN n) := below_drewN hb7 n
      have hbd : Below w4.heap.size w4 (w4.drewN n) := below_drewN (Below.refl _ _) n
      have h4 := HTR.out _ hb8
      clear HC HL HP4 HTR hb7
      go_wp2_with fail
      refine h4.mono ?_
      clear h4
      rintro e w5 ⟨v13, rfl, hown13, hb9⟩
      have hb10 := hb8.trans (hb9.mono hb8.size)
      have hbe := hbd.trans (hb9.mono hbd.size)
      have h5 := HIE.out _ _ _ _ w5 (owns_below O5.out hbe) (by rw [HT.out]; exact hown13)
      clear hown13 hb8 hb9 hbd HIE
      go_wp2_with fail
      refine h5.mono ?_
      clear h5
      rintro e w6 ⟨rfl, hb11⟩
      have hb12 := hb10.trans (hb11.mono hb10.size)
      have hbf := hbe.trans (hb11.mono hbe.size)
      have h6 := HSE.out _ _ _ _ w6 (owns_below O7.out hbf) (owns_below O3.out hbf)
      clear hb10 hb11 hbe HSE
      go_wp2_with fail
      refine h6.mono ?_
      clear h6
      rintro e w7 ⟨rfl, hb13⟩
      have hb14 := hb12.trans (hb13.mono hb12.size)
      have hbg := hbf.trans (hb13.mono hbf.size)
      have h7 := HSO.out a3 cap3 w7 (H3'.out.below hbg)
      clear hb12 hb13 hbf HSO
      go_wp2_with fail
      refine h7.mono ?_
      clear h7
      rintro e w8 ⟨rfl, hb15⟩
      have hb16 := hb14.trans (hb15.mono hb14.size)
      clear hb14 hb15 hbg
      go_wp2
      go_ret
      exact ⟨rfl, hb16⟩
theorem ExtentBack_walk (a : Option Addr) (len cap : Nat) (zs : List Int) (w : World) (h : CameIn w a len cap zs) :
    Calls Try.prog 4 #[.slice a len cap] w fun e w' => e = .returned (.bool true) ∧ Below w.heap.size w w' := by
  have hi := came_ints h
  have hc := came_cap h
  cases hv : valid zs len
  · exact ExtentBack_no a len cap zs w hi hv
  · obtain ⟨qs, rfl, hq, hp⟩ := ints_ptrs hi hv
    exact ExtentBack_yes a cap zs qs w hc hi hv hq hp
end Go.Proofs.Ytbelfapnjjeclaa
