/- The walk of the law ExtentHalves (printed by wip/tools/halves.py): whatever slice of numbers and whatever number, it returns true and writes nothing that was there. No condition. -/
import Derived.Test.YtbelfapnjjeclaaCut
namespace Go.Proofs.Ytbelfapnjjeclaa
open Go.RowKit Go.Maps

theorem nz_append (l m : List Nat) : nz (l ++ m) = nz l + nz m := by
  induction l with
  | nil => simp [nz]
  | cons x l ih => rw [List.cons_append, nz, nz, ih]; omega

theorem nz_next {qs : List Nat} {i p : Nat} (hp : qs[i]? = some p) : nz (qs.take (i + 1)) = nz (qs.take i) + if p ≠ 0 then 1 else 0 := by
  obtain ⟨hi, he⟩ := List.getElem?_eq_some_iff.1 hp
  rw [List.take_succ_eq_append_getElem hi, he, nz_append]; simp [nz]

theorem gtot_drop (gs : List (Nat × Nat)) (j : Nat) (hj : j < gs.length) : gtot (gs.drop j) = gs[j].2 + gtot (gs.drop (j + 1)) := by
  rw [List.drop_eq_getElem_cons hj]; unfold gtot; rw [List.map_cons, List.sum_cons]

theorem PtrsIn.take {w : World} {a : Option Addr} {qs : List Nat} (h : PtrsIn w a qs) (c : Nat) : PtrsIn w a (qs.take c) := fun h0 => by
  obtain ⟨b, off, rfl, h1, h2⟩ := h (by rw [List.length_take] at h0; omega)
  exact ⟨b, off, rfl, h1, h2.take c⟩

/-- Cut of no extents: whatever the number. -/
theorem Cut_nil (c : Int) (w : World) : Calls Try.prog 15 #[.slice none 0 0, .int .i64 c] w fun e w' => (∃ x y z, e = .returned (.tuple #[x, y, .int .i64 z])) ∧ Below w.heap.size w w' := by
  have hin : ExtsIn w none [] := fun i hi => absurd hi (by simp)
  by_cases hc : c < 0 ∨ 96 < c
  · refine (Cut_no [] none 0 c hc w hin (by simp) trivial).mono ?_
    rintro e w' ⟨rfl, hb⟩
    exact ⟨⟨_, _, _, rfl⟩, hb⟩
  · obtain ⟨n, rfl⟩ := Int.eq_ofNat_of_zero_le (show 0 ≤ c by omega)
    refine (Cut_yes [] none 0 n (by omega) w hin (by simp) trivial).mono ?_
    rintro e w' ⟨a, cap, v, gs, rfl, _, _, _, _, _, hb⟩
    exact ⟨⟨_, _, _, rfl⟩, hb⟩

set_option maxRecDepth 100000 in
set_option maxHeartbeats 1600000 in
theorem ExtentHalves_no (a : Option Addr) (len cap : Nat) (zs : List Int) (c : Int) (w : World) (hi : IntsIn w a len zs) (hv : valid zs len = false) :
    Calls Try.prog 5 #[.slice a len cap, .int .i64 c] w fun e w' => e = .returned (.bool true) ∧ Below w.heap.size w w' := by
  have h1 := From_no (cap := cap) hi hv
  clear hi hv
  go_enter Try.func5, Try.ntmps5
  go_wp2_with fail
  refine h1.mono ?_
  clear h1
  rintro e w1 ⟨rfl, hb1⟩
  go_wp2_with fail
  refine (Cut_nil c _).mono ?_
  rintro e w2 ⟨⟨x, y, z, rfl⟩, hb2⟩
  have hb3 := hb1.trans (hb2.mono hb1.size)
  clear hb1 hb2
  go_wp2_with fail
  refine (awake_yes _).mono ?_
  rintro e w3 ⟨rfl, hb4⟩
  have hb5 := hb3.trans (hb4.mono hb3.size)
  clear hb3 hb4
  go_wp2_with fail
  refine (awake_yes _).mono ?_
  rintro e w4 ⟨rfl, hb6⟩
  have hb7 := hb5.trans (hb6.mono hb5.size)
  clear hb5 hb6
  go_wp2
  go_ret
  exact ⟨rfl, hb7⟩

set_option maxRecDepth 100000 in
set_option maxHeartbeats 1600000 in
theorem ExtentHalves_out (a : Option Addr) (cap : Nat) (zs : List Int) (qs : List Nat) (c : Int) (hc : c < 0 ∨ 96 < c) (w : World) (hi : IntsIn w a qs.length zs) (hv : valid zs qs.length = true) (hq : Valid qs) (hp : PtrsIn w a qs) :
    Calls Try.prog 5 #[.slice a qs.length cap, .int .i64 c] w fun e w' => e = .returned (.bool true) ∧ Below w.heap.size w w' := by
  have h1 := From_yes (cap := cap) hi hv hq hp
  have HCU : Hid (∀ a1 cap1 w1, ExtsIn w1 a1 (E qs) → Calls Try.prog 15 #[.slice a1 (E qs).length cap1, .int .i64 c] w1 fun e w' => e = .returned (.tuple #[.slice none 0 0, .slice none 0 0, .int .i64 1]) ∧ Below w1.heap.size w1 w') := fun a1 cap1 w1 h => Cut_no (E qs) a1 cap1 c hc w1 h (len_E_le hq) (sok_E hq)
  obtain ⟨L, hL⟩ : ∃ L, L = (E qs).length := ⟨_, rfl⟩
  have HLE : Hid (L = (E qs).length) := hL
  rw [← hL] at HCU
  generalize qs.length = len at *
  clear hi hv hq hp hc hL
  go_enter Try.func5, Try.ntmps5
  go_wp2_with fail
  refine h1.mono ?_
  clear h1
  rintro e w1 ⟨v3, rfl, hown3, hb1⟩
  obtain ⟨a3, cap3, rfl, hin3⟩ := exts_in hown3
  rw [← HLE.out] at hown3 ⊢
  have h2 := HCU.out a3 cap3 w1 hin3
  clear hown3 hin3 HCU
  go_wp2_with fail
  refine h2.mono ?_
  clear h2
  rintro e w2 ⟨rfl, hb2⟩
  have hb3 := hb1.trans (hb2.mono hb1.size)
  clear hb1 hb2
  go_wp2_with fail
  refine (awake_yes _).mono ?_
  rintro e w3 ⟨rfl, hb4⟩
  have hb5 := hb3.trans (hb4.mono hb3.size)
  clear hb3 hb4
  go_wp2_with fail
  refine (awake_yes _).mono ?_
  rintro e w4 ⟨rfl, hb6⟩
  have hb7 := hb5.trans (hb6.mono hb5.size)
  clear hb5 hb6
  go_wp2
  go_ret
  exact ⟨rfl, hb7⟩

set_option maxRecDepth 100000 in
set_option maxHeartbeats 1600000 in
theorem ExtentHalves_yes (a : Option Addr) (cap : Nat) (zs : List Int) (qs : List Nat) (c : Nat) (hc : c ≤ 96) (w : World) (hcap : qs.length ≤ cap) (hi : IntsIn w a qs.length zs) (hv : valid zs qs.length = true) (hq : Valid qs) (hp : PtrsIn w a qs) :
    Calls Try.prog 5 #[.slice a qs.length cap, .int .i64 (c : Int)] w fun e w' => e = .returned (.bool true) ∧ Below w.heap.size w w' := by
  have h1 := From_yes (cap := cap) hi hv hq hp
  have hqc := valid_take hq c
  have hl96 := hq.len
  have HIN : Hid (PtrsIn w a qs) := hp
  have HCU : Hid (∀ a1 cap1 w1, ExtsIn w1 a1 (E qs) → Calls Try.prog 15 #[.slice a1 (E qs).length cap1, .int .i64 (c : Int)] w1 (CutPost w1 (E (qs.take c)) (nz qs) (E qs).length)) := fun a1 cap1 w1 h => by
    have := Cut_yes (E qs) a1 cap1 c hc w1 h (len_E_le hq) (sok_E hq)
    rw [cutE_E, tot_E] at this; exact this
  have HTO : Hid (∀ a1 cap1 w1, ExtsIn w1 a1 (E (qs.take c)) → Calls Try.prog 11 #[.slice a1 (E (qs.take c)).length cap1] w1 (ToPost w1 (trim (qs.take c)))) := fun a1 cap1 w1 h => by
    have := To_yes (E (qs.take c)) a1 cap1 w1 h (len_E_le hqc) (sok_E hqc)
    rw [trim_arr hqc] at this; exact this
  have HIE : Hid (∀ B1 B2 v1 v2 w1, w1.ownsRow B1 3 1 v1 (trim (qs.take c)).length (intsV (trim (qs.take c))) → w1.ownsRow B2 3 1 v2 (trim (qs.take c)).length (intsV (trim (qs.take c))) → Calls Try.prog 12 #[v1, v2] w1 fun e w' => e = .returned (.bool true) ∧ Below w1.heap.size w1 w') := fun B1 B2 v1 v2 w1 => ints_yes (trim (qs.take c)) (by have := (valid_trim hqc).len; omega) B1 B2 v1 v2 w1
  have HTR : Hid (∀ w1 m, m = (qs.take c).length → Below w.heap.size w w1 → Calls Try.prog 13 #[.slice a m cap] w1 (IntsPost w1 (trim (qs.take c)))) := fun w1 m hm hb => by
    subst hm
    exact TrimR_in (by have := hqc.len; omega) (by rw [List.length_take]; omega) ((hp.take c).below hb)
  obtain ⟨N, hN⟩ : ∃ N, N = qs.length := ⟨_, rfl⟩
  have HN : Hid (N = qs.length) := hN
  obtain ⟨L, hL⟩ : ∃ L, L = (E qs).length := ⟨_, rfl⟩
  have HLE : Hid (L = (E qs).length) := hL
  have hL96 : L ≤ 96 := by rw [hL]; exact len_E_le hq
  obtain ⟨K, hK⟩ : ∃ K, K = (E (qs.take c)).length := ⟨_, rfl⟩
  have HKE : Hid (K = (E (qs.take c)).length) := hK
  rw [← hN] at h1 hl96 hcap ⊢
  rw [← hL] at HCU
  rw [← hK] at HTO
  clear hN hL hK hi hv hq hp hqc
  have ha0 : a = none → N = 0 := fun h => by
    by_cases h0 : 0 < N
    · obtain ⟨b, off, hb, _⟩ := HIN.out (by rw [← HN.out]; exact h0)
      rw [h] at hb; cases hb
    · omega
  have HA0 : Hid (a = none → N = 0) := ha0
  clear ha0
  go_enter Try.func5, Try.ntmps5
  go_wp2_with fail
  refine h1.mono ?_
  clear h1
  rintro e w1 ⟨v3, rfl, hown3, hb1⟩
  obtain ⟨a3, cap3, rfl, hin3⟩ := exts_in hown3
  rw [← HLE.out] at hown3 ⊢
  have h2 := HCU.out a3 cap3 w1 hin3
  clear hown3 hin3 HCU
  go_wp2_with fail
  refine h2.mono ?_
  clear h2
  rintro e w2 ⟨a9, cap9, v9, gs, rfl, hin9, hown9, hgt, hgl, hg480, hb2⟩
  obtain ⟨a8, cap8, rfl, hr8⟩ := runs_in hown9
  rw [← HKE.out]
  have H9 : Hid (ExtsIn w2 a9 (E (qs.take c))) := hin9
  have H8 : Hid (RunsIn w2 a8 gs) := hr8
  have HGT : Hid (gtot gs + nz (qs.take c) = nz qs) := by rw [tot_E] at hgt; exact hgt
  have HG4 : Hid (∀ r ∈ gs, r.2 ≤ 480) := hg480
  obtain ⟨G, hG⟩ : ∃ G, G = gs.length := ⟨_, rfl⟩
  have HGL : Hid (G = gs.length) := hG
  rw [← hG] at hgl ⊢
  have hb3 := hb1.trans (hb2.mono hb1.size)
  clear hb1 hb2 hin9 hr8 hgt hg480 hG hown9
  go_wp2_with fail
  refine (awake_yes _).mono ?_
  rintro e w3 ⟨rfl, hb4⟩
  have hb5 := hb3.trans (hb4.mono hb3.size)
  have H9' : Hid (ExtsIn w3 a9 (E (qs.take c))) := H9.out.below hb4
  have H8' : Hid (RunsIn w3 a8 gs) := H8.out.below hb4
  have h3 := HTO.out a9 cap9 w3 H9'.out
  clear hb3 hb4 H9 H8 HTO
  go_wp2_with fail
  refine h3.mono ?_
  clear h3
  rintro e w5 ⟨v10, rfl, hown10, hb6⟩
  have hb7 := hb5.trans (hb6.mono hb5.size)
  have H8 : Hid (RunsIn w5 a8 gs) := H8'.out.below hb6
  have HP5 : Hid (PtrsIn w5 a qs) := HIN.out.below hb7
  have H10 : Hid _ := hown10
  clear H9' H8' hb5 hb6 HIN hown10
  by_cases hcn : N < c
  · have HM : Hid (nz (qs.take c) = nz (qs.take N)) := by
      show nz (qs.take c) = nz (qs.take N)
      rw [List.take_of_length_le (by have := HN.out; omega), List.take_of_length_le (by have := HN.out; omega)]
    have HMT : Hid (N = (qs.take c).length) := by
      show N = (qs.take c).length
      rw [List.length_take, ← HN.out]; omega
    have hmn : N ≤ N := by omega
    go_wp2
    go_loopw [12, 13] (fun vc vi wr => ∃ i cnt : Nat, vi = .int .i64 i ∧ vc = .int .i64 cnt ∧ N ≤ i ∧ i ≤ N ∧ cnt ≤ i ∧ Hid (cnt + nz (qs.take N) = nz (qs.take i)) ∧ w5 = wr) (fun _ vi _ => N - (intOf vi).toNat)
    case atStart => exact ⟨N, 0, rfl, rfl, Nat.le_refl _, hmn, Nat.zero_le _, Nat.zero_add _, rfl⟩
    case round =>
      obtain ⟨i, cnt, rfl, rfl, hi1, hi2, hi3, HC, rfl⟩ := hrel
      by_cases hlt : i < N
      · have hiq : i < qs.length := by have := HN.out; omega
        obtain ⟨b, off, rfl, hb, hcell⟩ := HP5.out (by omega)
        obtain ⟨p, hp⟩ : ∃ p, p = qs[i]?.getD 0 := ⟨_, rfl⟩
        have hcx : w5.cell? ⟨b, off + i, none⟩ = some (.int .i64 (p : Int)) := by rw [hp]; exact hcell i hiq
        have hps : qs[i]? = some p := by rw [hp, List.getElem?_eq_getElem hiq]; rfl
        have hnn := nz_next hps
        rw [← HC.out] at hnn
        clear hp hps hcell hiq
        by_cases hp0 : p = 0
        · have HC2 : Hid (cnt + nz (qs.take N) = nz (qs.take (i + 1))) := by rw [hnn, if_neg (by simpa using hp0)]; rfl
          have t1 : ((p : Int) != 0) = false := by simpa using hp0
          clear hnn hp0 HC
          go_wp2
          go_roundw
          case rel => exact ⟨i + 1, cnt, by go_num, rfl, by omega, by omega, by omega, HC2, trivial⟩
          case measure => simp [intOf]; omega
        · have HC2 : Hid (cnt + 1 + nz (qs.take N) = nz (qs.take (i + 1))) := by
            show cnt + 1 + nz (qs.take N) = _
            rw [hnn, if_pos hp0]; omega
          have t1 : ((p : Int) != 0) = true := by simpa using hp0
          clear hnn hp0 HC
          go_wp2
          go_roundw
          case rel => exact ⟨i + 1, cnt + 1, by go_num, by go_num, by omega, by omega, by omega, HC2, trivial⟩
          case measure => simp [intOf]; omega
      · obtain rfl : i = N := by omega
        have HC2 : Hid (cnt = gtot (gs.drop 0)) := by
          show cnt = gtot (gs.drop 0)
          rw [List.drop_zero]
          have e1 := HC.out
          have e2 := HGT.out
          have e3 := HM.out
          have e4 : nz (qs.take i) = nz qs := by rw [HN.out, List.take_length]
          omega
        have hc96 : cnt ≤ 96 := by omega
        clear HC HGT HM
        go_wp2
        go_loopw [12, 14] (fun vc vj wr => ∃ j d : Nat, vj = .int .i64 j ∧ vc = .int .i64 d ∧ j ≤ G ∧ d ≤ 96 ∧ Hid (d = gtot (gs.drop j)) ∧ w5 = wr) (fun _ vj _ => G - (intOf vj).toNat)
        case atStart => exact ⟨0, cnt, rfl, rfl, Nat.zero_le _, hc96, HC2, rfl⟩
        case round =>
          clear HC2 hc96
          obtain ⟨j, d, rfl, rfl, hj, hd96, HD, rfl⟩ := hrel
          by_cases hjl : j < G
          · have hjg : j < gs.length := by have := HGL.out; omega
            obtain ⟨g8, rfl, hg8, hc8⟩ := H8.out j hjg
            have hgd := gtot_drop gs j hjg
            rw [← HD.out] at hgd
            have hy := HG4.out gs[j] (List.getElem_mem hjg)
            generalize gs[j] = r at hc8 hgd hy
            obtain ⟨x, y⟩ := r
            unfold runV at hc8
            simp only at hc8 hgd hy
            obtain ⟨d2, hd2⟩ : ∃ d2, d2 = gtot (gs.drop (j + 1)) := ⟨_, rfl⟩
            have HD2 : Hid (d2 = gtot (gs.drop (j + 1))) := hd2
            rw [← hd2] at hgd
            have cv : ∀ w, (convert 39 3 (.float .f64 (F (y : Int)))).run Try.prog w = .ok (.int .i64 (y : Int)) w := fun w => run_convert_float_int w 39 3 .f64 .i64 _ (y : Int) (by rw [Try.underlying39]; rfl) Try.underlying3 (toInt_F (y : Int) (by omega))
            have HGD : Hid (d = y + d2) := hgd
            have hyd : y ≤ d := by omega
            clear hd2 HD hjg hgd
            go_wp2
            go_roundw
            case rel => exact ⟨j + 1, d2, by go_num, by have := HGD.out; congr 1; omega, by omega, by have := HGD.out; omega, HD2, trivial⟩
            case measure => simp [intOf]; omega
          · obtain rfl : j = G := by omega
            have hd0 : d = 0 := by
              rw [HD.out, HGL.out, List.drop_length]; rfl
            subst hd0
            have h4 := HTR.out w5 i HMT.out hb7
            clear HD H8 HP5 HTR
            rcases a with _ | ⟨b, off, spot⟩
            · obtain rfl : i = 0 := HA0.out rfl
              clear HA0
              go_wp2_with fail
              refine h4.mono ?_
              clear h4
              rintro e w6 ⟨v13, rfl, hown13, hb9⟩
              have hb10 := hb7.trans (hb9.mono hb7.size)
              have h5 := HIE.out _ _ _ _ w6 (owns_below H10.out hb9) hown13
              clear hown13 hb9 HIE
              go_wp2_with fail
              refine h5.mono ?_
              clear h5
              rintro e w7 ⟨rfl, hb11⟩
              have hb12 := hb10.trans (hb11.mono hb10.size)
              clear hb10 hb11
              go_wp2
              go_ret
              exact ⟨rfl, hb12⟩
            · clear HA0
              go_wp2_with fail
              refine h4.mono ?_
              clear h4
              rintro e w6 ⟨v13, rfl, hown13, hb9⟩
              have hb10 := hb7.trans (hb9.mono hb7.size)
              have h5 := HIE.out _ _ _ _ w6 (owns_below H10.out hb9) hown13
              clear hown13 hb9 HIE
              go_wp2_with fail
              refine h5.mono ?_
              clear h5
              rintro e w7 ⟨rfl, hb11⟩
              have hb12 := hb10.trans (hb11.mono hb10.size)
              clear hb10 hb11
              go_wp2
              go_ret
              exact ⟨rfl, hb12⟩
  · have HM : Hid (nz (qs.take c) = nz (qs.take c)) := by
      show nz (qs.take c) = nz (qs.take c)
      rfl
    have HMT : Hid (c = (qs.take c).length) := by
      show c = (qs.take c).length
      rw [List.length_take, ← HN.out]; omega
    have hmn : c ≤ N := by omega
    go_wp2
    go_loopw [12, 13] (fun vc vi wr => ∃ i cnt : Nat, vi = .int .i64 i ∧ vc = .int .i64 cnt ∧ c ≤ i ∧ i ≤ N ∧ cnt ≤ i ∧ Hid (cnt + nz (qs.take c) = nz (qs.take i)) ∧ w5 = wr) (fun _ vi _ => N - (intOf vi).toNat)
    case atStart => exact ⟨c, 0, rfl, rfl, Nat.le_refl _, hmn, Nat.zero_le _, Nat.zero_add _, rfl⟩
    case round =>
      obtain ⟨i, cnt, rfl, rfl, hi1, hi2, hi3, HC, rfl⟩ := hrel
      by_cases hlt : i < N
      · have hiq : i < qs.length := by have := HN.out; omega
        obtain ⟨b, off, rfl, hb, hcell⟩ := HP5.out (by omega)
        obtain ⟨p, hp⟩ : ∃ p, p = qs[i]?.getD 0 := ⟨_, rfl⟩
        have hcx : w5.cell? ⟨b, off + i, none⟩ = some (.int .i64 (p : Int)) := by rw [hp]; exact hcell i hiq
        have hps : qs[i]? = some p := by rw [hp, List.getElem?_eq_getElem hiq]; rfl
        have hnn := nz_next hps
        rw [← HC.out] at hnn
        clear hp hps hcell hiq
        by_cases hp0 : p = 0
        · have HC2 : Hid (cnt + nz (qs.take c) = nz (qs.take (i + 1))) := by rw [hnn, if_neg (by simpa using hp0)]; rfl
          have t1 : ((p : Int) != 0) = false := by simpa using hp0
          clear hnn hp0 HC
          go_wp2
          go_roundw
          case rel => exact ⟨i + 1, cnt, by go_num, rfl, by omega, by omega, by omega, HC2, trivial⟩
          case measure => simp [intOf]; omega
        · have HC2 : Hid (cnt + 1 + nz (qs.take c) = nz (qs.take (i + 1))) := by
            show cnt + 1 + nz (qs.take c) = _
            rw [hnn, if_pos hp0]; omega
          have t1 : ((p : Int) != 0) = true := by simpa using hp0
          clear hnn hp0 HC
          go_wp2
          go_roundw
          case rel => exact ⟨i + 1, cnt + 1, by go_num, by go_num, by omega, by omega, by omega, HC2, trivial⟩
          case measure => simp [intOf]; omega
      · obtain rfl : i = N := by omega
        have HC2 : Hid (cnt = gtot (gs.drop 0)) := by
          show cnt = gtot (gs.drop 0)
          rw [List.drop_zero]
          have e1 := HC.out
          have e2 := HGT.out
          have e3 := HM.out
          have e4 : nz (qs.take i) = nz qs := by rw [HN.out, List.take_length]
          omega
        have hc96 : cnt ≤ 96 := by omega
        clear HC HGT HM
        go_wp2
        go_loopw [12, 14] (fun vc vj wr => ∃ j d : Nat, vj = .int .i64 j ∧ vc = .int .i64 d ∧ j ≤ G ∧ d ≤ 96 ∧ Hid (d = gtot (gs.drop j)) ∧ w5 = wr) (fun _ vj _ => G - (intOf vj).toNat)
        case atStart => exact ⟨0, cnt, rfl, rfl, Nat.zero_le _, hc96, HC2, rfl⟩
        case round =>
          clear HC2 hc96
          obtain ⟨j, d, rfl, rfl, hj, hd96, HD, rfl⟩ := hrel
          by_cases hjl : j < G
          · have hjg : j < gs.length := by have := HGL.out; omega
            obtain ⟨g8, rfl, hg8, hc8⟩ := H8.out j hjg
            have hgd := gtot_drop gs j hjg
            rw [← HD.out] at hgd
            have hy := HG4.out gs[j] (List.getElem_mem hjg)
            generalize gs[j] = r at hc8 hgd hy
            obtain ⟨x, y⟩ := r
            unfold runV at hc8
            simp only at hc8 hgd hy
            obtain ⟨d2, hd2⟩ : ∃ d2, d2 = gtot (gs.drop (j + 1)) := ⟨_, rfl⟩
            have HD2 : Hid (d2 = gtot (gs.drop (j + 1))) := hd2
            rw [← hd2] at hgd
            have cv : ∀ w, (convert 39 3 (.float .f64 (F (y : Int)))).run Try.prog w = .ok (.int .i64 (y : Int)) w := fun w => run_convert_float_int w 39 3 .f64 .i64 _ (y : Int) (by rw [Try.underlying39]; rfl) Try.underlying3 (toInt_F (y : Int) (by omega))
            have HGD : Hid (d = y + d2) := hgd
            have hyd : y ≤ d := by omega
            clear hd2 HD hjg hgd
            go_wp2
            go_roundw
            case rel => exact ⟨j + 1, d2, by go_num, by have := HGD.out; congr 1; omega, by omega, by have := HGD.out; omega, HD2, trivial⟩
            case measure => simp [intOf]; omega
          · obtain rfl : j = G := by omega
            have hd0 : d = 0 := by
              rw [HD.out, HGL.out, List.drop_length]; rfl
            subst hd0
            have h4 := HTR.out w5 c HMT.out hb7
            clear HD H8 HP5 HTR
            rcases a with _ | ⟨b, off, spot⟩
            · obtain rfl : i = 0 := HA0.out rfl
              obtain rfl : c = 0 := by omega
              clear HA0
              go_wp2_with fail
              refine h4.mono ?_
              clear h4
              rintro e w6 ⟨v13, rfl, hown13, hb9⟩
              have hb10 := hb7.trans (hb9.mono hb7.size)
              have h5 := HIE.out _ _ _ _ w6 (owns_below H10.out hb9) hown13
              clear hown13 hb9 HIE
              go_wp2_with fail
              refine h5.mono ?_
              clear h5
              rintro e w7 ⟨rfl, hb11⟩
              have hb12 := hb10.trans (hb11.mono hb10.size)
              clear hb10 hb11
              go_wp2
              go_ret
              exact ⟨rfl, hb12⟩
            · clear HA0
              go_wp2_with fail
              refine h4.mono ?_
              clear h4
              rintro e w6 ⟨v13, rfl, hown13, hb9⟩
              have hb10 := hb7.trans (hb9.mono hb7.size)
              have h5 := HIE.out _ _ _ _ w6 (owns_below H10.out hb9) hown13
              clear hown13 hb9 HIE
              go_wp2_with fail
              refine h5.mono ?_
              clear h5
              rintro e w7 ⟨rfl, hb11⟩
              have hb12 := hb10.trans (hb11.mono hb10.size)
              clear hb10 hb11
              go_wp2
              go_ret
              exact ⟨rfl, hb12⟩

theorem ExtentHalves_walk (a : Option Addr) (len cap : Nat) (zs : List Int) (c : Int) (w : World) (h : CameIn w a len cap zs) :
    Calls Try.prog 5 #[.slice a len cap, .int .i64 c] w fun e w' => e = .returned (.bool true) ∧ Below w.heap.size w w' := by
  have hi := came_ints h
  have hc := came_cap h
  cases hv : valid zs len
  · exact ExtentHalves_no a len cap zs c w hi hv
  · obtain ⟨qs, rfl, hq, hp⟩ := ints_ptrs hi hv
    by_cases hn : c < 0 ∨ 96 < c
    · exact ExtentHalves_out a cap zs qs c hn w hi hv hq hp
    · obtain ⟨n, rfl⟩ := Int.eq_ofNat_of_zero_le (show 0 ≤ c by omega)
      exact ExtentHalves_yes a cap zs qs n (by omega) w hc hi hv hq hp
end Go.Proofs.Ytbelfapnjjeclaa
