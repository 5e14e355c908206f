/- The walk of flags.Down: at a slice that has not 60 bytes, at bounds out of range, and at 60 bytes that lie in memory: the runs of blocks whose flags are down, as the plain law has them. No other condition. -/
import Derived.Test.YtoiafcelnohcfaaMade
import Derived.ScopeJumps
import Derived.WalkMore
namespace Go.Proofs.Ytoiafcelnohcfaa
open Go.RowKit

/-- What holds at every jump to the label. -/
def DownJ (zs : List Int) (b off cap fr to : Nat) (w : World) (a : Act) (w' : World) : Prop :=
  ∃ (k : Nat) (l : List (Nat × Nat)) (v u3 u4 u5 u6 u7 u10 u11 u12 u13 u14 u15 u16 u17 u18 u19 u20 u21 u22 u23 u24 u25 u26 u27 u28 u29 u30 u31 u32 u33 u34 u35 u36 u37 u38 u39 u40 u41 u42 u43 u44 u45 u46 u47 u48 u49 u50 u51 u52 u53 u54 u55 u56 u57 u58 u59 u60 u61 u62 u63 u64 u65 u66 u67 : Value), a = { tmps := #[.slice (some ⟨b, off, none⟩) 60 cap, .int .i64 fr, .int .i64 to, u3, u4, u5, u6, u7, v, .int .i64 k, u10, u11, u12, u13, u14, u15, u16, u17, u18, u19, u20, u21, u22, u23, u24, u25, u26, u27, u28, u29, u30, u31, u32, u33, u34, u35, u36, u37, u38, u39, u40, u41, u42, u43, u44, u45, u46, u47, u48, u49, u50, u51, u52, u53, u54, u55, u56, u57, u58, u59, u60, u61, u62, u63, u64, u65, u66, u67], defers := [] } ∧
    k ≤ to ∧ l.length ≤ k ∧ Hid (l ++ gaps (fun n => !bit zs n) k to = gaps (fun n => !bit zs n) fr to) ∧ w'.ownsRow w.heap.size 32 1 v l.length (runsV l) ∧ Below w.heap.size w w'

theorem downJ_mk {zs : List Int} {b off cap fr to : Nat} {w : World} {w' : World} (k : Nat) (l : List (Nat × Nat)) {v u3 u4 u5 u6 u7 u10 u11 u12 u13 u14 u15 u16 u17 u18 u19 u20 u21 u22 u23 u24 u25 u26 u27 u28 u29 u30 u31 u32 u33 u34 u35 u36 u37 u38 u39 u40 u41 u42 u43 u44 u45 u46 u47 u48 u49 u50 u51 u52 u53 u54 u55 u56 u57 u58 u59 u60 u61 u62 u63 u64 u65 u66 u67 : Value} (h1 : k ≤ to) (h2 : l.length ≤ k)
    (h3 : Hid (l ++ gaps (fun n => !bit zs n) k to = gaps (fun n => !bit zs n) fr to)) (h4 : w'.ownsRow w.heap.size 32 1 v l.length (runsV l)) (h5 : Below w.heap.size w w') :
    DownJ zs b off cap fr to w { tmps := #[.slice (some ⟨b, off, none⟩) 60 cap, .int .i64 fr, .int .i64 to, u3, u4, u5, u6, u7, v, .int .i64 k, u10, u11, u12, u13, u14, u15, u16, u17, u18, u19, u20, u21, u22, u23, u24, u25, u26, u27, u28, u29, u30, u31, u32, u33, u34, u35, u36, u37, u38, u39, u40, u41, u42, u43, u44, u45, u46, u47, u48, u49, u50, u51, u52, u53, u54, u55, u56, u57, u58, u59, u60, u61, u62, u63, u64, u65, u66, u67], defers := [] } w' :=
  ⟨k, l, v, u3, u4, u5, u6, u7, u10, u11, u12, u13, u14, u15, u16, u17, u18, u19, u20, u21, u22, u23, u24, u25, u26, u27, u28, u29, u30, u31, u32, u33, u34, u35, u36, u37, u38, u39, u40, u41, u42, u43, u44, u45, u46, u47, u48, u49, u50, u51, u52, u53, u54, u55, u56, u57, u58, u59, u60, u61, u62, u63, u64, u65, u66, u67, rfl, h1, h2, h3, h4, h5⟩

theorem up_is (zs : List Int) (hf : Fits zs) (b off cap n : Nat) (hn : n < 480) {x : Bool} (hx : bit zs n = x) (w : World) (hc : Lies w b off zs) :
    Calls Try.prog 17 #[.slice (some ⟨b, off, none⟩) 60 cap, .int .i64 n] w fun e w' => e = .returned (.bool x) ∧ w = w' := by
  subst hx
  exact up_any zs hf b off cap n hn w hc

/-- How far the runs are. -/
def downMu (to : Nat) (a : Act) (_ : World) : Nat := to - (intOf (a.tmps.getD 9 undef)).toNat

set_option maxHeartbeats 400000 in
theorem Down_form (a : Option Addr) (len cap : Nat) (fr to : Int) (hl2 : ((len : Int) != 60) = true) (w : World) :
    Calls Try.prog 9 #[.slice a len cap, .int .i64 fr, .int .i64 to] w fun e w' => e = .returned (.tuple #[.slice none 0 0, .int .i64 2]) ∧ w = w' := by
  go_enter Try.func9, Try.ntmps9
  go_wp2
  go_step3
  go_wp2
  try rw [Exit.noGoto_ret]
  go_ret2
  exact ⟨rfl, rfl⟩

set_option maxHeartbeats 400000 in
theorem Down_arg (a : Option Addr) (cap : Nat) (fr to : Int) (ht : fr < 0 ∨ to < fr ∨ 480 < to) (w : World) :
    Calls Try.prog 9 #[.slice a 60 cap, .int .i64 fr, .int .i64 to] w fun e w' => e = .returned (.tuple #[.slice none 0 0, .int .i64 1]) ∧ w = w' := by
  by_cases h : fr < 0
  · go_enter Try.func9, Try.ntmps9
    go_wp2
    go_step3
    go_wp2
    try rw [Exit.noGoto_ret]
    go_ret2
    exact ⟨rfl, rfl⟩
  · by_cases h1 : to < fr
    · go_enter Try.func9, Try.ntmps9
      go_wp2
      go_step3
      go_wp2
      try rw [Exit.noGoto_ret]
      go_ret2
      exact ⟨rfl, rfl⟩
    · have h2 : 480 < to := by omega
      go_enter Try.func9, Try.ntmps9
      go_wp2
      go_step3
      go_wp2
      try rw [Exit.noGoto_ret]
      go_ret2
      exact ⟨rfl, rfl⟩

set_option maxRecDepth 100000 in
set_option maxHeartbeats 4000000 in
theorem Down_ok (zs : List Int) (hf : Fits zs) (b off cap fr to : Nat) (hft : fr ≤ to) (ht : to ≤ 480) (w : World) (hb : b < w.heap.size) (hc : Lies w b off zs) :
    Calls Try.prog 9 #[.slice (some ⟨b, off, none⟩) 60 cap, .int .i64 fr, .int .i64 to] w fun e w' => DownPost w (gaps (fun n => !bit zs n) fr to) e w' := by
  obtain ⟨i0, hi, hz0, hz1, hz2⟩ := info_parts Try.info32
  have HC : Hid (∀ wr : World, Below w.heap.size w wr → Lies wr b off zs) := fun wr hbel i hi => by rw [hbel.cell (by exact hb)]; exact hc i hi
  clear hc
  have d1 : decide ((fr : Int) < 0) = false := by simp
  have d2 : decide (to < fr) = false := by simp; omega
  have d3 : decide (480 < (to : Int)) = false := by simp; omega
  go_enter Try.func9, Try.ntmps9
  go_wp2
  refine wp_scope_jumps 0 (DownJ zs b off cap fr to w) (downMu to) rfl ?_ ?_
  · go_wp2
    go_step3
    obtain ⟨l, hl⟩ : ∃ l : List (Nat × Nat), l = [] := ⟨_, rfl⟩
    have hown : w.ownsRow w.heap.size 32 1 (.slice none 0 0) l.length (runsV l) := by rw [hl]; exact World.ownsRow_nil _ _ _ _
    have hbel : Below w.heap.size w w := Below.refl _ _
    have HG : Hid (l ++ gaps (fun n => !bit zs n) fr to = gaps (fun n => !bit zs n) fr to) := by rw [hl]; rfl
    have hk2 : fr ≤ to := hft
    have hll : l.length ≤ fr := by rw [hl]; simp
    have hsz : w.heap.size ≤ w.heap.size := Nat.le_refl _
    clear hl
    go_wp2

    go_loop [9] (fun i => ∃ k : Nat, fr ≤ k ∧ k ≤ to ∧ i = .int .i64 k ∧ Hid (l ++ gaps (fun n => !bit zs n) k to = gaps (fun n => !bit zs n) fr to)) (fun i => to - (intOf i).toNat)
    case atStart => exact ⟨fr, by omega, hk2, rfl, HG⟩
    case round =>
      obtain ⟨k, hk3, hk4, rfl, HG1⟩ := hrel
      by_cases hkt : k < to
      · cases hbk : bit zs k
        · have HK : Hid (bit zs k = false) := hbk
          have hne : ((k : Int) == (to : Int)) = false := by simp; omega
          clear hbk
          go_wp2_with (go_at_call 17; refine (up_is zs hf b off cap k (by omega) HK.out w (HC.out w hbel)).mono ?_; rintro e w' ⟨rfl, rfl⟩)
          go_loop [9] (fun i => ∃ m : Nat, k ≤ m ∧ m ≤ to ∧ i = .int .i64 m ∧ Hid (l ++ G (fun n => !bit zs n) to (to - m) k m = gaps (fun n => !bit zs n) fr to)) (fun i => to - (intOf i).toNat)
          case atStart => exact ⟨k, by omega, by omega, rfl, HG1⟩
          case round =>
            obtain ⟨m, hm1, hm2, rfl, HG2⟩ := hrel
            by_cases hon : m < to ∧ bit zs m = false
            · obtain ⟨hmt, hbm⟩ := hon
              have HG3 : Hid (l ++ G (fun n => !bit zs n) to (to - (m + 1)) k (m + 1) = gaps (fun n => !bit zs n) fr to) := by
                have := HG2.out
                rw [G_has (fun n => !bit zs n) to k m hmt (by simp [hbm])] at this
                exact this
              have HM : Hid (bit zs m = false) := hbm
              clear hbm
              go_wp2_with (go_at_call 17; refine (up_is zs hf b off cap m (by omega) HM.out w (HC.out w hbel)).mono ?_; rintro e w' ⟨rfl, rfl⟩)
              go_round
              case rel => exact ⟨m + 1, by omega, by omega, by go_num, HG3⟩
              case measure => simp [intOf]; omega
            · have hkm : k < m := by
                rcases Nat.lt_or_ge k m with h | h
                · exact h
                · obtain rfl : m = k := by omega
                  exact absurd ⟨hkt, HK.out⟩ hon
              have HG3 : Hid ((l ++ [(k, m - k)]) ++ gaps (fun n => !bit zs n) m to = gaps (fun n => !bit zs n) fr to) := by
                have := HG2.out
                rw [G_close (fun n => !bit zs n) to k m hkm hm2 (fun h => by
                  cases hb2 : bit zs m
                  · exact absurd ⟨h, hb2⟩ hon
                  · simp)] at this
                show (l ++ [(k, m - k)]) ++ _ = _
                rw [← this]; simp
              have hsnoc := runsV_snoc l (show k ≤ m by omega)
              have HS : Hid _ := hsnoc
              clear hsnoc
              by_cases hmt : m < to
              · have hbm : bit zs m = true := by
                  cases hb2 : bit zs m
                  · exact absurd ⟨hmt, hb2⟩ hon
                  · rfl
                have HM : Hid (bit zs m = true) := hbm
                clear hbm hon
                go_wp2_with (first
                  | (go_at_call 17; refine (up_is zs hf b off cap m (by omega) HM.out w (HC.out w hbel)).mono ?_; rintro e w' ⟨rfl, rfl⟩)
                  | (go_at_call 18; refine (Of_yes (k : Int) ((m : Int) - (k : Int)) (by omega) (by omega) (by omega) _).mono ?_; rintro e w' ⟨rfl, rfl⟩)
                  | (refine wpList_append_lies _ rfl _ _ _ rfl w.heap.size 32 i0 _ 1 16 Try.underlying26 hi hz0 hz1 hz2 rfl (by omega) (.slice none 0 0) l.length (runsV l) rfl (hown.alloc _) ⟨w.heap.size, 0, none⟩ 1 1 [.complex .f64 (F (k : Int)) (F ((m : Int) - (k : Int)))] rfl rfl (World.news_of_block (cs := #[.complex .f64 (F (k : Int)) (F ((m : Int) - (k : Int)))]) (t := 32) (fr := (0, 0)) (heap_alloc_new w _)) (by simp [Value.oneCell']) (by omega) (by unfold maxLen; omega) (by omega) (by simp <;> omega) (w.heap.size + 1) (by simp) ?_; intro gg cp1 w1 hown1 hgrow hat1 hlt1))
                rw [HS.out] at hown1
                have hb1 := ((hbel.alloc (by omega) _)).grown hgrow (by simp <;> omega) (fun k hk => by cases hk)
                have hlen : (l ++ [(k, m - k)]).length = l.length + 1 := by simp
                clear hgrow hown hbel hat1
                go_wp2
                go_step3
                exact ⟨rfl, downJ_mk m (l ++ [(k, m - k)]) (by omega) (by omega) HG3 (by rw [hlen]; exact hown1) hb1⟩
              · obtain rfl : m = to := by omega
                clear hon
                go_wp2_with (first
                  | (go_at_call 18; refine (Of_yes (k : Int) ((m : Int) - (k : Int)) (by omega) (by omega) (by omega) _).mono ?_; rintro e w' ⟨rfl, rfl⟩)
                  | (refine wpList_append_lies _ rfl _ _ _ rfl w.heap.size 32 i0 _ 1 16 Try.underlying26 hi hz0 hz1 hz2 rfl (by omega) (.slice none 0 0) l.length (runsV l) rfl (hown.alloc _) ⟨w.heap.size, 0, none⟩ 1 1 [.complex .f64 (F (k : Int)) (F ((m : Int) - (k : Int)))] rfl rfl (World.news_of_block (cs := #[.complex .f64 (F (k : Int)) (F ((m : Int) - (k : Int)))]) (t := 32) (fr := (0, 0)) (heap_alloc_new w _)) (by simp [Value.oneCell']) (by omega) (by unfold maxLen; omega) (by omega) (by simp <;> omega) (w.heap.size + 1) (by simp) ?_; intro gg cp1 w1 hown1 hgrow hat1 hlt1))
                rw [HS.out] at hown1
                have hb1 := ((hbel.alloc (by omega) _)).grown hgrow (by simp <;> omega) (fun k hk => by cases hk)
                have hlen : (l ++ [(k, m - k)]).length = l.length + 1 := by simp
                clear hgrow hown hbel hat1
                go_wp2
                go_step3
                exact ⟨rfl, downJ_mk m (l ++ [(k, m - k)]) (by omega) (by omega) HG3 (by rw [hlen]; exact hown1) hb1⟩
        · have HG3 : Hid (l ++ gaps (fun n => !bit zs n) (k + 1) to = gaps (fun n => !bit zs n) fr to) := by
            have := HG1.out
            rw [gaps_skip (fun n => !bit zs n) to k hkt (by simp [hbk])] at this
            exact this
          have HK : Hid (bit zs k = true) := hbk
          clear hbk
          go_wp2_with (go_at_call 17; refine (up_is zs hf b off cap k (by omega) HK.out w (HC.out w hbel)).mono ?_; rintro e w' ⟨rfl, rfl⟩)
          go_round
          case rel => exact ⟨k + 1, by omega, by omega, by go_num, HG3⟩
          case measure => simp [intOf]; omega
      · obtain rfl : k = to := by omega
        have hend : l = gaps (fun n => !bit zs n) fr k := by have := HG1.out; rw [gaps_end] at this; simpa using this
        subst hend
        clear HG HG1
        go_wp2
        simp only [Exit.jump]
        go_ret2
        exact ⟨(.slice none 0 0), rfl, hown, hbel⟩

  · intro a wo hJ
    obtain ⟨k0, l, v, u3, u4, u5, u6, u7, u10, u11, u12, u13, u14, u15, u16, u17, u18, u19, u20, u21, u22, u23, u24, u25, u26, u27, u28, u29, u30, u31, u32, u33, u34, u35, u36, u37, u38, u39, u40, u41, u42, u43, u44, u45, u46, u47, u48, u49, u50, u51, u52, u53, u54, u55, u56, u57, u58, u59, u60, u61, u62, u63, u64, u65, u66, u67, rfl, hk2, hll, HG, hown, hbel⟩ := hJ
    have hsz := hbel.size
    go_wp2

    go_loop [9] (fun i => ∃ k : Nat, k0 ≤ k ∧ k ≤ to ∧ i = .int .i64 k ∧ Hid (l ++ gaps (fun n => !bit zs n) k to = gaps (fun n => !bit zs n) fr to)) (fun i => to - (intOf i).toNat)
    case atStart => exact ⟨k0, by omega, hk2, rfl, HG⟩
    case round =>
      obtain ⟨k, hk3, hk4, rfl, HG1⟩ := hrel
      by_cases hkt : k < to
      · cases hbk : bit zs k
        · have HK : Hid (bit zs k = false) := hbk
          have hne : ((k : Int) == (to : Int)) = false := by simp; omega
          clear hbk
          go_wp2_with (go_at_call 17; refine (up_is zs hf b off cap k (by omega) HK.out wo (HC.out wo hbel)).mono ?_; rintro e w' ⟨rfl, rfl⟩)
          go_loop [9] (fun i => ∃ m : Nat, k ≤ m ∧ m ≤ to ∧ i = .int .i64 m ∧ Hid (l ++ G (fun n => !bit zs n) to (to - m) k m = gaps (fun n => !bit zs n) fr to)) (fun i => to - (intOf i).toNat)
          case atStart => exact ⟨k, by omega, by omega, rfl, HG1⟩
          case round =>
            obtain ⟨m, hm1, hm2, rfl, HG2⟩ := hrel
            by_cases hon : m < to ∧ bit zs m = false
            · obtain ⟨hmt, hbm⟩ := hon
              have HG3 : Hid (l ++ G (fun n => !bit zs n) to (to - (m + 1)) k (m + 1) = gaps (fun n => !bit zs n) fr to) := by
                have := HG2.out
                rw [G_has (fun n => !bit zs n) to k m hmt (by simp [hbm])] at this
                exact this
              have HM : Hid (bit zs m = false) := hbm
              clear hbm
              go_wp2_with (go_at_call 17; refine (up_is zs hf b off cap m (by omega) HM.out wo (HC.out wo hbel)).mono ?_; rintro e w' ⟨rfl, rfl⟩)
              go_round
              case rel => exact ⟨m + 1, by omega, by omega, by go_num, HG3⟩
              case measure => simp [intOf]; omega
            · have hkm : k < m := by
                rcases Nat.lt_or_ge k m with h | h
                · exact h
                · obtain rfl : m = k := by omega
                  exact absurd ⟨hkt, HK.out⟩ hon
              have HG3 : Hid ((l ++ [(k, m - k)]) ++ gaps (fun n => !bit zs n) m to = gaps (fun n => !bit zs n) fr to) := by
                have := HG2.out
                rw [G_close (fun n => !bit zs n) to k m hkm hm2 (fun h => by
                  cases hb2 : bit zs m
                  · exact absurd ⟨h, hb2⟩ hon
                  · simp)] at this
                show (l ++ [(k, m - k)]) ++ _ = _
                rw [← this]; simp
              have hsnoc := runsV_snoc l (show k ≤ m by omega)
              have HS : Hid _ := hsnoc
              clear hsnoc
              by_cases hmt : m < to
              · have hbm : bit zs m = true := by
                  cases hb2 : bit zs m
                  · exact absurd ⟨hmt, hb2⟩ hon
                  · rfl
                have HM : Hid (bit zs m = true) := hbm
                clear hbm hon
                go_wp2_with (first
                  | (go_at_call 17; refine (up_is zs hf b off cap m (by omega) HM.out wo (HC.out wo hbel)).mono ?_; rintro e w' ⟨rfl, rfl⟩)
                  | (go_at_call 18; refine (Of_yes (k : Int) ((m : Int) - (k : Int)) (by omega) (by omega) (by omega) _).mono ?_; rintro e w' ⟨rfl, rfl⟩)
                  | (refine wpList_append_lies _ rfl _ _ _ rfl w.heap.size 32 i0 _ 1 16 Try.underlying26 hi hz0 hz1 hz2 rfl (by omega) v l.length (runsV l) rfl (hown.alloc _) ⟨wo.heap.size, 0, none⟩ 1 1 [.complex .f64 (F (k : Int)) (F ((m : Int) - (k : Int)))] rfl rfl (World.news_of_block (cs := #[.complex .f64 (F (k : Int)) (F ((m : Int) - (k : Int)))]) (t := 32) (fr := (0, 0)) (heap_alloc_new wo _)) (by simp [Value.oneCell']) (by omega) (by unfold maxLen; omega) (by omega) (by simp <;> omega) (wo.heap.size + 1) (by simp) ?_; intro gg cp1 w1 hown1 hgrow hat1 hlt1))
                rw [HS.out] at hown1
                have hb1 := ((hbel.alloc (by omega) _)).grown hgrow (by simp <;> omega) (fun k hk => (hown.lt k hk).1)
                have hlen : (l ++ [(k, m - k)]).length = l.length + 1 := by simp
                clear hgrow hown hbel hat1
                go_wp2
                go_step3
                exact ⟨rfl, downJ_mk m (l ++ [(k, m - k)]) (by omega) (by omega) HG3 (by rw [hlen]; exact hown1) hb1, by simp [downMu, intOf]; omega⟩
              · obtain rfl : m = to := by omega
                clear hon
                go_wp2_with (first
                  | (go_at_call 18; refine (Of_yes (k : Int) ((m : Int) - (k : Int)) (by omega) (by omega) (by omega) _).mono ?_; rintro e w' ⟨rfl, rfl⟩)
                  | (refine wpList_append_lies _ rfl _ _ _ rfl w.heap.size 32 i0 _ 1 16 Try.underlying26 hi hz0 hz1 hz2 rfl (by omega) v l.length (runsV l) rfl (hown.alloc _) ⟨wo.heap.size, 0, none⟩ 1 1 [.complex .f64 (F (k : Int)) (F ((m : Int) - (k : Int)))] rfl rfl (World.news_of_block (cs := #[.complex .f64 (F (k : Int)) (F ((m : Int) - (k : Int)))]) (t := 32) (fr := (0, 0)) (heap_alloc_new wo _)) (by simp [Value.oneCell']) (by omega) (by unfold maxLen; omega) (by omega) (by simp <;> omega) (wo.heap.size + 1) (by simp) ?_; intro gg cp1 w1 hown1 hgrow hat1 hlt1))
                rw [HS.out] at hown1
                have hb1 := ((hbel.alloc (by omega) _)).grown hgrow (by simp <;> omega) (fun k hk => (hown.lt k hk).1)
                have hlen : (l ++ [(k, m - k)]).length = l.length + 1 := by simp
                clear hgrow hown hbel hat1
                go_wp2
                go_step3
                exact ⟨rfl, downJ_mk m (l ++ [(k, m - k)]) (by omega) (by omega) HG3 (by rw [hlen]; exact hown1) hb1, by simp [downMu, intOf]; omega⟩
        · have HG3 : Hid (l ++ gaps (fun n => !bit zs n) (k + 1) to = gaps (fun n => !bit zs n) fr to) := by
            have := HG1.out
            rw [gaps_skip (fun n => !bit zs n) to k hkt (by simp [hbk])] at this
            exact this
          have HK : Hid (bit zs k = true) := hbk
          clear hbk
          go_wp2_with (go_at_call 17; refine (up_is zs hf b off cap k (by omega) HK.out wo (HC.out wo hbel)).mono ?_; rintro e w' ⟨rfl, rfl⟩)
          go_round
          case rel => exact ⟨k + 1, by omega, by omega, by go_num, HG3⟩
          case measure => simp [intOf]; omega
      · obtain rfl : k = to := by omega
        have hend : l = gaps (fun n => !bit zs n) fr k := by have := HG1.out; rw [gaps_end] at this; simpa using this
        subst hend
        clear HG HG1
        go_wp2
        simp only [Exit.jump]
        go_ret2
        exact ⟨v, rfl, hown, hbel⟩

end Go.Proofs.Ytoiafcelnohcfaa
