/- The walks of run.Cut, slices.Clip and extent.Cut at sound extents: the first so many of a file's blocks, and the runs that go. -/
import Derived.Test.YtbelfapnjjeclaaBackLaw
namespace Go.Proofs.Ytbelfapnjjeclaa
open Go.RowKit Go.Maps

/-- A run, or none where it has no block. -/
def runOr (f n : Nat) : Value := if n = 0 then .complex .f64 0 0 else .complex .f64 (F (f : Int)) (F (n : Int))

theorem make1_or (f n : Nat) (a b : Int) (ha : a = (f : Int)) (hb : b = (n : Int)) (w : World) : Calls Try.prog 33 #[.int .i64 a, .int .i64 b] w fun e w' => e = .returned (runOr f n) ∧ w = w' := by
  subst ha hb
  by_cases h : n = 0
  · refine (make1_none _ _ (by omega) w).mono ?_
    rintro e w' ⟨rfl, rfl⟩
    exact ⟨by unfold runOr; rw [if_pos h], rfl⟩
  · refine (make1_any _ _ (by omega) w).mono ?_
    rintro e w' ⟨rfl, rfl⟩
    exact ⟨by unfold runOr; rw [if_neg h], rfl⟩

set_option maxHeartbeats 400000 in
theorem CutRun_yes (f n m : Nat) (h1 : 1 ≤ n) (h2 : f + n ≤ 480) (hm : m ≤ n) (w : World) :
    Calls Try.prog 24 #[.complex .f64 (F (f : Int)) (F (n : Int)), .int .i64 (m : Int)] w fun e w' => e = .returned (.tuple #[runOr f m, runOr (f + m) (n - m), .int .i64 0]) ∧ w = w' := by
  obtain ⟨r1, hr1⟩ : ∃ r1, r1 = runOr f m := ⟨_, rfl⟩
  obtain ⟨r2, hr2⟩ : ∃ r2, r2 = runOr (f + m) (n - m) := ⟨_, rfl⟩
  have c1 := make1_or f m (f : Int) (m : Int) rfl rfl
  have c2 := make1_or (f + m) (n - m) ((f : Int) + (m : Int)) ((n : Int) - (m : Int)) (by omega) (by omega)
  rw [← hr1] at c1 ⊢
  rw [← hr2] at c2 ⊢
  clear hr1 hr2
  go_enter Try.func24, Try.ntmps24
  go_wp2_with fail
  refine (Parts_yes (f : Int) (n : Int) (by omega) (by omega) (by omega) _).mono ?_
  rintro e w1 ⟨rfl, rfl⟩
  go_wp2_with fail
  refine (c1 _).mono ?_
  rintro e w1 ⟨rfl, rfl⟩
  go_wp2_with fail
  refine (c2 _).mono ?_
  rintro e w1 ⟨rfl, rfl⟩
  go_wp2
  go_ret3
  exact ⟨rfl, rfl⟩

set_option maxHeartbeats 400000 in
theorem Clip_own (B : Nat) (v : Value) (l : List Ext) (w : World) (h : w.ownsRow B 45 2 v l.length (extsV l)) :
    Calls Try.prog 25 #[v] w fun e w' => (∃ a cap, e = .returned (.slice a l.length cap) ∧ ExtsIn w a l) ∧ w = w' := by
  obtain ⟨a, cap, rfl, hin⟩ := exts_in h
  have hcap : l.length ≤ cap := by
    rcases h.2 with ⟨h1, h2⟩ | ⟨g, cp, cur, h1, _, _, h4, _⟩
    · omega
    · injection h1 with _ _ h3; omega
  have HIN : Hid (ExtsIn w a l) := hin
  generalize l.length = n at *
  clear hin h
  rcases a with _ | ⟨b, off, spot⟩
  all_goals
    go_enter Try.func25, Try.ntmps25
    go_wp2
    go_ret
    exact ⟨⟨_, _, rfl, HIN.out⟩, rfl⟩

theorem CutRun_0 (f n : Nat) (h1 : 1 ≤ n) (h2 : f + n ≤ 480) (w : World) :
    Calls Try.prog 24 #[.complex .f64 (F (f : Int)) (F (n : Int)), .int .i64 0] w fun e w' => e = .returned (.tuple #[.complex .f64 0 0, .complex .f64 (F (f : Int)) (F (n : Int)), .int .i64 0]) ∧ w = w' := by
  have := CutRun_yes f n 0 h1 h2 (Nat.zero_le _) w
  rw [show runOr f 0 = .complex .f64 0 0 from rfl, show runOr (f + 0) (n - 0) = .complex .f64 (F (f : Int)) (F (n : Int)) by unfold runOr; rw [if_neg (by omega)]; rfl] at this
  exact this

theorem CutRun_n (f n : Nat) (h1 : 1 ≤ n) (h2 : f + n ≤ 480) (w : World) :
    Calls Try.prog 24 #[.complex .f64 (F (f : Int)) (F (n : Int)), .int .i64 (n : Int)] w fun e w' => e = .returned (.tuple #[.complex .f64 (F (f : Int)) (F (n : Int)), .complex .f64 0 0, .int .i64 0]) ∧ w = w' := by
  have := CutRun_yes f n n h1 h2 (Nat.le_refl _) w
  rw [show runOr f n = .complex .f64 (F (f : Int)) (F (n : Int)) by unfold runOr; rw [if_neg (by omega)], show runOr (f + n) (n - n) = .complex .f64 0 0 by unfold runOr; rw [if_pos (by omega)]] at this
  exact this

theorem CutRun_m (f n m d g : Nat) (h1 : 1 ≤ m) (h2 : f + n ≤ 480) (h3 : 1 ≤ d) (h4 : m + d = n) (h5 : f + m = g) (x : Int) (hx : x = (m : Int)) (w : World) :
    Calls Try.prog 24 #[.complex .f64 (F (f : Int)) (F (n : Int)), .int .i64 x] w fun e w' => e = .returned (.tuple #[.complex .f64 (F (f : Int)) (F (m : Int)), .complex .f64 (F (g : Int)) (F (d : Int)), .int .i64 0]) ∧ w = w' := by
  subst hx
  have := CutRun_yes f n m (by omega) h2 (by omega) w
  rw [show runOr f m = .complex .f64 (F (f : Int)) (F (m : Int)) by unfold runOr; rw [if_neg (by omega)], show runOr (f + m) (n - m) = .complex .f64 (F (g : Int)) (F (d : Int)) by unfold runOr; rw [if_neg (by omega), h5, show n - m = d by omega]] at this
  exact this

theorem cutE_append (c : Nat) (l m : List Ext) : cutE c (l ++ m) = cutE c l ++ cutE c m := by unfold cutE; rw [List.filterMap_append]

theorem cutE_next (c : Nat) (l : List Ext) (k : Nat) (hk : k < l.length) : cutE c (l.take (k + 1)) = cutE c (l.take k) ++ if l[k].1 < c then [(l[k].1, l[k].2.1, min (c - l[k].1) l[k].2.2)] else [] := by
  rw [List.take_succ_eq_append_getElem hk, cutE_append, cutE_cons]
  show _ ++ (_ ++ []) = _
  rw [List.append_nil]

theorem tot_next (l : List Ext) (k : Nat) (hk : k < l.length) : tot (l.take (k + 1)) = tot (l.take k) + l[k].2.2 := by
  have h : ∀ l m : List Ext, tot (l ++ m) = tot l + tot m := fun l m => by simp [tot]
  rw [List.take_succ_eq_append_getElem hk, h]; simp [tot]

theorem tot_snoc (l : List Ext) (a f n : Nat) : tot (l ++ [(a, f, n)]) = tot l + n := by simp [tot]

/-- How many blocks runs have. -/
def gtot (gs : List (Nat × Nat)) : Nat := (gs.map (·.2)).sum
theorem gtot_snoc (l : List (Nat × Nat)) (f n : Nat) : gtot (l ++ [(f, n)]) = gtot l + n := by simp [gtot]

/-- Two slices of the call's own lie in two blocks. -/
def Apart2 (v u : Value) : Prop := ∀ g, v.ownBlock = some g → u.ownBlock ≠ some g
theorem apart_nil : Apart2 (.slice none 0 0) (.slice none 0 0) := fun g h => by cases h
theorem Apart2.symm {v u : Value} (h : Apart2 v u) : Apart2 u v := fun g h1 h2 => h g h2 h1
theorem Apart2.row {v u : Value} (h : Apart2 v u) : u.ownBlock = none ∨ u.ownBlock ≠ v.ownBlock := by
  cases hu : u.ownBlock with
  | none => exact .inl rfl
  | some g => exact .inr fun h1 => h g h1.symm hu
theorem Apart2.grown {w : World} {B : Nat} {e : TypeId} {size : Nat} {v u : Value} {n : Nat} {xs : List Value} (h : Apart2 v u) (ho : w.ownsRow B e size u n xs) {g H : Nat} (hH : w.heap.size ≤ H) (hat : v.ownBlock = some g ∨ g = H) (m cap : Nat) : Apart2 (.slice (some ⟨g, 0, none⟩) m cap) u := fun k hk hu => by
  have hk2 : g = k := by simpa [Value.ownBlock] using hk
  subst hk2
  rcases hat with h1 | h1
  · exact h g h1 hu
  · have := (ho.lt g hu).2; omega

/-- What Cut gives. -/
def CutPost (w : World) (ks : List Ext) (t most : Nat) (e : Ending) (w' : World) : Prop :=
  ∃ a cap v gs, e = .returned (.tuple #[.slice a ks.length cap, v, .int .i64 0]) ∧ ExtsIn w' a ks ∧ w'.ownsRow w.heap.size 40 1 v gs.length (runsV gs) ∧ gtot gs + tot ks = t ∧ gs.length ≤ most ∧ (∀ r ∈ gs, r.2 ≤ 480) ∧ Below w.heap.size w w'

set_option maxHeartbeats 800000 in
theorem Cut_no (l : List Ext) (a : Option Addr) (cap : Nat) (c : Int) (hc : c < 0 ∨ 96 < c) (w : World) (hin : ExtsIn w a l) (hlen : l.length ≤ 96) (hs : Sok l 0 (-1) []) :
    Calls Try.prog 15 #[.slice a l.length cap, .int .i64 c] w fun e w' => e = .returned (.tuple #[.slice none 0 0, .slice none 0 0, .int .i64 1]) ∧ Below w.heap.size w w' := by
  have h1 := SoundE_yes l a cap w hin hlen hs
  clear hin hs
  have hd : (decide (c < 0) || decide (96 < c)) = true := by simp; omega
  rcases hc with hc | hc
  all_goals
    go_enter Try.func15, Try.ntmps15
    go_wp2_with fail
    refine h1.mono ?_
    rintro e w1 ⟨rfl, hb1⟩
    go_wp2
    go_ret3
    exact ⟨rfl, hb1⟩

set_option maxHeartbeats 6400000 in
set_option maxRecDepth 100000 in
theorem Cut_yes (l : List Ext) (a : Option Addr) (cap : Nat) (c : Nat) (hc : c ≤ 96) (w : World) (hin : ExtsIn w a l) (hlen : l.length ≤ 96) (hs : Sok l 0 (-1) []) :
    Calls Try.prog 15 #[.slice a l.length cap, .int .i64 (c : Int)] w (CutPost w (cutE c l) (tot l) l.length) := by
  obtain ⟨ie, he0, he1, he2, he3⟩ := info_parts Try.info45
  obtain ⟨ir, hr0, hr1, hr2, hr3⟩ := info_parts Try.info40
  have h1 := SoundE_yes l a cap w hin hlen hs
  have HI : Hid (∀ k, (hk : k < l.length) → ∃ g, a = some ⟨g, 0, none⟩ ∧ g < w.heap.size ∧ w.cell? ⟨g, k * 2, none⟩ = some (.int .i64 ((l[k].1 : Nat) : Int)) ∧ w.cell? ⟨g, k * 2 + 1, none⟩ = some (.complex .f64 (F ((l[k].2.1 : Nat) : Int)) (F ((l[k].2.2 : Nat) : Int)))) := hin
  obtain ⟨N, hN⟩ : ∃ N, N = l.length := ⟨_, rfl⟩
  have HN : Hid (N = l.length) := hN
  have HS : Hid (∃ e nx pr, Sok (l.drop 0) e nx pr) := ⟨_, _, _, hs⟩
  rw [← hN] at hlen h1 ⊢
  clear hN hin hs
  go_enter Try.func15, Try.ntmps15
  go_wp2_with fail
  refine h1.mono ?_
  clear h1
  rintro e w1 ⟨rfl, hb1⟩
  go_wp2
  go_loopw [7, 8, 27] (fun v7 v8 vi wr => ∃ (k : Nat) (ks : List Ext) (gs : List (Nat × Nat)), k ≤ N ∧ vi = .int .i64 k ∧ ks.length ≤ k ∧ gs.length ≤ k ∧ Hid (ks = cutE c (l.take k)) ∧ Hid (gtot gs + tot ks = tot (l.take k)) ∧ Hid (∀ r ∈ gs, r.2 ≤ 480) ∧ wr.ownsRow w.heap.size 45 2 v7 ks.length (extsV ks) ∧ wr.ownsRow w.heap.size 40 1 v8 gs.length (runsV gs) ∧ Hid (Apart2 v7 v8) ∧ Hid (∃ e nx pr, Sok (l.drop k) e nx pr) ∧ Below w.heap.size w wr) (fun _ _ i _ => N - (intOf i).toNat)
  case atStart => exact ⟨0, [], [], Nat.zero_le _, rfl, Nat.le_refl _, Nat.le_refl _, rfl, rfl, (fun r hr => absurd hr (by simp) : ∀ r ∈ ([] : List (Nat × Nat)), r.2 ≤ 480), World.ownsRow_nil _ _ _ _, World.ownsRow_nil _ _ _ _, apart_nil, HS, hb1⟩
  case round =>
    obtain ⟨k, ks, gs, hk, rfl, hkl, hgl, HK, HT, HG, ho7, ho8, HD, HSK, hbel⟩ := hrel
    have hsz := hbel.size
    clear hb1 HS
    by_cases hlt : k < N
    · have hkl2 : k < l.length := by have := HN.out; omega
      obtain ⟨e, nx, pr, hsk⟩ := HSK.out
      rw [drop_head hkl2] at hsk
      obtain ⟨gb, rfl, hgb, h1, h2⟩ := HI.out k hkl2
      have HF := cutE_next c l k hkl2
      have HU := tot_next l k hkl2
      rw [← HK.out] at HF
      rw [← HT.out] at HU
      generalize l[k] = x at hsk h1 h2 HF HU
      obtain ⟨xa, f, n⟩ := x
      obtain ⟨⟨s1, s2, s3, s4, s5, s6, s7⟩, hrest⟩ := hsk
      have c1 : wr.cell? ⟨gb, k * 2, none⟩ = some (.int .i64 (xa : Int)) := (hbel.cell (by exact hgb)).trans h1
      have c2 : wr.cell? ⟨gb, k * 2 + 1, none⟩ = some (.complex .f64 (F (f : Int)) (F (n : Int))) := (hbel.cell (by exact hgb)).trans h2
      have HR2 : Hid (∃ e nx pr, Sok (l.drop (k + 1)) e nx pr) := ⟨_, _, _, hrest⟩
      have cv : ∀ w, (convert 39 3 (.float .f64 (F (n : Int)))).run Try.prog w = .ok (.int .i64 (n : Int)) w := fun w => run_convert_float_int w 39 3 .f64 .i64 _ (n : Int) (by rw [Try.underlying39]; rfl) Try.underlying3 (toInt_F (n : Int) (by omega))
      simp only at HF HU
      clear h1 h2 hrest HSK s5 s7 s4 HI hkl2
      have gz := order_0
      have gf : (FloatKind.f64.format.order (F (f : Int)) 0 == some .eq) = false := by
        rw [← F_0, eql_F (f : Int) 0 (by omega) (by decide)]; simp; omega
      by_cases hA : c ≤ xa
      · have HK2 : Hid (ks = cutE c (l.take (k + 1))) := by rw [HF, if_neg (by omega), List.append_nil]; rfl
        have HT2 : Hid (gtot (gs ++ [(f, n)]) + tot ks = tot (l.take (k + 1))) := by
          show gtot (gs ++ [(f, n)]) + tot ks = _
          rw [HU, gtot_snoc]; omega
        have HG2 : Hid (∀ r ∈ gs ++ [(f, n)], r.2 ≤ 480) := fun r hr => by
          rcases List.mem_append.1 hr with h | h
          · exact HG.out r h
          · simp at h; subst h; show n ≤ 480; omega
        clear HK HT HG HF HU
        go_wp2_with fail
        refine (CutRun_0 f n s2 s3 _).mono ?_
        rintro e' w2 ⟨rfl, rfl⟩
        go_wp2_with (refine wpList_append_lies _ rfl _ _ _ rfl w.heap.size 40 ir _ 1 16 Try.underlying36 hr0 hr1 hr2 hr3 rfl (by omega) u8 gs.length (runsV gs) rfl ((ho8.alloc _).alloc _) ⟨wr.heap.size + 1, 0, none⟩ 1 1 [.complex .f64 (F (f : Int)) (F (n : Int))] rfl rfl (World.news_of_block (cs := #[.complex .f64 (F (f : Int)) (F (n : Int))]) (t := 40) (fr := (0, 0)) (by simpa using heap_alloc_new (wr.alloc (.cells #[.int .i64 (xa : Int), .complex .f64 (F (f : Int)) (F (n : Int))] 45)) (.cells #[.complex .f64 (F (f : Int)) (F (n : Int))] 40))) (by simp [Value.oneCell']) (by omega) (by unfold maxLen; omega) (by omega) (by simp; omega) (wr.heap.size + 2) (by simp) ?_; intro gg cp1 w1 hown1 hgrow hat1 hlt1)
        rw [runsV_snoc] at hown1
        have ho7' := ((ho7.alloc _).alloc _).kept hgrow HD.out.symm.row
        have HD2 : Hid (Apart2 u7 (.slice (some ⟨gg, 0, none⟩) (gs.length + 1) cp1)) := (HD.out.symm.grown ho7 (by omega) hat1 _ _).symm
        have hb1 := ((hbel.alloc (by omega) _).alloc (by simp; omega) _).grown hgrow (by simp; omega) (fun k hk => (ho8.lt k hk).1)
        have hg2 : (gs ++ [(f, n)]).length = gs.length + 1 := by simp
        clear hgrow ho7 ho8 hbel hat1 HD
        go_roundw
        case rel => exact ⟨k + 1, ks, gs ++ [(f, n)], by omega, by go_num, by omega, by rw [hg2]; omega, HK2, HT2, HG2, ho7', by rw [hg2]; exact hown1, HD2, HR2, hb1⟩
        case measure => simp [intOf]; omega
      · by_cases hB : xa + n ≤ c
        · have HK2 : Hid (ks ++ [(xa, f, n)] = cutE c (l.take (k + 1))) := by rw [HF, if_pos (by omega), Nat.min_eq_right (by omega)]; rfl
          have HT2 : Hid (gtot gs + tot (ks ++ [(xa, f, n)]) = tot (l.take (k + 1))) := by
            show gtot gs + tot (ks ++ [(xa, f, n)]) = _
            rw [HU, tot_snoc]; omega
          have hcall : ∀ (x : Int), x = (n : Int) → ∀ w, Calls Try.prog 24 #[.complex .f64 (F (f : Int)) (F (n : Int)), .int .i64 x] w fun e w' => e = .returned (.tuple #[.complex .f64 (F (f : Int)) (F (n : Int)), .complex .f64 0 0, .int .i64 0]) ∧ w = w' := fun x hx w => by
            subst hx; exact CutRun_n f n s2 s3 w
          clear HK HT HF HU
          go_wp2_with fail
          all_goals
            refine (hcall _ (by omega) _).mono ?_
            rintro e' w2 ⟨rfl, rfl⟩
            go_wp2_with (refine wpList_append_lies _ rfl _ _ _ rfl w.heap.size 45 ie _ 2 24 Try.underlying23 he0 he1 he2 he3 rfl (by omega) u7 ks.length (extsV ks) rfl ((ho7.alloc _).alloc _) ⟨wr.heap.size + 1, 0, none⟩ 1 1 [.int .i64 (xa : Int), .complex .f64 (F (f : Int)) (F (n : Int))] rfl rfl (World.news_of_block (cs := #[.int .i64 (xa : Int), .complex .f64 (F (f : Int)) (F (n : Int))]) (t := 45) (fr := (0, 0)) (by simpa using heap_alloc_new (wr.alloc (.cells #[.int .i64 (xa : Int), .complex .f64 (F (f : Int)) (F (n : Int))] 45)) (.cells #[.int .i64 (xa : Int), .complex .f64 (F (f : Int)) (F (n : Int))] 45))) (by simp [Value.oneCell']) (by omega) (by unfold maxLen; omega) (by omega) (by simp; omega) (wr.heap.size + 2) (by simp) ?_; intro gg cp1 w1 hown1 hgrow hat1 hlt1)
            rw [extsV_one] at hown1
            have ho8' := ((ho8.alloc _).alloc _).kept hgrow HD.out.row
            have HD2 : Hid (Apart2 (.slice (some ⟨gg, 0, none⟩) (ks.length + 1) cp1) u8) := HD.out.grown ho8 (by omega) hat1 _ _
            have hb1 := ((hbel.alloc (by omega) _).alloc (by simp; omega) _).grown hgrow (by simp; omega) (fun k hk => (ho7.lt k hk).1)
            have hk2 : (ks ++ [(xa, f, n)]).length = ks.length + 1 := by simp
            clear hgrow ho7 ho8 hbel hat1 HD
            go_roundw
            case rel => exact ⟨k + 1, ks ++ [(xa, f, n)], gs, by omega, by go_num, by rw [hk2]; omega, by omega, HK2, HT2, HG, by rw [hk2]; exact hown1, ho8', HD2, HR2, hb1⟩
            case measure => simp [intOf]; omega
        · obtain ⟨m, hm⟩ : ∃ m, m = c - xa := ⟨_, rfl⟩
          obtain ⟨d, hd⟩ : ∃ d, d = n - m := ⟨_, rfl⟩
          obtain ⟨g, hg⟩ : ∃ g, g = f + m := ⟨_, rfl⟩
          have HK2 : Hid (ks ++ [(xa, f, m)] = cutE c (l.take (k + 1))) := by rw [HF, if_pos (by omega), Nat.min_eq_left (by omega), hm]; rfl
          have HT2 : Hid (gtot (gs ++ [(g, d)]) + tot (ks ++ [(xa, f, m)]) = tot (l.take (k + 1))) := by
            show gtot (gs ++ [(g, d)]) + tot (ks ++ [(xa, f, m)]) = _
            rw [HU, gtot_snoc, tot_snoc]; omega
          have HG2 : Hid (∀ r ∈ gs ++ [(g, d)], r.2 ≤ 480) := fun r hr => by
            rcases List.mem_append.1 hr with h | h
            · exact HG.out r h
            · simp at h; subst h; show d ≤ 480; omega
          have gg0 : (FloatKind.f64.format.order (F (g : Int)) 0 == some .eq) = false := by
            rw [← F_0, eql_F (g : Int) 0 (by omega) (by decide)]; simp; omega
          have hcall := CutRun_m f n m d g (by omega) s3 (by omega) (by omega) hg.symm ((c : Int) - (xa : Int)) (by omega)
          clear HK HT HG HF HU hm hd hg
          go_wp2_with fail
          refine (hcall _).mono ?_
          clear hcall
          rintro e' w2 ⟨rfl, rfl⟩
          go_wp2_with (first
            | (refine wpList_append_lies _ rfl _ _ _ rfl w.heap.size 45 ie _ 2 24 Try.underlying23 he0 he1 he2 he3 rfl (by omega) u7 ks.length (extsV ks) rfl ((ho7.alloc _).alloc _) ⟨wr.heap.size + 1, 0, none⟩ 1 1 [.int .i64 (xa : Int), .complex .f64 (F (f : Int)) (F (m : Int))] rfl rfl (World.news_of_block (cs := #[.int .i64 (xa : Int), .complex .f64 (F (f : Int)) (F (m : Int))]) (t := 45) (fr := (0, 0)) (by simpa using heap_alloc_new (wr.alloc (.cells #[.int .i64 (xa : Int), .complex .f64 (F (f : Int)) (F (n : Int))] 45)) (.cells #[.int .i64 (xa : Int), .complex .f64 (F (f : Int)) (F (m : Int))] 45))) (by simp [Value.oneCell']) (by omega) (by unfold maxLen; omega) (by omega) (by simp; omega) (wr.heap.size + 2) (by simp) ?_; intro gg cp1 w1 hown1 hgrow hat1 hlt1
               have ho8' := ((ho8.alloc _).alloc _).kept hgrow HD.out.row
               have HD2 : Hid (Apart2 (.slice (some ⟨gg, 0, none⟩) (ks.length + 1) cp1) u8) := HD.out.grown ho8 (by omega) hat1 _ _
               have hb1 := ((hbel.alloc (by omega) _).alloc (by simp; omega) _).grown hgrow (by simp; omega) (fun k hk => (ho7.lt k hk).1)
               have hsz1 := hb1.size)
            | (refine wpList_append_lies _ rfl _ _ _ rfl w.heap.size 40 ir _ 1 16 Try.underlying36 hr0 hr1 hr2 hr3 rfl (by omega) u8 gs.length (runsV gs) rfl (ho8'.alloc _) ⟨w1.heap.size, 0, none⟩ 1 1 [.complex .f64 (F (g : Int)) (F (d : Int))] rfl rfl (World.news_of_block (cs := #[.complex .f64 (F (g : Int)) (F (d : Int))]) (t := 40) (fr := (0, 0)) (heap_alloc_new w1 _)) (by simp [Value.oneCell']) (by omega) (by unfold maxLen; omega) (by omega) (by simp; omega) (w1.heap.size + 1) (by simp) ?_; intro gg2 cp2 w3 hown2 hgrow2 hat2 hlt2))
          rw [extsV_one] at hown1
          rw [runsV_snoc] at hown2
          have ho7' := (hown1.alloc _).kept hgrow2 HD2.out.symm.row
          have HD3 : Hid (Apart2 (.slice (some ⟨gg, 0, none⟩) (ks.length + 1) cp1) (.slice (some ⟨gg2, 0, none⟩) (gs.length + 1) cp2)) := (HD2.out.symm.grown hown1 (by omega) hat2 _ _).symm
          have hb2 := (hb1.alloc (by omega) _).grown hgrow2 (by simp; omega) (fun k hk => (ho8.lt k hk).1)
          have hk2 : (ks ++ [(xa, f, m)]).length = ks.length + 1 := by simp
          have hg2 : (gs ++ [(g, d)]).length = gs.length + 1 := by simp
          clear hgrow hgrow2 ho7 ho8 hbel hat1 hat2 HD HD2 hb1 hown1 ho8'
          go_roundw
          case rel => exact ⟨k + 1, ks ++ [(xa, f, m)], gs ++ [(g, d)], by omega, by go_num, by rw [hk2]; omega, by rw [hg2]; omega, HK2, HT2, HG2, by rw [hk2]; exact ho7', by rw [hg2]; exact hown2, HD3, HR2, hb2⟩
          case measure => simp [intOf]; omega
    · obtain rfl : k = N := by omega
      have HK2 : Hid (cutE c l = ks) := by
        have := HK.out
        rw [HN.out, List.take_length] at this
        exact this.symm
      have HT2 : Hid (gtot gs + tot ks = tot l) := by
        have := HT.out
        rw [HN.out, List.take_length] at this
        exact this
      have hcl := Clip_own w.heap.size u7 ks wr ho7
      clear HK HT HD HSK HI ho7
      go_wp2_with fail
      refine hcl.mono ?_
      clear hcl
      rintro e w2 ⟨⟨a9, cap9, rfl, hin9⟩, rfl⟩
      have H9 : Hid _ := hin9
      have H8 : Hid _ := ho8
      clear hin9 ho8
      go_wp2
      go_ret3
      refine (?_ : CutPost _ _ _ _ _ _)
      rw [HK2.out]
      exact ⟨a9, cap9, _, gs, rfl, H9.out, H8.out, HT2.out, hgl, HG.out, hbel⟩
end Go.Proofs.Ytbelfapnjjeclaa
