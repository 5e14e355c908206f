/- The walks of node.Extents and extent.Sound at sound extents. -/
import Derived.Test.YtbelfapnjjeclaaMeet
namespace Go.Proofs.Ytbelfapnjjeclaa
open Go.RowKit Go.Maps

/-- Extents lie in a slice. -/
def ExtsIn (w : World) (a : Option Addr) (l : List Ext) : Prop := ∀ i, (hi : i < l.length) → ∃ g, a = some ⟨g, 0, none⟩ ∧ g < w.heap.size ∧ w.cell? ⟨g, i * 2, none⟩ = some (.int .i64 ((l[i].1 : Nat) : Int)) ∧ w.cell? ⟨g, i * 2 + 1, none⟩ = some (.complex .f64 (F ((l[i].2.1 : Nat) : Int)) (F ((l[i].2.2 : Nat) : Int)))

theorem exts_in {w : World} {B : Nat} {v : Value} {l : List Ext} (h : w.ownsRow B 45 2 v l.length (extsV l)) : ∃ a cap, v = .slice a l.length cap ∧ ExtsIn w a l := by
  obtain ⟨a, cap, rfl, hc⟩ := owns_at h
  refine ⟨a, cap, rfl, fun i hi => ?_⟩
  obtain ⟨g, rfl, h1, h2⟩ := hc i hi
  exact ⟨g, rfl, World.block_lt_of_cell? w _ h1, h1, h2⟩

theorem ExtsIn.below {w w' : World} {a : Option Addr} {l : List Ext} (h : ExtsIn w a l) (hb : Below w.heap.size w w') : ExtsIn w' a l := fun i hi => by
  obtain ⟨g, rfl, hg, h1, h2⟩ := h i hi
  exact ⟨g, rfl, by have := hb.size; omega, by rw [hb.cell (by exact hg)]; exact h1, by rw [hb.cell (by exact hg)]; exact h2⟩

theorem drop_head {l : List Ext} {k : Nat} (hk : k < l.length) : l.drop k = l[k] :: l.drop (k + 1) := List.drop_eq_getElem_cons hk

theorem RunsIn.below {w w' : World} {a : Option Addr} {l : List (Nat × Nat)} (h : RunsIn w a l) (hb : Below w.heap.size w w') : RunsIn w' a l := fun i hi => by
  obtain ⟨g, rfl, hg, h1⟩ := h i hi
  exact ⟨g, rfl, by have := hb.size; omega, by rw [hb.cell (by exact hg)]; exact h1⟩

/-- A block of the call's own is as it was behind an append to another row. -/
theorem block_kept {wr w1 : World} {B : Nat} {e : TypeId} {size : Nat} {v : Value} {n : Nat} {xs : List Value} {X : Array Value} {t : TypeId} {Y : Obj} (hown : wr.ownsRow B e size v n xs) (hgrow : ((wr.alloc (.cells X t)).alloc Y).grownBy w1 v.ownBlock) (i : Nat) {u : Value} (hu : X[i]? = some u) :
    w1.cell? ⟨wr.heap.size, i, none⟩ = some u := by
  rw [hgrow.cell_far _ (by simp; omega) (fun h => by have := (hown.lt _ h.symm).2; simp at this), World.cell?_alloc_past _ _ _ (by simp), World.cell?_alloc_at _ _ _ i rfl, hu]

set_option maxHeartbeats 3200000 in
set_option maxRecDepth 100000 in
theorem Extents_yes (l : List Ext) (a : Option Addr) (cap : Nat) (w : World) (hin : ExtsIn w a l) (hlen : l.length ≤ 96) (hs : Sok l 0 (-1) []) :
    Calls Try.prog 23 #[.slice a l.length cap] w fun e w' => e = .returned (.bool true) ∧ Below w.heap.size w w' := by
  by_cases h0 : l.length = 0
  · rw [h0]
    clear hin hs
    go_enter Try.func23, Try.ntmps23
    go_wp2
    refine wp_loop_rounds 1 ?_
    rw [rounds_succ]
    go_wp2
    go_ret
    exact ⟨rfl, Below.refl _ _⟩
  · obtain ⟨i0, hi, hz0, hz1, hz2⟩ := info_parts Try.info40
    obtain ⟨g, rfl, hglt, j1⟩ := hin 0 (by omega)
    clear j1
    have HL : Hid (∀ k, (hk : k < l.length) → w.cell? ⟨g, k * 2, none⟩ = some (.int .i64 ((l[k].1 : Nat) : Int)) ∧ w.cell? ⟨g, k * 2 + 1, none⟩ = some (.complex .f64 (F ((l[k].2.1 : Nat) : Int)) (F ((l[k].2.2 : Nat) : Int)))) := by
      intro k hk
      obtain ⟨g', hg', _, h1, h2⟩ := hin k hk
      injection hg' with hg'; injection hg' with hg' _ _
      subst hg'
      exact ⟨h1, h2⟩
    obtain ⟨N, hN⟩ : ∃ N, N = l.length := ⟨_, rfl⟩
    have HN : Hid (N = l.length) := hN
    have HS : Hid _ := hs
    rw [← hN] at hlen ⊢
    clear hN hin hs
    go_enter Try.func23, Try.ntmps23
    go_wp2
    go_loopw [3, 4, 5, 16] (fun ve vn vr vi wr => ∃ (k e : Nat) (nx : Int) (pr : List (Nat × Nat)), k ≤ N ∧ vi = .int .i64 k ∧ ve = .int .i64 e ∧ vn = .int .i64 nx ∧ e ≤ 96 ∧ Hid (Sok (l.drop k) e nx pr) ∧ pr.length ≤ k ∧ Hid (∀ r ∈ pr, OnDisk r) ∧ wr.ownsRow w.heap.size 40 1 vr pr.length (runsV pr) ∧ Below w.heap.size w wr) (fun _ _ _ i _ => N - (intOf i).toNat)
    case atStart => exact ⟨0, 0, -1, [], Nat.zero_le _, rfl, rfl, rfl, by omega, HS, Nat.le_refl _, (fun r hr => absurd hr (by simp) : ∀ r ∈ ([] : List (Nat × Nat)), OnDisk r), World.ownsRow_nil _ _ _ _, Below.refl _ _⟩
    case round =>
      obtain ⟨k, e, nx, pr, hk, rfl, rfl, rfl, he, HK, hpl, HP, hown, hbel⟩ := hrel
      have hsz := hbel.size
      by_cases hlt : k < N
      · have hkl : k < l.length := by have := HN.out; omega
        have hsk := HK.out
        rw [drop_head hkl] at hsk
        obtain ⟨h1, h2⟩ := HL.out k hkl
        generalize l[k] = x at hsk h1 h2
        obtain ⟨xa, f, n⟩ := x
        obtain ⟨⟨s1, s2, s3, s4, s5, s6, s7⟩, hrest⟩ := hsk
        have c1 : wr.cell? ⟨g, k * 2, none⟩ = some (.int .i64 (xa : Int)) := (hbel.cell (by exact hglt)).trans h1
        have c2 : wr.cell? ⟨g, k * 2 + 1, none⟩ = some (.complex .f64 (F (f : Int)) (F (n : Int))) := (hbel.cell (by exact hglt)).trans h2
        obtain ⟨ar, cr, rfl, hrin⟩ := runs_in hown
        clear h1 h2
        have hbW : Below wr.heap.size wr (wr.alloc (.cells #[.int .i64 (xa : Int), .complex .f64 (F (f : Int)) (F (n : Int))] 45)) := (Below.refl _ _).alloc (Nat.le_refl _) _
        have hcon := Contains_apart pr ar cr f n wr.heap.size (wr.alloc (.cells #[.int .i64 (xa : Int), .complex .f64 (F (f : Int)) (F (n : Int))] 45)) (hrin.below hbW) (by omega) (fun r hr => ⟨HP.out r hr, (s7 r hr).symm⟩) s2 s3 (World.cell?_alloc_at _ _ _ 1 rfl)
        have HP2 : Hid (∀ r ∈ pr ++ [(f, n)], OnDisk r) := fun r hr => by
          rcases List.mem_append.1 hr with h | h
          · exact HP.out r h
          · simp at h; subst h; exact ⟨s2, s3⟩
        have HR : Hid (Sok (l.drop (k + 1)) (xa + n) ((f + n : Nat) : Int) (pr ++ [(f, n)])) := hrest
        clear hrest hrin hbW HK HP s7
        by_cases hae : xa = e
        · have t1 : ((xa : Int) == (e : Int)) = true := by simp; omega
          have t2 : ((f : Int) == nx) = false := by simpa using fun h => s5 ⟨hae, h⟩
          clear s5 hae
          go_wp2_with fail
          refine (Parts_yes (f : Int) (n : Int) (by omega) (by omega) (by omega) _).mono ?_
          rintro e' w1 ⟨rfl, rfl⟩

          go_wp2_with fail
          refine hcon.mono ?_
          clear hcon
          rintro e' w2 ⟨rfl, rfl⟩
          go_wp2_with (refine wpList_append_lies _ rfl _ _ _ rfl w.heap.size 40 i0 _ 1 16 Try.underlying36 hi hz0 hz1 hz2 rfl (by omega) (.slice ar pr.length cr) pr.length (runsV pr) rfl ((hown.alloc _).alloc _) ⟨wr.heap.size + 1, 0, none⟩ 1 1 [.complex .f64 (F (f : Int)) (F (n : Int))] rfl rfl (World.news_of_block (cs := #[.complex .f64 (F (f : Int)) (F (n : Int))]) (t := 40) (fr := (0, 0)) (by simpa using heap_alloc_new (wr.alloc (.cells #[.int .i64 (xa : Int), .complex .f64 (F (f : Int)) (F (n : Int))] 45)) (.cells #[.complex .f64 (F (f : Int)) (F (n : Int))] 40))) (by simp [Value.oneCell']) (by omega) (by unfold maxLen; omega) (by omega) (by simp; omega) (wr.heap.size + 2) (by simp) ?_; intro gg cp1 w1 hown1 hgrow hat1 hlt1; have hxc := block_kept (i := 0) (u := .int .i64 (xa : Int)) hown hgrow rfl)
          rw [runsV_snoc] at hown1
          have hb1 := ((hbel.alloc (by omega) _).alloc (by simp; omega) _).grown hgrow (by simp; omega) (fun k hk => (hown.lt k hk).1)
          have hpl2 : (pr ++ [(f, n)]).length = pr.length + 1 := by simp
          clear hgrow hown hbel hat1
          go_roundw
          case rel => exact ⟨k + 1, xa + n, ((f + n : Nat) : Int), pr ++ [(f, n)], by omega, by go_num, by go_num, by go_num, by omega, HR, by rw [hpl2]; omega, HP2, by rw [hpl2]; exact hown1, hb1⟩
          case measure => simp [intOf]; omega
        · have t1 : ((xa : Int) == (e : Int)) = false := by simp; omega
          clear s5 hae
          go_wp2_with fail
          refine (Parts_yes (f : Int) (n : Int) (by omega) (by omega) (by omega) _).mono ?_
          rintro e' w1 ⟨rfl, rfl⟩

          go_wp2_with fail
          refine hcon.mono ?_
          clear hcon
          rintro e' w2 ⟨rfl, rfl⟩
          go_wp2_with (refine wpList_append_lies _ rfl _ _ _ rfl w.heap.size 40 i0 _ 1 16 Try.underlying36 hi hz0 hz1 hz2 rfl (by omega) (.slice ar pr.length cr) pr.length (runsV pr) rfl ((hown.alloc _).alloc _) ⟨wr.heap.size + 1, 0, none⟩ 1 1 [.complex .f64 (F (f : Int)) (F (n : Int))] rfl rfl (World.news_of_block (cs := #[.complex .f64 (F (f : Int)) (F (n : Int))]) (t := 40) (fr := (0, 0)) (by simpa using heap_alloc_new (wr.alloc (.cells #[.int .i64 (xa : Int), .complex .f64 (F (f : Int)) (F (n : Int))] 45)) (.cells #[.complex .f64 (F (f : Int)) (F (n : Int))] 40))) (by simp [Value.oneCell']) (by omega) (by unfold maxLen; omega) (by omega) (by simp; omega) (wr.heap.size + 2) (by simp) ?_; intro gg cp1 w1 hown1 hgrow hat1 hlt1; have hxc := block_kept (i := 0) (u := .int .i64 (xa : Int)) hown hgrow rfl)
          rw [runsV_snoc] at hown1
          have hb1 := ((hbel.alloc (by omega) _).alloc (by simp; omega) _).grown hgrow (by simp; omega) (fun k hk => (hown.lt k hk).1)
          have hpl2 : (pr ++ [(f, n)]).length = pr.length + 1 := by simp
          clear hgrow hown hbel hat1
          go_roundw
          case rel => exact ⟨k + 1, xa + n, ((f + n : Nat) : Int), pr ++ [(f, n)], by omega, by go_num, by go_num, by go_num, by omega, HR, by rw [hpl2]; omega, HP2, by rw [hpl2]; exact hown1, hb1⟩
          case measure => simp [intOf]; omega
      · obtain rfl : k = N := by omega
        go_wp2
        go_ret
        exact ⟨rfl, hbel⟩

set_option maxHeartbeats 400000 in
theorem SoundE_yes (l : List Ext) (a : Option Addr) (cap : Nat) (w : World) (hin : ExtsIn w a l) (hlen : l.length ≤ 96) (hs : Sok l 0 (-1) []) :
    Calls Try.prog 14 #[.slice a l.length cap] w fun e w' => e = .returned (.bool true) ∧ Below w.heap.size w w' := by
  have h := Extents_yes l a cap w hin hlen hs
  clear hin hs
  go_enter Try.func14, Try.ntmps14
  go_wp2_with fail
  refine h.mono ?_
  clear h
  rintro e w1 ⟨rfl, hb1⟩
  go_wp2
  go_ret
  exact ⟨rfl, hb1⟩
end Go.Proofs.Ytbelfapnjjeclaa
