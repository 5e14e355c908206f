/- The walks of extent.to at sound extents: what they are as pointers. -/
import Derived.Test.YtbelfapnjjeclaaExtents
import Derived.Deep.MidRow
namespace Go.Proofs.Ytbelfapnjjeclaa
open Go.RowKit Go.Maps

/-- 96 pointers as Go values. -/
def arrL (g : Nat → Nat) : List Value := (List.range 96).map fun i => Value.int .i64 ((g i : Nat) : Int)

/-- An array of 96 zeros. -/
def zeros96 : Array Value := (List.replicate 96 (Value.int .i64 0)).toArray
theorem zero47 (w : World) : (zeroValue 47).run Try.prog w = .ok (.agg zeros96) w := by kernel_rfl
theorem zeros_at (i : Nat) (h : i < 96) : zeros96[i]? = some (.int .i64 0) := by
  unfold zeros96
  rw [List.getElem?_toArray, List.getElem?_replicate, if_pos h]

theorem arrL_length (g : Nat → Nat) : (arrL g).length = 96 := by simp [arrL]
theorem arrL_at (g : Nat → Nat) (i : Nat) (h : i < 96) : (arrL g)[i]? = some (.int .i64 ((g i : Nat) : Int)) := by
  unfold arrL
  rw [List.getElem?_map, List.getElem?_range h]; rfl
theorem arrL_one (g : Nat → Nat) : ∀ v ∈ arrL g, v.oneCell' = true := by
  intro v hv
  unfold arrL at hv
  obtain ⟨i, _, rfl⟩ := List.mem_map.1 hv
  rfl

/-- 96 pointers lie in a block, and may be written. -/
structure Arr (w : World) (b : Nat) (g : Nat → Nat) : Prop where
  lies : ∀ i, i < 96 → w.cell? ⟨b, i, none⟩ = some (.int .i64 ((g i : Nat) : Int))
  free : ∀ i, w.frozen? ⟨b, i, none⟩ = false

theorem Arr.alloc {w : World} {b : Nat} {g : Nat → Nat} (h : Arr w b g) (ob : Obj) : Arr (w.alloc ob) b g := by
  refine ⟨fun i hi => ?_, fun i => ?_⟩
  · have := h.lies i hi
    rw [World.cell?_alloc_lt _ _ _ (World.block_lt_of_cell? w _ this)]; exact this
  · have hb := World.block_lt_of_cell? w _ (h.lies 0 (by omega))
    rw [World.frozen?_alloc_past _ _ _ hb]; exact h.free i

theorem Arr.set {w : World} {b : Nat} {g g' : Nat → Nat} (h : Arr w b g) {i : Nat} (hi : i < 96) {v : Nat} (h1 : g' i = v) (h2 : ∀ k, k ≠ i → g' k = g k) : Arr (w.setCell ⟨b, i, none⟩ (.int .i64 (v : Int))) b g' := by
  refine ⟨fun k hk => ?_, fun k => (World.frozen?_setCell _ _ _ _).trans (h.free k)⟩
  by_cases e : k = i
  · subst e
    rw [World.cell?_setCell_same _ _ _ (h.lies k hk), h1]
  · have hne : (⟨b, i, none⟩ : Addr) ≠ ⟨b, k, none⟩ := fun hh => by injection hh with _ h3 _; exact e h3.symm
    rw [World.cell?_setCell_other _ _ _ _ hne, h.lies k hk, h2 k e]

theorem Arr.apart {w : World} {b b' : Nat} {g : Nat → Nat} (h : Arr w b g) (hb : b ≠ b') (i : Nat) (v : Value) : Arr (w.setCell ⟨b', i, none⟩ v) b g := by
  refine ⟨fun k hk => ?_, fun k => (World.frozen?_setCell _ _ _ _).trans (h.free k)⟩
  have hne : (⟨b', i, none⟩ : Addr) ≠ ⟨b, k, none⟩ := fun hh => by injection hh with h3 _ _; exact hb h3.symm
  rw [World.cell?_setCell_other _ _ _ _ hne, h.lies k hk]

theorem Arr.range {w : World} {b : Nat} {g : Nat → Nat} (h : Arr w b g) : w.rangeAt b 0 (arrL g) := fun j v hv => by
  have hj : j < 96 := by
    have := (List.getElem?_eq_some_iff.1 hv).1
    rwa [arrL_length] at this
  rw [arrL_at g j hj] at hv
  rw [Nat.zero_add, h.lies j hj, hv]

theorem Arr.there {w : World} {b : Nat} {g : Nat → Nat} (h : Arr w b g) : w.there b 0 96 := fun j hj => by
  rw [Nat.zero_add]
  exact ⟨by rw [h.lies j hj]; rfl, h.free j⟩

theorem arr_zeros (w : World) : Arr (w.alloc (.cells zeros96 47)) w.heap.size (fun _ => 0) := by
  refine ⟨fun i hi => ?_, fun i => ?_⟩
  · rw [World.cell?_alloc_at _ _ _ i rfl, zeros_at i hi]; rfl
  · exact World.frozen?_alloc_new _ _ _ _

theorem upd_step (g : Nat → Nat) (a f j : Nat) : upd g (a, f, j + 1) (a + j) = f + j ∧ ∀ k, k ≠ a + j → upd g (a, f, j + 1) k = upd g (a, f, j) k := by
  refine ⟨?_, fun k hk => ?_⟩
  · unfold upd; simp only
    rw [if_pos (by omega)]; omega
  · unfold upd; simp only
    by_cases h : a ≤ k ∧ k < a + j
    · rw [if_pos h, if_pos (by omega)]
    · rw [if_neg h, if_neg (by omega)]

theorem upd_0 (g : Nat → Nat) (a f : Nat) : upd g (a, f, 0) = g := by
  funext i; unfold upd; simp only; rw [if_neg (by omega)]

theorem foldl_take (l : List Ext) (k : Nat) (hk : k < l.length) (g : Nat → Nat) : (l.take (k + 1)).foldl upd g = upd ((l.take k).foldl upd g) l[k] := by
  rw [List.take_succ_eq_append_getElem hk, List.foldl_append]; rfl

theorem below_setCells {B b : Nat} {a : World} (hb : B ≤ b) : ∀ (vs : List Value) (o : Nat) (w : World), Below B a w → Below B a (w.setCells b o vs)
  | [], _, _, h => h
  | v :: r, o, w, h => by
    rw [World.setCells]
    exact below_setCells hb r (o + 1) _ (h.setCell (p := ⟨b, o, none⟩) hb v)

set_option maxHeartbeats 3200000 in
set_option maxRecDepth 100000 in
theorem to_any (l : List Ext) (a : Option Addr) (cap : Nat) (w : World) (hin : ExtsIn w a l) (hlen : l.length ≤ 96) (hs : Sok l 0 (-1) []) :
    Calls Try.prog 21 #[.slice a l.length cap] w fun e w' => e = .returned (.agg (arrL (l.foldl upd fun _ => 0)).toArray) ∧ Below w.heap.size w w' := by
  have hz := zero47
  have HI : Hid (∀ k, (hk : k < l.length) → ∃ g, a = some ⟨g, 0, none⟩ ∧ g < w.heap.size ∧ w.cell? ⟨g, k * 2, none⟩ = some (.int .i64 ((l[k].1 : Nat) : Int)) ∧ w.cell? ⟨g, k * 2 + 1, none⟩ = some (.complex .f64 (F ((l[k].2.1 : Nat) : Int)) (F ((l[k].2.2 : Nat) : Int)))) := hin
  obtain ⟨N, hN⟩ : ∃ N, N = l.length := ⟨_, rfl⟩
  have HN : Hid (N = l.length) := hN
  have HS : Hid (Sok (l.drop 0) 0 (-1) []) := hs
  rw [← hN] at hlen ⊢
  clear hN hin hs
  obtain ⟨O, hO⟩ : ∃ O, O = w.heap.size + 1 := ⟨_, rfl⟩
  go_enter Try.func21, Try.ntmps21
  go_wp2
  have HR0 : Hid (Arr ((w.alloc (.cells zeros96 47)).alloc (.cells zeros96 47)) w.heap.size (fun _ => 0)) := (arr_zeros w).alloc _
  have HO0 : Hid (Arr ((w.alloc (.cells zeros96 47)).alloc (.cells zeros96 47)) O (fun _ => 0)) := by
    have h := arr_zeros (w.alloc (.cells zeros96 47))
    have e : (w.alloc (.cells zeros96 47)).heap.size = O := by rw [hO]; simp
    rw [e] at h; exact h
  rw [← hO]
  have HQ : Hid (O = w.heap.size + 1) := hO
  have hO1 : w.heap.size < O := by omega
  clear hO
  go_loopw [12] (fun vi wr => ∃ (k : Nat) (g : Nat → Nat), k ≤ N ∧ vi = .int .i64 k ∧ Hid (g = (l.take k).foldl upd (fun _ => 0)) ∧ Hid (Arr wr w.heap.size (fun _ => 0)) ∧ Hid (Arr wr O g) ∧ O + 1 ≤ wr.heap.size ∧ Hid (∃ e nx pr, Sok (l.drop k) e nx pr) ∧ Hid (Below w.heap.size w wr)) (fun i _ => N - (intOf i).toNat)
  case atStart => exact ⟨0, fun _ => 0, Nat.zero_le _, rfl, rfl, HR0, HO0, by have := HQ.out; simp; omega, ⟨_, _, _, HS.out⟩, (((Below.refl _ _).alloc (Nat.le_refl _) _).alloc (by simp) _)⟩
  case round =>
    obtain ⟨k, g, hk, rfl, HG, HR, HO, hsz, HK, HB⟩ := hrel
    clear HR0 HO0
    by_cases hlt : k < N
    · have hkl : k < l.length := by have := HN.out; omega
      obtain ⟨e, nx, pr, hsk⟩ := HK.out
      rw [drop_head hkl] at hsk
      obtain ⟨gb, rfl, hgb, h1, h2⟩ := HI.out k hkl
      have HF := foldl_take l k hkl (fun _ => 0)
      rw [← HG.out] at HF
      generalize l[k] = x at hsk h1 h2 HF
      obtain ⟨xa, f, n⟩ := x
      obtain ⟨⟨s1, s2, s3, s4, s5, s6, s7⟩, hrest⟩ := hsk
      have c1 : wr.cell? ⟨gb, k * 2, none⟩ = some (.int .i64 (xa : Int)) := (HB.out.cell (by exact hgb)).trans h1
      have c2 : wr.cell? ⟨gb, k * 2 + 1, none⟩ = some (.complex .f64 (F (f : Int)) (F (n : Int))) := (HB.out.cell (by exact hgb)).trans h2
      have HK2 : Hid (∃ e nx pr, Sok (l.drop (k + 1)) e nx pr) := ⟨_, _, _, hrest⟩
      have HG2 : Hid (upd g (xa, f, n) = (l.take (k + 1)).foldl upd (fun _ => 0)) := HF.symm
      clear h1 h2 hrest HK s5 s7 HG HF s4 HI
      go_wp2_with fail
      refine (Parts_yes (f : Int) (n : Int) (by omega) (by omega) (by omega) _).mono ?_
      rintro e' w1 ⟨rfl, rfl⟩
      go_wp2
      have HRa : Hid (Arr (wr.alloc (.cells #[.int .i64 (xa : Int), .complex .f64 (F (f : Int)) (F (n : Int))] 45)) w.heap.size (fun _ => 0)) := HR.out.alloc _
      have HOa : Hid (Arr (wr.alloc (.cells #[.int .i64 (xa : Int), .complex .f64 (F (f : Int)) (F (n : Int))] 45)) O (upd g (xa, f, 0))) := by rw [upd_0]; exact HO.out.alloc _
      have HBa : Hid (Below w.heap.size w (wr.alloc (.cells #[.int .i64 (xa : Int), .complex .f64 (F (f : Int)) (F (n : Int))] 45))) := HB.out.alloc (by omega) _
      have HXa : Hid ((wr.alloc (.cells #[.int .i64 (xa : Int), .complex .f64 (F (f : Int)) (F (n : Int))] 45)).cell? ⟨wr.heap.size, 0, none⟩ = some (.int .i64 (xa : Int))) := World.cell?_alloc_at _ _ _ 0 rfl
      have hsx : wr.heap.size < (wr.alloc (.cells #[.int .i64 (xa : Int), .complex .f64 (F (f : Int)) (F (n : Int))] 45)).heap.size := by simp
      generalize hX : wr.heap.size = X at *
      generalize wr.alloc (.cells #[.int .i64 (xa : Int), .complex .f64 (F (f : Int)) (F (n : Int))] 45) = ws at *
      clear HR HO HB c1 c2
      go_loopw [24] (fun vi wt => ∃ (j : Nat), j ≤ n ∧ vi = .int .i64 j ∧ Hid (Arr wt w.heap.size (fun _ => 0)) ∧ Hid (Arr wt O (upd g (xa, f, j))) ∧ X < wt.heap.size ∧ Hid (Below w.heap.size w wt) ∧ Hid (wt.cell? ⟨X, 0, none⟩ = some (.int .i64 (xa : Int)))) (fun i _ => n - (intOf i).toNat)
      case atStart => exact ⟨0, Nat.zero_le _, rfl, HRa, HOa, hsx, HBa, HXa⟩
      case round =>
        clear HRa HOa HBa HXa hsx
        obtain ⟨j, hj, rfl, HR, HO, hsx, HB, HX⟩ := hrel
        by_cases hlj : j < n
        · have hx0 := HX.out
          have hst := HO.out.lies (xa + j) (by omega)
          have hfr := HO.out.free (xa + j)
          generalize upd g (xa, f, j) (xa + j) = old at hst
          have HO2 : Hid (Arr (wr.setCell ⟨O, xa + j, none⟩ (.int .i64 ((f + j : Nat) : Int))) O (upd g (xa, f, j + 1))) := HO.out.set (by omega) (upd_step g xa f j).1 (upd_step g xa f j).2
          have HR2 : Hid (Arr (wr.setCell ⟨O, xa + j, none⟩ (.int .i64 ((f + j : Nat) : Int))) w.heap.size (fun _ => 0)) := HR.out.apart (by omega) _ _
          have HB2 : Hid (Below w.heap.size w (wr.setCell ⟨O, xa + j, none⟩ (.int .i64 ((f + j : Nat) : Int)))) := HB.out.setCell (p := ⟨O, xa + j, none⟩) (by show w.heap.size ≤ O; omega) _
          have HX2 : Hid ((wr.setCell ⟨O, xa + j, none⟩ (.int .i64 ((f + j : Nat) : Int))).cell? ⟨X, 0, none⟩ = some (.int .i64 (xa : Int))) := by
            have hne : (⟨O, xa + j, none⟩ : Addr) ≠ ⟨X, 0, none⟩ := fun hh => by injection hh with h3 _ _; omega
            exact (World.cell?_setCell_other _ _ _ _ hne).trans HX.out
          rw [Int.natCast_add] at HO2 HR2 HB2 HX2
          go_wp2
          go_roundw
          case rel => exact ⟨j + 1, by omega, by go_num, HR2, HO2, by simpa using hsx, HB2, HX2⟩
          case measure => simp [intOf]; omega
        · obtain rfl : j = n := by omega
          go_wp2
          go_roundw
          case rel => exact ⟨k + 1, _, by omega, by go_num, HG2, HR, HO, by omega, HK2, HB⟩
          case measure => simp [intOf]; omega
    · obtain rfl : k = N := by omega
      have hg : g = l.foldl upd (fun _ => 0) := by
        have := HG.out
        rw [HN.out, List.take_length] at this
        exact this
      have HL : Hid (g = l.foldl upd (fun _ => 0)) := hg
      clear HG HK hg
      go_wp2
      obtain ⟨A, hA⟩ : ∃ A, A = (arrL g).toArray := ⟨_, rfl⟩
      have hsz96 : A.size = 96 := by rw [hA]; simp [arrL_length]
      have hall : A.all (·.oneCell') = true := by rw [hA]; exact all_oneCell_toArray (arrL_one g)
      have HA : Hid (A = (arrL g).toArray) := hA
      have HW : Hid (∃ i, Try.prog.info? 47 = some i ∧ i.size = 96) := by
        refine (?_ : ∃ i, Try.prog.info? 47 = some i ∧ i.size = 96)
        have h : (Try.prog.info? 47).map (·.size) = some 96 := by kernel_rfl
        cases hq : Try.prog.info? 47 with
        | none => rw [hq] at h; cases h
        | some i => rw [hq] at h; exact ⟨i, rfl, by simpa using h⟩
      have HZ : Hid (A.size = 96) := hsz96
      have HALL : Hid (A.all (·.oneCell') = true) := hall
      refine wp_load_mid 47 _ rfl O 0 rfl (arrL g) _ HO.out.range Try.underlying47 rfl (by obtain ⟨i, h1, h2⟩ := HW.out; rw [h1, arrL_length, ← h2]; rfl) ?_
      rw [← hA]
      have hst : (storeCells ⟨w.heap.size, 0, none⟩ A.toList).run Try.prog wr = .ok () (wr.setCells w.heap.size 0 A.toList) := by
        have ht := HR.out.there
        have := run_storeCells_cells (P := Try.prog) w.heap.size 0 A.toList 0 wr (fun j hj => by have := (ht j (by rw [Array.length_toList, hsz96] at hj; exact hj)).1; simpa using this) (fun j hj => by have := (ht j (by rw [Array.length_toList, hsz96] at hj; exact hj)).2; simpa using this) (fun v hv => (Array.all_eq_true_iff_forall_mem.1 hall) v (by simpa using hv))
        simpa using this
      have HRG : Hid ((wr.setCells w.heap.size 0 A.toList).rangeAt w.heap.size 0 A.toList) := World.rangeAt_setCells_same _ _ _ _ (by rw [Array.length_toList, HZ.out]; exact HR.out.there)
      clear hA hall
      go_wp2
      refine bodyPost_ret (v := .agg A) ?_ rfl ⟨?_, ?_⟩
      · have hld := run_loadVar_mid (P := Try.prog) (wr.setCells w.heap.size 0 A.toList) w.heap.size 0 47 A.toList _ HRG.out Try.underlying47 rfl (by obtain ⟨i, h1, h2⟩ := HW.out; rw [h1, Array.length_toList, HZ.out, ← h2]; rfl)
        simp only [Array.toArray_toList] at hld
        have hres : Try.f21.results = #[.cell 2 47] := by kernel_rfl
        unfold results
        rw [hres]
        simp [asAddr, hld]
      · rw [HA.out, HL.out]
      · exact below_setCells (Nat.le_refl _) _ _ _ HB.out
end Go.Proofs.Ytbelfapnjjeclaa
