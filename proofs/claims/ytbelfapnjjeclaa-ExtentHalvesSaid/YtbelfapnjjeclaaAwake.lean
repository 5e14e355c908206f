/- The walks of extent.To and extent.Find at sound extents, and of the law's awake. -/
import Derived.Test.YtbelfapnjjeclaaTo
import Derived.Test.YtbelfapnjjeclaaClone
namespace Go.Proofs.Ytbelfapnjjeclaa
open Go.RowKit Go.Maps

/-- 96 pointers. -/
def arr96 (g : Nat → Nat) : List Nat := (List.range 96).map g
theorem arr96_length (g : Nat → Nat) : (arr96 g).length = 96 := by simp [arr96]

theorem arr_ptrs {w : World} {b : Nat} {g : Nat → Nat} (h : w.rangeAt b 0 (arrL g)) : Ptrs w b 0 (arr96 g) := fun j hj => by
  rw [arr96_length] at hj
  have := h j _ (arrL_at g j hj)
  rw [this]
  unfold arr96
  rw [List.getElem?_map, List.getElem?_range hj]; rfl

theorem store_arr {w : World} {b : Nat} {g : Nat → Nat} {A : Array Value} (h : Arr w b g) (hsz : A.size = 96) (hall : A.all (·.oneCell') = true) : (storeCells ⟨b, 0, none⟩ A.toList).run Try.prog w = .ok () (w.setCells b 0 A.toList) := by
  have ht := h.there
  have := run_storeCells_cells (P := Try.prog) b 0 A.toList 0 w (fun j hj => by have := (ht j (by rw [Array.length_toList, hsz] at hj; exact hj)).1; simpa using this) (fun j hj => by have := (ht j (by rw [Array.length_toList, hsz] at hj; exact hj)).2; simpa using this) (fun v hv => (Array.all_eq_true_iff_forall_mem.1 hall) v (by simpa using hv))
  simpa using this

/-- What To gives. -/
def ToPost (w : World) (qs : List Nat) (e : Ending) (w' : World) : Prop :=
  ∃ v, e = .returned (.tuple #[v, .int .i64 0]) ∧ w'.ownsRow w.heap.size 3 1 v qs.length (intsV qs) ∧ Below w.heap.size w w'

set_option maxHeartbeats 1600000 in
theorem To_yes (l : List Ext) (a : Option Addr) (cap : Nat) (w : World) (hin : ExtsIn w a l) (hlen : l.length ≤ 96) (hs : Sok l 0 (-1) []) :
    Calls Try.prog 11 #[.slice a l.length cap] w (ToPost w (trim (arr96 (l.foldl upd fun _ => 0)))) := by
  have h1 := SoundE_yes l a cap w hin hlen hs
  have HIN : Hid (ExtsIn w a l) := hin
  have HS : Hid (Sok l 0 (-1) []) := hs
  have hz := zero47
  have HG : Hid (∃ g, g = l.foldl upd fun _ => 0) := ⟨_, rfl⟩
  obtain ⟨g, hg⟩ := HG.out
  clear hin hs HG
  obtain ⟨A, hA⟩ : ∃ A, A = (arrL g).toArray := ⟨_, rfl⟩
  have hsz96 : A.size = 96 := by rw [hA]; simp [arrL_length]
  have hall : A.all (·.oneCell') = true := by rw [hA]; exact all_oneCell_toArray (arrL_one g)
  have hto : ∀ w1, Below w.heap.size w w1 → Calls Try.prog 21 #[.slice a l.length cap] w1 fun e w' => e = .returned (.agg A) ∧ Below w1.heap.size w1 w' := fun w1 hb => by
    have := to_any l a cap w1 (HIN.out.below hb) hlen HS.out
    rw [← hg, ← hA] at this; exact this
  have HAL : Hid (A.toList = arrL g) := by rw [hA]; rfl
  have HTO : Hid (∀ w1, Below w.heap.size w w1 → Calls Try.prog 21 #[.slice a l.length cap] w1 fun e w' => e = .returned (.agg A) ∧ Below w1.heap.size w1 w') := hto
  have HALL : Hid (A.all (·.oneCell') = true) := hall
  rw [← hg]
  generalize l.length = n at *
  clear hg hA hto hall HIN HS
  go_enter Try.func11, Try.ntmps11
  go_wp2_with fail
  refine h1.mono ?_
  clear h1
  rintro e w1 ⟨rfl, hb1⟩
  have h2 := HTO.out w1 hb1
  clear HTO
  go_wp2_with fail
  refine h2.mono ?_
  clear h2
  rintro e w2 ⟨rfl, hb2⟩
  have hst := store_arr (arr_zeros w2) hsz96 HALL.out
  have HP : Hid (Ptrs ((w2.alloc (.cells zeros96 47)).setCells w2.heap.size 0 A.toList) w2.heap.size 0 (arr96 g)) := by
    refine arr_ptrs ?_
    rw [HAL.out]
    exact World.rangeAt_setCells_same _ _ _ _ (by rw [arrL_length]; exact (arr_zeros w2).there)
  have HB : Hid (Below w.heap.size w ((w2.alloc (.cells zeros96 47)).setCells w2.heap.size 0 A.toList)) := below_setCells (Nat.le_trans hb1.size hb2.size) _ _ _ ((hb1.trans (hb2.mono hb1.size)).alloc (Nat.le_trans hb1.size hb2.size) _)
  have h3 := Trim_any w2.heap.size 0 96 (arr96 g) ((w2.alloc (.cells zeros96 47)).setCells w2.heap.size 0 A.toList) (by rw [arr96_length]; omega) (by rw [arr96_length]; omega) HP.out
  rw [arr96_length] at h3
  clear HP
  go_wp2_with fail
  refine h3.mono ?_
  clear h3
  rintro e w3 ⟨v, rfl, hown, hb3⟩
  have hown2 := owns_mono hown HB.out.size
  have hb4 := HB.out.trans (hb3.mono HB.out.size)
  clear hown hst HB hb1 hb2
  go_wp2
  go_ret2
  exact ⟨v, rfl, hown2, hb4⟩

theorem index_arr {A : Array Value} {g : Nat → Nat} (hA : A = (arrL g).toArray) (i : Nat) (hi : i < 96) (w : World) : (Instr.index 47 (.agg A) (.int .i64 (i : Int))).run Try.prog w = .ok (.int .i64 ((g i : Nat) : Int)) w := by
  have hat : A[i]? = some (.int .i64 ((g i : Nat) : Int)) := by rw [hA, List.getElem?_toArray, arrL_at g i hi]
  obtain ⟨i0, hi0, hz0, hz1, hz2⟩ := info_parts Try.info3
  simp [Instr.index, run_underlying Try.underlying47, asIntOf, hi, hat, go_sem, sizeOf, typeInfo, hi0, hz1]

set_option maxHeartbeats 1600000 in
theorem Find_yes (l : List Ext) (a : Option Addr) (cap : Nat) (i : Nat) (hi : i < 96) (w : World) (hin : ExtsIn w a l) (hlen : l.length ≤ 96) (hs : Sok l 0 (-1) []) :
    Calls Try.prog 19 #[.slice a l.length cap, .int .i64 (i : Int)] w fun e w' => e = .returned (.tuple #[.int .i64 ((l.foldl upd (fun _ => 0) i : Nat) : Int), .int .i64 0]) ∧ Below w.heap.size w w' := by
  have h1 := SoundE_yes l a cap w hin hlen hs
  have HIN : Hid (ExtsIn w a l) := hin
  have HS : Hid (Sok l 0 (-1) []) := hs
  have HG : Hid (∃ g, g = l.foldl upd fun _ => 0) := ⟨_, rfl⟩
  obtain ⟨g, hg⟩ := HG.out
  clear hin hs HG
  obtain ⟨A, hA⟩ : ∃ A, A = (arrL g).toArray := ⟨_, rfl⟩
  have hsz96 : A.size = 96 := by rw [hA]; simp [arrL_length]
  have hix := fun w => index_arr hA i hi w
  have hto : ∀ w1, Below w.heap.size w w1 → Calls Try.prog 21 #[.slice a l.length cap] w1 fun e w' => e = .returned (.agg A) ∧ Below w1.heap.size w1 w' := fun w1 hb => by
    have := to_any l a cap w1 (HIN.out.below hb) hlen HS.out
    rw [← hg, ← hA] at this; exact this
  have HTO : Hid (∀ w1, Below w.heap.size w w1 → Calls Try.prog 21 #[.slice a l.length cap] w1 fun e w' => e = .returned (.agg A) ∧ Below w1.heap.size w1 w') := hto
  rw [← hg]
  generalize l.length = n at *
  clear hg hA hto HIN HS
  go_enter Try.func19, Try.ntmps19
  go_wp2_with fail
  refine h1.mono ?_
  clear h1
  rintro e w1 ⟨rfl, hb1⟩
  have h2 := HTO.out w1 hb1
  clear HTO
  go_wp2_with fail
  refine h2.mono ?_
  clear h2
  rintro e w2 ⟨rfl, hb2⟩
  go_wp2
  go_ret2
  exact ⟨rfl, hb1.trans (hb2.mono hb1.size)⟩

def aq : List Nat := [60, 61, 0, 62, 80]
def az : List Int := [60, 61, 0, 62, 80]

theorem aq_valid : Valid aq := by
  have h1 : ∀ i < 5, aq.getD i 0 = 0 ∨ 59 ≤ aq.getD i 0 ∧ aq.getD i 0 < 480 := by decide
  have h2 : ∀ i < 5, ∀ j < 5, i < j → aq.getD i 0 = aq.getD j 0 → aq.getD i 0 = 0 := by decide
  have h3 : ∀ {i p : Nat}, aq[i]? = some p → i < 5 ∧ aq.getD i 0 = p := fun {i p} h => ⟨(List.getElem?_eq_some_iff.1 h).1, by rw [List.getD_eq_getElem?_getD, h]; rfl⟩
  refine ⟨by decide, fun i p h => ?_, fun i j p hij hi hj => ?_⟩
  · obtain ⟨a, b⟩ := h3 h
    have := h1 i a
    rw [b] at this; exact this
  · obtain ⟨a, b⟩ := h3 hi
    obtain ⟨c, d⟩ := h3 hj
    have := h2 i a j c hij (by rw [b, d])
    rw [b] at this; exact this

theorem aq_E : E aq = [(0, 60, 2), (3, 62, 1), (4, 80, 1)] := by decide +kernel
theorem aq_valid2 : valid az 5 = true := by decide +kernel
theorem aq_len : (E aq).length = 3 := by rw [aq_E]; rfl
theorem aq_find : (E aq).foldl upd (fun _ => 0) 3 = 62 := by rw [aq_E]; rfl
theorem aq_trim : (trim (arr96 ((E aq).foldl upd fun _ => 0))).length = 5 := by decide +kernel

set_option maxHeartbeats 1600000 in
theorem awake_yes (w : World) : Calls Try.prog 8 #[] w fun e w' => e = .returned (.bool true) ∧ Below w.heap.size w w' := by
  have HI : Hid (IntsIn (w.alloc (.cells #[.int .i64 60, .int .i64 61, .int .i64 0, .int .i64 62, .int .i64 80] 3)) (some ⟨w.heap.size, 0, none⟩) 5 az) :=
    ⟨by decide, by unfold maxLen; omega, by decide +kernel, fun _ => ⟨_, _, rfl, by simp, fun j hj => by
      rw [World.cell?_alloc_at _ _ _ _ rfl, Nat.zero_add]
      match j, hj with
      | 0, _ => rfl
      | 1, _ => rfl
      | 2, _ => rfl
      | 3, _ => rfl
      | 4, _ => rfl⟩⟩
  have HP : Hid (PtrsIn (w.alloc (.cells #[.int .i64 60, .int .i64 61, .int .i64 0, .int .i64 62, .int .i64 80] 3)) (some ⟨w.heap.size, 0, none⟩) aq) :=
    fun _ => ⟨_, _, rfl, by simp, fun j hj => by
      rw [World.cell?_alloc_at _ _ _ _ rfl, Nat.zero_add]
      match j, hj with
      | 0, _ => rfl
      | 1, _ => rfl
      | 2, _ => rfl
      | 3, _ => rfl
      | 4, _ => rfl⟩
  have hf := From_yes (cap := 5) (qs := aq) HI.out aq_valid2 aq_valid HP.out
  have hb0 : Below w.heap.size w (w.alloc (.cells #[.int .i64 60, .int .i64 61, .int .i64 0, .int .i64 62, .int .i64 80] 3)) := (Below.refl _ _).alloc (Nat.le_refl _) _
  rw [show aq.length = 5 from rfl] at hf
  clear HI HP
  go_enter Try.func8, Try.ntmps8
  go_wp2_with fail
  refine hf.mono ?_
  clear hf
  rintro e w1 ⟨v, rfl, hown, hb1⟩
  obtain ⟨a, cap, rfl, hin⟩ := exts_in hown
  have HIN : Hid (ExtsIn w1 a (E aq)) := hin
  have h2 := To_yes (E aq) a cap w1 hin (by rw [aq_len]; omega) (sok_E aq_valid)
  rw [aq_len] at h2 ⊢
  have hb2 := hb0.trans (hb1.mono hb0.size)
  clear hown hin hb0 hb1
  go_wp2_with fail
  refine h2.mono ?_
  clear h2
  rintro e w2 ⟨v2, rfl, hown2, hb3⟩
  obtain ⟨a2, cap2, rfl, j1, j2⟩ := ints_at hown2
  rw [aq_trim]
  have HIN2 : Hid (ExtsIn w2 a (E aq)) := HIN.out.below hb3
  have h3 := Find_yes (E aq) a cap 3 (by omega) w2 HIN2.out (by rw [aq_len]; omega) (sok_E aq_valid)
  rw [aq_len, aq_find] at h3
  have hb4 := hb2.trans (hb3.mono hb2.size)
  clear HIN hb2 hb3 hown2 j1 j2
  go_wp2_with fail
  refine h3.mono ?_
  clear h3
  rintro e w3 ⟨rfl, hb5⟩
  have h4 := SoundE_yes (E aq) a cap w3 (HIN2.out.below hb5) (by rw [aq_len]; omega) (sok_E aq_valid)
  rw [aq_len] at h4
  have hb6 := hb4.trans (hb5.mono hb4.size)
  clear HIN2 hb4 hb5
  go_wp2_with fail
  refine h4.mono ?_
  clear h4
  rintro e w4 ⟨rfl, hb7⟩
  have hb8 := hb6.trans (hb7.mono hb6.size)
  go_wp2
  go_ret
  exact ⟨rfl, hb8⟩
end Go.Proofs.Ytbelfapnjjeclaa
