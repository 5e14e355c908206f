/- The walks of tree.Pointers and of the reference's Pointers: whether numbers are a file's pointers, for whatever slice of numbers shorter than 2^47. -/
import Derived.Test.YtbelfapnjjeclaaNums
import Derived.Test.YtbelfapnjjeclaaSound
import Derived.Maps.OwnSet
import Derived.Maps.OwnOps
namespace Go.Proofs.Ytbelfapnjjeclaa
open Go.RowKit Go.Maps

theorem law3 : Keyed Try.prog 3 := int_keyed Try.underlying3
theorem zero53 (w : World) : (zeroValue 53).run Try.prog w = .ok (.agg #[]) w := by kernel_rfl

/-- Pointer i tells that they are not a file's. -/
def bad (zs : List Int) (i : Nat) : Bool :=
  (zs.getD i 0 != 0) && ((zs.take i).contains (zs.getD i 0) || !(decide (59 ≤ zs.getD i 0) && decide (zs.getD i 0 < 480)))
def apart (zs : List Int) (len : Nat) : Bool := (List.range len).all fun i => !bad zs i
def valid (zs : List Int) (len : Nat) : Bool := decide (len ≤ 96) && apart zs len

def Sd {H : Type} (zs : List Int) (k : Nat) : DataW H := setOf (.agg []) ((zs.take k).map (Lit.int .i64))

theorem any_int (x : Int) : ∀ l : List Int, l.any ((fun y : Lit => y.sameKey (.int .i64 x)) ∘ Lit.int .i64) = l.contains x
  | [] => rfl
  | a :: r => by
    rw [List.any_cons, List.contains_cons, any_int x r]
    congr 1
    show decide (IntKind.i64 = IntKind.i64 ∧ a = x) = (x == a)
    by_cases e : a = x
    · subst e
      simp
    · have e' : ¬ x = a := fun h => e h.symm
      simp [e, e']

theorem has_Sd {H : Type} (zs : List Int) (k : Nat) (x : Int) : Maps.has (Sd (H := H) zs k) (.int .i64 x) = (zs.take k).contains x := by
  unfold Sd
  rw [has_setOf _ _ _ (fun y hy => by obtain ⟨_, _, rfl⟩ := List.mem_map.1 hy; trivial), List.any_map]
  exact any_int x _

theorem Sd_succ {H : Type} (zs : List Int) (k : Nat) (hk : k < zs.length) : Sd (H := H) zs (k + 1) = (Sd zs k).put (.int .i64 (zs.getD k 0)) (.agg []) := by
  unfold Sd
  rw [List.take_add_one, List.map_append, List.getElem?_eq_getElem hk]
  simp only [Option.toList_some, List.map_cons, List.map_nil, setOf_snoc, List.getD, List.getElem?_eq_getElem hk, Option.getD_some]

theorem apart_bad {zs : List Int} {len k : Nat} (hk : k < len) (h : bad zs k = true) : apart zs len = false := by
  unfold apart
  rw [List.all_eq_false]
  exact ⟨k, List.mem_range.2 hk, by simp [h]⟩

theorem apart_all {zs : List Int} {len : Nat} (h : ∀ i, i < len → bad zs i = false) : apart zs len = true := by
  unfold apart
  rw [List.all_eq_true]
  intro i hi
  rw [h i (List.mem_range.1 hi)]; rfl

theorem ret_bool {a b : Bool} (h : a = b) : Ending.returned (.bool a) = .returned (.bool b) := by rw [h]

/-- Is it a data block? -/
def data (p : Int) : Bool := decide (59 ≤ p) && decide (p < 480)

set_option maxHeartbeats 400000 in
theorem Data_is (p : Int) (x : Bool) (h : data p = x) (w : World) : Calls Try.prog 26 #[.int .i64 p] w fun e w' => e = .returned (.bool x) ∧ w = w' := by
  subst h
  unfold data
  by_cases h1 : 59 ≤ p
  all_goals
    go_enter Try.func26, Try.ntmps26
    go_wp2
    go_ret
    exact ⟨ret_bool (by simp [h1]; try omega), rfl⟩

set_option maxHeartbeats 400000 in
theorem DataR_is (p : Int) (x : Bool) (h : data p = x) (w : World) : Calls Try.prog 27 #[.int .i64 p] w fun e w' => e = .returned (.bool x) ∧ w = w' := by
  subst h
  unfold data
  by_cases h1 : 59 ≤ p
  all_goals
    go_enter Try.func27, Try.ntmps27
    go_wp2
    go_ret
    exact ⟨ret_bool (by simp [h1]; try omega), rfl⟩

theorem bad_zero {zs : List Int} {k : Nat} (h : zs.getD k 0 = 0) : bad zs k = false := by unfold bad; rw [h]; rfl
theorem bad_twice {zs : List Int} {k : Nat} (h : zs.getD k 0 ≠ 0) (h2 : (zs.take k).contains (zs.getD k 0) = true) : bad zs k = true := by
  unfold bad; rw [h2]; simpa using h
theorem bad_data {zs : List Int} {k : Nat} {x : Bool} (h : zs.getD k 0 ≠ 0) (h2 : (zs.take k).contains (zs.getD k 0) = false) (h3 : data (zs.getD k 0) = x) : bad zs k = !x := by
  unfold bad data at *
  rw [h2, h3]
  have : (zs.getD k 0 != 0) = true := by simpa using h
  rw [this]; simp

theorem Pointers_none (a : Option Addr) (cap : Nat) (w : World) :
    Calls Try.prog 16 #[.slice a 0 cap] w fun e w' => e = .returned (.bool true) ∧ Below w.heap.size w w' := by
  have hmm := @run_makeMap Try.prog
  go_enter Try.func16, Try.ntmps16
  go_wp2
  refine wp_loop_rounds 1 ?_
  rw [rounds_succ]
  go_wp2
  go_ret
  exact ⟨rfl, (Below.refl _ _).alloc (Nat.le_refl _) _⟩

theorem valid_false {zs : List Int} {len : Nat} (h : apart zs len = false) : valid zs len = false := by simp [valid, h]

theorem wf_at {zs : List Int} (h : ∀ n ∈ zs, (Lit.int .i64 n).wf = true) (k : Nat) : (Lit.int .i64 (zs.getD k 0)).wf = true := by
  by_cases hk : k < zs.length
  · rw [List.getD_eq_getElem?_getD, List.getElem?_eq_getElem hk]; exact h _ (List.getElem_mem hk)
  · rw [List.getD_eq_getElem?_getD, List.getElem?_eq_none (by omega)]; rfl

set_option maxHeartbeats 1600000 in
set_option maxRecDepth 100000 in
theorem Pointers_any (b off len cap : Nat) (zs : List Int) (w : World) (hm : len ≤ maxLen) (hz : len ≤ zs.length) (hb : b < w.heap.size)
    (hc : ∀ j, j < len → w.cell? ⟨b, off + j, none⟩ = some (.int .i64 (zs.getD j 0))) (hwz : ∀ n ∈ zs, (Lit.int .i64 n).wf = true) :
    Calls Try.prog 16 #[.slice (some ⟨b, off, none⟩) len cap] w fun e w' => e = .returned (.bool (valid zs len)) ∧ Below w.heap.size w w' := by
  have hmm := @run_makeMap Try.prog
  have HM : Hid (len ≤ maxLen) := hm
  have HC : Hid _ := hc
  have HW : Hid _ := hwz
  unfold maxLen at hm
  clear hc hwz
  go_enter Try.func16, Try.ntmps16
  go_wp2
  go_loopw [11] (fun i wr => ∃ k : Nat, k ≤ len ∧ i = .int .i64 k ∧ Hid (∀ i, i < k → bad zs i = false) ∧ wr.ownsMap Try.prog 3 unitElem w.heap.size k (Sd (H := Unit) zs k) ∧ Below w.heap.size w wr) (fun i _ => len - (intOf i).toNat)
  case atStart => exact ⟨0, Nat.zero_le _, rfl, fun i hi => by omega, World.ownsMap_made _ _ _ _, (Below.refl _ _).alloc (Nat.le_refl _) _⟩
  case round =>
    obtain ⟨k, hk, rfl, HB, hown, hnx⟩ := hrel
    have hsz := hnx.size
    by_cases hlt : k < len
    · obtain ⟨p, hp⟩ : ∃ p, p = zs.getD k 0 := ⟨_, rfl⟩
      have hcx : wr.cell? ⟨b, off + k, none⟩ = some (.int .i64 p) := by rw [hp]; exact (hnx.cell (by exact hb)).trans (HC.out k hlt)
      have hkey : keyOf Try.prog 3 (.int .i64 p) = some (.int .i64 p) := by rw [hp]; exact keyOf_int_mk Try.underlying3 (wf_at HW.out k)
      have HS : Hid (Sd (H := Unit) zs (k + 1) = (Sd zs k).put (.int .i64 p) (.agg [])) := by show _ = _; rw [hp]; exact Sd_succ zs k (by omega)
      have hhas : Maps.has (Sd (H := Unit) zs k) (.int .i64 p) = (zs.take k).contains p := has_Sd zs k p
      have step : bad zs k = false → ∀ i, i < k + 1 → bad zs i = false := fun h i hi => by
        by_cases e : i = k
        · rw [e]; exact h
        · exact HB.out i (by omega)
      by_cases hp0 : p = 0
      · have HB2 : Hid (∀ i, i < k + 1 → bad zs i = false) := step (bad_zero (by rw [← hp]; exact hp0))
        have hne : (p != 0) = false := by simpa using hp0
        clear hhas step hp hp0
        go_wp2_with (first
          | (at_lookup; refine wpList_lookup_own_unit _ rfl _ _ 52 rfl 3 53 law3 Try.underlying52 (zero53 _) w.heap.size k _ rfl hown _ _ rfl hkey ?_)
          | (at_mapUpdate; refine wpList_mapUpdate_own _ rfl _ _ _ 52 rfl 3 53 law3 Try.underlying52 (unitElem (H := Unit)) w.heap.size k _ rfl (hown.alloc _) (by have := HM.out; omega) _ _ _ rfl rfl hkey _ [] unitElem_mk ?_; intro w1 hown1 hgrow1))
        rw [← HS.out] at hown1
        have hb1 := (hnx.alloc hnx.size _).grown hgrow1 (by simp; omega) (fun j hj => by cases hj; exact Nat.le_refl _)
        clear hgrow1 hown hnx
        go_roundw
        case rel => exact ⟨k + 1, by omega, by go_num, HB2, hown1, hb1⟩
        case measure => simp [intOf]; omega
      · have hne : (p != 0) = true := by simpa using hp0
        have hnp : zs.getD k 0 ≠ 0 := by rw [← hp]; exact hp0
        cases htw : (zs.take k).contains p
        · have hdat := fun x => bad_data (x := x) hnp (by rw [← hp]; exact htw)
          rw [← hp] at hdat
          rw [htw] at hhas
          cases hda : data p
          · have HV : Hid (valid zs len = false) := valid_false (apart_bad hlt (hdat false hda))
            have HD : Hid (data p = false) := hda
            clear hdat step hda htw hp hnp
            go_wp2_with (first
          | (at_lookup; refine wpList_lookup_own_unit _ rfl _ _ 52 rfl 3 53 law3 Try.underlying52 (zero53 _) w.heap.size k _ rfl hown _ _ rfl hkey ?_)
          | (at_mapUpdate; refine wpList_mapUpdate_own _ rfl _ _ _ 52 rfl 3 53 law3 Try.underlying52 (unitElem (H := Unit)) w.heap.size k _ rfl (hown.alloc _) (by have := HM.out; omega) _ _ _ rfl rfl hkey _ [] unitElem_mk ?_; intro w1 hown1 hgrow1)
              | (go_at_call 26; refine (Data_is p false HD.out _).mono ?_; rintro e w' ⟨rfl, rfl⟩))
            go_ret
            exact ⟨ret_bool HV.out.symm, hnx.alloc hnx.size _⟩
          · have HB2 : Hid (∀ i, i < k + 1 → bad zs i = false) := step (hdat true hda)
            have HD : Hid (data p = true) := hda
            clear hdat step hda htw hp hnp
            go_wp2_with (first
          | (at_lookup; refine wpList_lookup_own_unit _ rfl _ _ 52 rfl 3 53 law3 Try.underlying52 (zero53 _) w.heap.size k _ rfl hown _ _ rfl hkey ?_)
          | (at_mapUpdate; refine wpList_mapUpdate_own _ rfl _ _ _ 52 rfl 3 53 law3 Try.underlying52 (unitElem (H := Unit)) w.heap.size k _ rfl (hown.alloc _) (by have := HM.out; omega) _ _ _ rfl rfl hkey _ [] unitElem_mk ?_; intro w1 hown1 hgrow1)
              | (go_at_call 26; refine (Data_is p true HD.out _).mono ?_; rintro e w' ⟨rfl, rfl⟩))
            rw [← HS.out] at hown1
            have hb1 := (hnx.alloc hnx.size _).grown hgrow1 (by simp; omega) (fun j hj => by cases hj; exact Nat.le_refl _)
            clear hgrow1 hown hnx
            go_roundw
            case rel => exact ⟨k + 1, by omega, by go_num, HB2, hown1, hb1⟩
            case measure => simp [intOf]; omega
        · have HV : Hid (valid zs len = false) := valid_false (apart_bad hlt (bad_twice hnp (by rw [← hp]; exact htw)))
          rw [htw] at hhas
          clear step htw hp hnp
          go_wp2_with (first
          | (at_lookup; refine wpList_lookup_own_unit _ rfl _ _ 52 rfl 3 53 law3 Try.underlying52 (zero53 _) w.heap.size k _ rfl hown _ _ rfl hkey ?_)
          | (at_mapUpdate; refine wpList_mapUpdate_own _ rfl _ _ _ 52 rfl 3 53 law3 Try.underlying52 (unitElem (H := Unit)) w.heap.size k _ rfl (hown.alloc _) (by have := HM.out; omega) _ _ _ rfl rfl hkey _ [] unitElem_mk ?_; intro w1 hown1 hgrow1))
          go_ret
          exact ⟨ret_bool HV.out.symm, hnx.alloc hnx.size _⟩
    · obtain rfl : k = len := by omega
      have HV : Hid (valid zs k = decide (k ≤ 96)) := by show _ = _; unfold valid; rw [apart_all HB.out]; simp
      go_wp2
      go_ret
      exact ⟨ret_bool (by rw [HV.out]; simp; omega), hnx⟩

theorem Try.info4 : (Try.prog.info? 4).map (fun i => (i.zero, i.size, i.bytes)) = some (some (.bool false), 1, 1) := by kernel_rfl

/-- Which numbers were seen among the first k. -/
def Seen (w : World) (g : Nat) (zs : List Int) (k : Nat) : Prop := ∀ n : Nat, n < 480 → 59 ≤ n → w.cell? ⟨g, n, none⟩ = some (.bool ((zs.take k).contains (n : Int)))

theorem take_snoc {zs : List Int} {k : Nat} (hk : k < zs.length) : zs.take (k + 1) = zs.take k ++ [zs.getD k 0] := by
  rw [List.take_succ_eq_append_getElem hk, List.getD_eq_getElem?_getD, List.getElem?_eq_getElem hk]; rfl

theorem seen_zero {w : World} {g : Nat} {zs : List Int} {k : Nat} (hk : k < zs.length) (h0 : zs.getD k 0 = 0) (h : Seen w g zs k) : Seen w g zs (k + 1) := by
  intro n hn h1
  rw [h n hn h1, take_snoc hk, h0]
  simp; omega

theorem seen_step {w : World} {g : Nat} {zs : List Int} {k pn : Nat} (hk : k < zs.length) (h0 : zs.getD k 0 = (pn : Int)) (h : Seen w g zs k) : Seen (w.setCell ⟨g, pn, none⟩ (.bool true)) g zs (k + 1) := by
  intro n hn h1
  rw [take_snoc hk, h0]
  by_cases e : n = pn
  · subst e
    rw [World.cell?_setCell_same w _ _ (h n hn h1)]
    simp
  · have hne : (⟨g, pn, none⟩ : Addr) ≠ ⟨g, n, none⟩ := fun h' => e (by injection h' with _ h2 _; exact h2.symm)
    rw [World.cell?_setCell_other w _ _ _ hne, h n hn h1]
    simp; omega

theorem Apart_none (a : Option Addr) (cap : Nat) (w : World) :
    Calls Try.prog 18 #[.slice a 0 cap] w fun e w' => e = .returned (.bool true) ∧ Below w.heap.size w w' := by
  obtain ⟨i0, hi, hz0, hz1, hz2⟩ := info_parts Try.info4
  go_enter Try.func18, Try.ntmps18
  go_wp2_with (at_make; refine wpList_make_full _ rfl _ _ 56 rfl w.heap.size 4 i0 (.bool false) 1 Try.underlying56 hi hz0 hz1 .i64 .i64 480 480 480 rfl rfl (by omega) (by omega) (by rw [hz2]; omega) (by unfold maxLen; omega) (Nat.le_refl _) ?_; intro w1 hown hgrow)
  refine wp_loop_rounds 1 ?_
  rw [rounds_succ]
  go_wp2
  go_ret
  exact ⟨rfl, (Below.refl _ _).grown hgrow (Nat.le_refl _) (by simp)⟩

set_option maxHeartbeats 1600000 in
set_option maxRecDepth 100000 in
theorem Apart_any (b off len cap : Nat) (zs : List Int) (w : World) (hm : len ≤ 96) (hz : len ≤ zs.length) (hb : b < w.heap.size)
    (hc : ∀ j, j < len → w.cell? ⟨b, off + j, none⟩ = some (.int .i64 (zs.getD j 0))) :
    Calls Try.prog 18 #[.slice (some ⟨b, off, none⟩) len cap] w fun e w' => e = .returned (.bool (apart zs len)) ∧ Below w.heap.size w w' := by
  obtain ⟨i0, hi, hz0, hz1, hz2⟩ := info_parts Try.info4
  have HC : Hid _ := hc
  clear hc
  go_enter Try.func18, Try.ntmps18
  go_wp2_with (at_make; refine wpList_make_full _ rfl _ _ 56 rfl w.heap.size 4 i0 (.bool false) 1 Try.underlying56 hi hz0 hz1 .i64 .i64 480 480 480 rfl rfl (by omega) (by omega) (by rw [hz2]; omega) (by unfold maxLen; omega) (Nat.le_refl _) ?_; intro w1 hown hgrow)
  have hbel : Below w.heap.size w w1 := (Below.refl _ _).grown hgrow (Nat.le_refl _) (by simp)
  have hseen : Seen w1 w.heap.size zs 0 := fun n hn _ => by
    rw [hown.cellAt n (by omega), show (Value.bool false).cells = #[Value.bool false] from rfl, toList_madeCells_one, List.getElem?_replicate, if_pos (by omega)]
    rfl
  have hfr : ∀ n, w1.frozen? ⟨w.heap.size, n, none⟩ = false := fun n => hown.frozenAt n
  clear hown hgrow
  go_loopw [4] (fun i wr => ∃ k : Nat, k ≤ len ∧ i = .int .i64 k ∧ Hid (∀ i, i < k → bad zs i = false) ∧ Seen wr w.heap.size zs k ∧ (∀ n, wr.frozen? ⟨w.heap.size, n, none⟩ = false) ∧ Below w.heap.size w wr) (fun i _ => len - (intOf i).toNat)
  case atStart => exact ⟨0, Nat.zero_le _, rfl, fun i hi => by omega, hseen, hfr, hbel⟩
  case round =>
    clear hseen hfr hbel
    obtain ⟨k, hk, rfl, HB, hseen, hfr, hnx⟩ := hrel
    by_cases hlt : k < len
    · obtain ⟨p, hp⟩ : ∃ p, p = zs.getD k 0 := ⟨_, rfl⟩
      have hcx : wr.cell? ⟨b, off + k, none⟩ = some (.int .i64 p) := by rw [hp]; exact (hnx.cell (by exact hb)).trans (HC.out k hlt)
      have step : bad zs k = false → ∀ i, i < k + 1 → bad zs i = false := fun h i hi => by
        by_cases e : i = k
        · rw [e]; exact h
        · exact HB.out i (by omega)
      by_cases hp0 : p = 0
      · have HB2 : Hid (∀ i, i < k + 1 → bad zs i = false) := step (bad_zero (by rw [← hp]; exact hp0))
        have HS : Hid (Seen wr w.heap.size zs (k + 1)) := seen_zero (by omega) (by rw [← hp]; exact hp0) hseen
        have hne : (p == 0) = true := by simpa using hp0
        have HF : Hid _ := hfr
        clear step hp hp0 hseen hfr
        go_wp2
        go_roundw
        case rel => exact ⟨k + 1, by omega, by go_num, HB2, HS, HF, hnx⟩
        case measure => simp [intOf]; omega
      · have hne : (p == 0) = false := by simpa using hp0
        have hnp : zs.getD k 0 ≠ 0 := by rw [← hp]; exact hp0
        cases hda : data p
        · have hbad : bad zs k = true := by
            cases htw : (zs.take k).contains (zs.getD k 0)
            · have := bad_data (x := false) hnp htw (by rw [← hp]; exact hda)
              simpa using this
            · exact bad_twice hnp htw
          have HV : Hid (apart zs len = false) := apart_bad hlt hbad
          have HD : Hid (data p = false) := hda
          clear step hp hnp hp0 hda hbad hseen hfr
          go_wp2_with (go_at_call 27; refine (DataR_is p false HD.out _).mono ?_; rintro e w' ⟨rfl, rfl⟩)
          go_ret
          exact ⟨ret_bool HV.out.symm, hnx⟩
        · have hd := hda
          unfold data at hd
          simp only [Bool.and_eq_true, decide_eq_true_eq] at hd
          obtain ⟨pn, rfl⟩ := Int.eq_ofNat_of_zero_le (show 0 ≤ p by omega)
          have h59 : 59 ≤ pn := by omega
          have h480 : pn < 480 := by omega
          have h2 := hseen pn h480 h59
          have hf2 := hfr pn
          have HD : Hid (data (pn : Int) = true) := hda
          cases htw : (zs.take k).contains (pn : Int)
          · have HB2 : Hid (∀ i, i < k + 1 → bad zs i = false) := step (by have := bad_data (x := true) hnp (by rw [← hp]; exact htw) (by rw [← hp]; exact hda); simpa using this)
            have HS : Hid (Seen (wr.setCell ⟨w.heap.size, pn, none⟩ (.bool true)) w.heap.size zs (k + 1)) := seen_step (by omega) hp.symm hseen
            have HF : Hid _ := hfr
            have HN : Hid _ := hnx
            rw [htw] at h2
            clear step hp hnp hp0 hda hd htw hseen hfr hnx
            go_wp2_with (go_at_call 27; refine (DataR_is (pn : Int) true HD.out _).mono ?_; rintro e w' ⟨rfl, rfl⟩)
            go_roundw
            case rel => exact ⟨k + 1, by omega, by go_num, HB2, HS, fun n => (World.frozen?_setCell _ _ _ _).trans (HF.out n), HN.out.setCell (p := ⟨w.heap.size, pn, none⟩) (Nat.le_refl _) _⟩
            case measure => simp [intOf]; omega
          · have HV : Hid (apart zs len = false) := apart_bad hlt (bad_twice hnp (by rw [← hp]; exact htw))
            rw [htw] at h2
            clear step hp hnp hp0 hda hd htw hseen hfr
            go_wp2_with (go_at_call 27; refine (DataR_is (pn : Int) true HD.out _).mono ?_; rintro e w' ⟨rfl, rfl⟩)
            go_ret
            exact ⟨ret_bool HV.out.symm, hnx⟩
    · obtain rfl : k = len := by omega
      have HV : Hid (apart zs k = true) := apart_all HB.out
      clear hseen hfr
      go_wp2
      go_ret
      exact ⟨ret_bool HV.out.symm, hnx⟩

theorem PointersR_none (a : Option Addr) (cap : Nat) (w : World) :
    Calls Try.prog 7 #[.slice a 0 cap] w fun e w' => e = .returned (.bool true) ∧ Below w.heap.size w w' := by
  go_enter Try.func7, Try.ntmps7
  go_wp2_with (go_at_call 18; refine (Apart_none _ cap _).mono ?_; rintro e w' ⟨rfl, hb1⟩)
  go_ret
  exact ⟨rfl, hb1⟩

set_option maxHeartbeats 400000 in
theorem PointersR_any (b off len cap : Nat) (zs : List Int) (w : World) (hz : len ≤ zs.length) (hb : b < w.heap.size)
    (hc : ∀ j, j < len → w.cell? ⟨b, off + j, none⟩ = some (.int .i64 (zs.getD j 0))) :
    Calls Try.prog 7 #[.slice (some ⟨b, off, none⟩) len cap] w fun e w' => e = .returned (.bool (valid zs len)) ∧ Below w.heap.size w w' := by
  have HC : Hid _ := hc
  clear hc
  by_cases hm : len ≤ 96
  · have HV : Hid (valid zs len = apart zs len) := by show _ = _; simp [valid, hm]
    go_enter Try.func7, Try.ntmps7
    go_wp2_with (go_at_call 18; refine (Apart_any b off len cap zs _ hm hz hb HC.out).mono ?_; rintro e w' ⟨rfl, hb1⟩)
    go_ret
    exact ⟨ret_bool HV.out.symm, hb1⟩
  · have HV : Hid (valid zs len = false) := by show _ = _; simp [valid, hm]
    go_enter Try.func7, Try.ntmps7
    go_wp2
    go_ret
    exact ⟨ret_bool HV.out.symm, Below.refl _ _⟩
end Go.Proofs.Ytbelfapnjjeclaa
