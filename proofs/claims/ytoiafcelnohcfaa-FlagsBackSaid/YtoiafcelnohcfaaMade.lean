/- The walks of flags.Up, flags.New and bytes.Clone at 60 bytes that lie in memory. No other condition. -/
import Derived.Test.YtoiafcelnohcfaaRef
namespace Go.Proofs.Ytoiafcelnohcfaa
open Go.RowKit

set_option maxHeartbeats 400000 in
theorem Up_form (a : Option Addr) (len cap : Nat) (n : Int) (hl2 : ((len : Int) != 60) = true) (w : World) :
    Calls Try.prog 14 #[.slice a len cap, .int .i64 n] w fun e w' => e = .returned (.tuple #[.bool false, .int .i64 2]) ∧ w = w' := by
  go_enter Try.func14, Try.ntmps14
  go_wp2
  go_ret2
  exact ⟨rfl, rfl⟩

set_option maxHeartbeats 400000 in
theorem Up_arg (a : Option Addr) (cap : Nat) (n : Int) (ht : n < 0 ∨ 480 ≤ n) (w : World) :
    Calls Try.prog 14 #[.slice a 60 cap, .int .i64 n] w fun e w' => e = .returned (.tuple #[.bool false, .int .i64 1]) ∧ w = w' := by
  rcases ht with h | h
  · go_enter Try.func14, Try.ntmps14
    go_wp2
    go_ret2
    exact ⟨rfl, rfl⟩
  · have h0 : ¬ n < 0 := by omega
    go_enter Try.func14, Try.ntmps14
    go_wp2
    go_ret2
    exact ⟨rfl, rfl⟩

set_option maxHeartbeats 400000 in
theorem Up_ok (zs : List Int) (hf : Fits zs) (b off cap n : Nat) (hn : n < 480) (w : World) (hc : Lies w b off zs) :
    Calls Try.prog 14 #[.slice (some ⟨b, off, none⟩) 60 cap, .int .i64 n] w fun e w' => e = .returned (.tuple #[.bool (bit zs n), .int .i64 0]) ∧ w = w' := by
  go_enter Try.func14, Try.ntmps14
  go_wp2_with (go_at_call 17; refine (up_any zs hf b off cap n hn _ hc).mono ?_; rintro e w' ⟨rfl, rfl⟩)
  go_ret2
  exact ⟨rfl, rfl⟩

theorem Try.info5 : (Try.prog.info? 5).map (fun i => (i.zero, i.size, i.bytes)) = some (some (.int .u8 0), 1, 1) := by kernel_rfl

/-- What a function that makes a map gives: 60 bytes of its own. -/
def Map60 (w : World) (zs : List Int) (e : Ending) (w' : World) : Prop :=
  ∃ g cp, e = .returned (.slice (some ⟨g, 0, none⟩) 60 cp) ∧ 60 ≤ cp ∧ Lies w' g 0 zs ∧ (∀ n, w'.frozen? ⟨g, n, none⟩ = false) ∧ w.heap.size ≤ g ∧ g < w'.heap.size ∧ Below w.heap.size w w'

/-- No flag is up. -/
def none60 : List Int := List.replicate 60 0

theorem add_plain (b off j : Nat) : ((⟨b, off, none⟩ : Addr).add j) = ⟨b, off + j, none⟩ := by
  unfold Addr.add
  by_cases h : j = 0
  · subst h; simp
  · rw [if_neg h]

theorem map60_of_owns {w w' : World} {v : Value} {zs : List Int} (h : w'.ownsRow w.heap.size 5 1 v 60 (zs.map (Value.int .u8))) (hl : zs.length = 60) (hb : Below w.heap.size w w') : Map60 w zs (.returned v) w' := by
  have hcap := h.2
  obtain ⟨g, cp, rfl, _, _⟩ := h.form (by omega)
  have hlt := h.lt g rfl
  refine ⟨g, cp, rfl, ?_, fun i hi => ?_, fun n => h.frozenAt n, hlt.1, hlt.2, hb⟩
  · rcases hcap with ⟨h1, _⟩ | ⟨g', cap', cur, h1, _, _, h2, _⟩
    · simp at h1
    · simp only [Value.slice.injEq] at h1
      omega
  · rw [Nat.zero_add, h.cellAt i (by omega), List.getElem?_map, List.getElem?_eq_getElem (by omega)]
    rfl

set_option maxRecDepth 100000 in
set_option maxHeartbeats 800000 in
theorem New_any (w : World) : Calls Try.prog 20 #[] w (Map60 w none60) := by
  obtain ⟨i0, hi, hz0, hz1, hz2⟩ := info_parts Try.info5
  go_enter Try.func20, Try.ntmps20
  go_wp2_with (at_make; refine wpList_make_full _ rfl _ _ 22 rfl w.heap.size 5 i0 (.int .u8 0) 1 Try.underlying22 hi hz0 hz1 .i64 .i64 60 60 60 rfl rfl (by omega) (by omega) (by rw [hz2]; omega) (by unfold maxLen; omega) (Nat.le_refl _) ?_; intro w1 hown hgrow)
  go_ret
  refine map60_of_owns (zs := none60) ?_ (by simp [none60]) ((Below.refl _ _).grown hgrow (Nat.le_refl _) (by simp))
  rw [show (Value.int .u8 0).cells = #[Value.int .u8 0] from rfl, toList_madeCells_one] at hown
  simpa [none60, List.map_replicate] using hown

set_option maxRecDepth 100000 in
set_option maxHeartbeats 800000 in
theorem Clone_any (zs : List Int) (hl : zs.length = 60) (b off cap : Nat) (w : World) (hb : b < w.heap.size) (hc : Lies w b off zs) :
    Calls Try.prog 21 #[.slice (some ⟨b, off, none⟩) 60 cap] w (Map60 w zs) := by
  obtain ⟨i0, hi, hz0, hz1, hz2⟩ := info_parts Try.info5
  have hn := fun W => Lib.run_eql_slice_nil (P := Try.prog) W 22 5 (some ⟨b, off, none⟩) 60 cap 0 0 Try.underlying22
  have hnews : ∀ j u, (zs.map (Value.int .u8))[j]? = some u → (w.alloc (.cells #[] 5)).cell? ((⟨b, off, none⟩ : Addr).add j) = some u := by
    intro j u hj
    have hj2 : j < 60 := by
      have := (List.getElem?_eq_some_iff.1 hj).1
      simpa [hl] using this
    have e : ((⟨b, off, none⟩ : Addr).add j) = ⟨b, off + j, none⟩ := add_plain b off j
    rw [e, World.cell?_alloc_past _ _ _ hb, hc.at j hj2]
    rw [List.getElem?_map, List.getElem?_eq_getElem (by omega)] at hj
    rw [List.getElem?_eq_getElem (by omega)]
    exact hj
  have HN : Hid _ := hnews
  clear hnews hc
  go_enter Try.func21, Try.ntmps21
  go_wp2_with (at_builtin; refine wpList_append_lies _ rfl _ _ _ rfl w.heap.size 5 i0 _ 1 1 Try.underlying22 hi hz0 hz1 hz2 rfl (by omega) (.slice (some ⟨w.heap.size, 0, none⟩) 0 0) 0 [] rfl (World.ownsRow_made w #[] 0 (Nat.le_refl _) (by unfold maxLen; omega) rfl) ⟨b, off, none⟩ 60 cap (zs.map (Value.int .u8)) rfl (by simp [hl]) HN.out (by simp [Value.oneCell']) (by omega) (by unfold maxLen; omega) (by omega) (by simp) (w.heap.size + 1) (by simp) ?_; intro gg cp1 w1 hown1 hgrow hat1 hlt1)
  go_ret
  exact map60_of_owns hown1 hl (((Below.refl _ _).alloc (Nat.le_refl _) _).grown hgrow (by simp) (by simp [Value.ownBlock]))
end Go.Proofs.Ytoiafcelnohcfaa
