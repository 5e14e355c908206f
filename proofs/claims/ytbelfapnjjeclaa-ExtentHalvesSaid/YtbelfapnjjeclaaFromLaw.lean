/- The walk of the law ExtentFrom: whatever slice of numbers, it returns true and writes nothing that was there. No condition. -/
import Derived.Test.YtbelfapnjjeclaaAwake
namespace Go.Proofs.Ytbelfapnjjeclaa
open Go.RowKit Go.Maps

/-- A slice of numbers that came in: it is nil; or it leads to a row of 'cap' cells, the numbers 'zs'. -/
def CameIn (w : World) (a : Option Addr) (len cap : Nat) (zs : List Int) : Prop :=
  (a = none ∧ len = 0 ∧ cap = 0 ∧ zs = []) ∨
  ∃ x, a = some x ∧ len ≤ cap ∧ cap ≤ maxLen ∧ zs.length = cap ∧ (∀ i, i < zs.length → w.cell? (x.add i) = some (.int .i64 (zs.getD i 0))) ∧ ∀ n ∈ zs, (Lit.int .i64 n).wf = true

theorem came_ints {w : World} {a : Option Addr} {len cap : Nat} {zs : List Int} (h : CameIn w a len cap zs) : IntsIn w a len zs := by
  rcases h with ⟨rfl, rfl, _, rfl⟩ | ⟨x, rfl, hlc, hcm, hz, hcell, hwz⟩
  · exact ⟨Nat.zero_le _, Nat.zero_le _, by simp, fun h => by omega⟩
  · refine ⟨by omega, by omega, hwz, fun hl => ?_⟩
    obtain ⟨b, off, spot⟩ := x
    have hc := hcell 0 (by omega)
    have hspot : spot = none := by simpa [Addr.add] using World.cell?_spot hc
    subst hspot
    refine ⟨b, off, rfl, World.block_lt_of_cell? w _ hc, fun j hj => ?_⟩
    have h1 := hcell j (by omega)
    rw [Addr.add_mid] at h1
    exact h1

/-- A file's pointers that came in. -/
theorem ints_ptrs {w : World} {a : Option Addr} {len : Nat} {zs : List Int} (h : IntsIn w a len zs) (hv : valid zs len = true) :
    ∃ qs : List Nat, qs.length = len ∧ Valid qs ∧ PtrsIn w a qs := by
  obtain ⟨qs, hl, hq, hc⟩ := valid_nat h.fits hv
  refine ⟨qs, hl, hq, fun hp => ?_⟩
  obtain ⟨b, off, rfl, hb, hcell⟩ := h.lies (by omega)
  refine ⟨b, off, rfl, hb, fun j hj => ?_⟩
  rw [hcell j (by omega), hc j (by omega)]

theorem E_small {qs : List Nat} (hv : Valid qs) : ∀ x ∈ E qs, x.2.1 ≤ 480 ∧ x.2.2 ≤ 480 := by
  have key : ∀ l e nx pr, Sok l e nx pr → ∀ x ∈ l, x.2.1 ≤ 480 ∧ x.2.2 ≤ 480 := by
    intro l
    induction l with
    | nil => intro e nx pr _ x hx; cases hx
    | cons y l ih =>
      obtain ⟨a, f, n⟩ := y
      intro e nx pr h x hx
      obtain ⟨⟨h1, h2, h3, _⟩, h4⟩ := h
      rcases List.mem_cons.1 hx with rfl | hx
      · exact ⟨by simp; omega, by simp; omega⟩
      · exact ih _ _ _ h4 x hx
  exact key _ _ _ _ (sok_E hv)

set_option maxRecDepth 100000 in
set_option maxHeartbeats 800000 in
theorem ExtentFrom_walk (a : Option Addr) (len cap : Nat) (zs : List Int) (w : World) (h : CameIn w a len cap zs) :
    Calls Try.prog 3 #[.slice a len cap] w fun e w' => e = .returned (.bool true) ∧ Below w.heap.size w w' := by
  have hi := came_ints h
  clear h
  cases hv : valid zs len
  · have h1 := From_no (cap := cap) hi hv
    have h2 : ∀ w1, Below w.heap.size w w1 → Calls Try.prog 7 #[.slice a len cap] w1 fun e w' => e = .returned (.bool false) ∧ Below w1.heap.size w1 w' := fun w1 hb => by
      have := PointersR_in (cap := cap) (hi.below hb)
      rw [hv] at this; exact this
    have H2 : Hid (∀ w1, Below w.heap.size w w1 → Calls Try.prog 7 #[.slice a len cap] w1 fun e w' => e = .returned (.bool false) ∧ Below w1.heap.size w1 w') := h2
    clear h2 hi hv
    go_enter Try.func3, Try.ntmps3
    go_wp2_with fail
    refine h1.mono ?_
    clear h1
    rintro e w1 ⟨rfl, hb1⟩
    have h2 := H2.out w1 hb1
    clear H2
    go_wp2_with fail
    refine h2.mono ?_
    clear h2
    rintro e w2 ⟨rfl, hb2⟩
    have hb3 := hb1.trans (hb2.mono hb1.size)
    clear hb1 hb2
    go_wp2_with fail
    refine (awake_yes _).mono ?_
    rintro e w3 ⟨rfl, hb4⟩
    have hb5 := hb3.trans (hb4.mono hb3.size)
    go_wp2
    go_ret
    exact ⟨rfl, hb5⟩
  · obtain ⟨qs, rfl, hq, hp⟩ := ints_ptrs hi hv
    have h1 := From_yes (cap := cap) hi hv hq hp
    have H2 : Hid (∀ w1, Below w.heap.size w w1 → Calls Try.prog 7 #[.slice a qs.length cap] w1 fun e w' => e = .returned (.bool true) ∧ Below w1.heap.size w1 w') := fun w1 hb => by
      have := PointersR_in (cap := cap) (hi.below hb)
      rw [hv] at this; exact this
    have H3 : Hid (∀ w1, Below w.heap.size w w1 → Calls Try.prog 10 #[.slice a qs.length cap] w1 (ExtsPost w1 (E qs))) := fun w1 hb => FromR_in hq (hp.below hb)
    have H4 : Hid (∀ B1 B2 v1 v2 w1, w1.ownsRow B1 45 2 v1 (E qs).length (extsV (E qs)) → w1.ownsRow B2 45 2 v2 (E qs).length (extsV (E qs)) → Calls Try.prog 9 #[v1, v2] w1 fun e w' => e = .returned (.bool true) ∧ Below w1.heap.size w1 w') := fun B1 B2 v1 v2 w1 => SameE_yes (E qs) (E_small hq) (by have := len_E_le hq; omega) B1 B2 v1 v2 w1
    generalize qs.length = len at *
    clear hi hv hq hp
    go_enter Try.func3, Try.ntmps3
    go_wp2_with fail
    refine h1.mono ?_
    clear h1
    rintro e w1 ⟨v, rfl, hown, hb1⟩
    have h2 := H2.out w1 hb1
    clear H2
    go_wp2_with fail
    refine h2.mono ?_
    clear h2
    rintro e w2 ⟨rfl, hb2⟩
    have hown2 := owns_below hown hb2
    have hb3 := hb1.trans (hb2.mono hb1.size)
    clear hown hb1 hb2
    go_wp2_with fail
    refine (awake_yes _).mono ?_
    rintro e w3 ⟨rfl, hb4⟩
    have hown3 := owns_below hown2 hb4
    have hb5 := hb3.trans (hb4.mono hb3.size)
    have h3 := H3.out w3 hb5
    clear hown2 hb3 hb4 H3
    go_wp2_with fail
    refine h3.mono ?_
    clear h3
    rintro e w4 ⟨v2, rfl, hownr, hb6⟩
    have hown4 := owns_below hown3 hb6
    have h4 := H4.out _ _ _ _ w4 hown4 hownr
    have hb7 := hb5.trans (hb6.mono hb5.size)
    clear hown3 hown4 hownr hb5 hb6 H4
    go_wp2_with fail
    refine h4.mono ?_
    clear h4
    rintro e w5 ⟨rfl, hb8⟩
    have hb9 := hb7.trans (hb8.mono hb7.size)
    go_wp2
    go_ret
    exact ⟨rfl, hb9⟩
end Go.Proofs.Ytbelfapnjjeclaa
