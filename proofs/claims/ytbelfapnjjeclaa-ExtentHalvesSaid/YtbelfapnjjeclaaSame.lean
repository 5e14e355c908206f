/- The walks of the reference's SameExtents at two slices that hold the same extents, and of extent.From. -/
import Derived.Test.YtbelfapnjjeclaaRefFrom
namespace Go.Proofs.Ytbelfapnjjeclaa
open Go.RowKit Go.Maps

theorem extsV_at (l : List Ext) : ∀ i, (hi : i < l.length) → (extsV l)[i * 2]? = some (.int .i64 ((l[i].1 : Nat) : Int)) ∧ (extsV l)[i * 2 + 1]? = some (.complex .f64 (F ((l[i].2.1 : Nat) : Int)) (F ((l[i].2.2 : Nat) : Int))) := by
  induction l with
  | nil => intro i hi; simp at hi
  | cons x l ih =>
    intro i hi
    have e : extsV (x :: l) = extV x ++ extsV l := rfl
    cases i with
    | zero => exact ⟨rfl, rfl⟩
    | succ i =>
      have h := ih i (by simpa using hi)
      have e1 : (i + 1) * 2 = i * 2 + 2 := by omega
      rw [e1]
      exact h

/-- A slice of the call's own that holds extents: where its cells lie. -/
theorem owns_at {w : World} {B : Nat} {v : Value} {l : List Ext} (h : w.ownsRow B 45 2 v l.length (extsV l)) :
    ∃ a cap, v = .slice a l.length cap ∧ ∀ i, (hi : i < l.length) → ∃ g, a = some ⟨g, 0, none⟩ ∧ w.cell? ⟨g, i * 2, none⟩ = some (.int .i64 ((l[i].1 : Nat) : Int)) ∧ w.cell? ⟨g, i * 2 + 1, none⟩ = some (.complex .f64 (F ((l[i].2.1 : Nat) : Int)) (F ((l[i].2.2 : Nat) : Int))) := by
  by_cases hl : l.length = 0
  · rcases h.2 with ⟨h1, h2⟩ | ⟨g, cap, cur, h1, _⟩
    · exact ⟨none, 0, by rw [h1, hl], fun i hi => by omega⟩
    · exact ⟨_, _, h1, fun i hi => by omega⟩
  · obtain ⟨g, cap, rfl, _, _⟩ := h.form (by omega)
    refine ⟨_, _, rfl, fun i hi => ⟨g, rfl, ?_, ?_⟩⟩
    · rw [h.cellAt (i * 2) (by omega)]; exact (extsV_at l i hi).1
    · rw [h.cellAt (i * 2 + 1) (by omega)]; exact (extsV_at l i hi).2

theorem owns_below {w w' : World} {B : Nat} {e : TypeId} {size : Nat} {v : Value} {n : Nat} {xs : List Value} (h : w.ownsRow B e size v n xs) (hb : Below w.heap.size w w') : w'.ownsRow B e size v n xs := by
  refine ⟨h.1, ?_⟩
  rcases h.2 with h1 | ⟨g, cap, cur, hv, hg, hh, rest⟩
  · exact .inl h1
  · have hlt : g < w.heap.size := by
      rcases Nat.lt_or_ge g w.heap.size with h2 | h2
      · exact h2
      · rw [Array.getElem?_eq_none h2] at hh; cases hh
    exact .inr ⟨g, cap, cur, hv, hg, by rw [hb.block g hlt]; exact hh, rest⟩

theorem owns_mono {w : World} {B B' : Nat} {e : TypeId} {size : Nat} {v : Value} {n : Nat} {xs : List Value} (h : w.ownsRow B e size v n xs) (hB : B' ≤ B) : w.ownsRow B' e size v n xs := by
  refine ⟨h.1, ?_⟩
  rcases h.2 with h1 | ⟨g, cap, cur, hv, hb, rest⟩
  · exact .inl h1
  · exact .inr ⟨g, cap, cur, hv, Nat.le_trans hB hb, rest⟩

theorem same_F (x : Ext) (h1 : x.2.1 ≤ 480) (h2 : x.2.2 ≤ 480) : ((FloatKind.f64.format.order (F ((x.2.1 : Nat) : Int)) (F ((x.2.1 : Nat) : Int)) == some .eq) && (FloatKind.f64.format.order (F ((x.2.2 : Nat) : Int)) (F ((x.2.2 : Nat) : Int)) == some .eq)) = true := by
  rw [eql_F _ _ (by omega) (by omega), eql_F _ _ (by omega) (by omega)]; simp

set_option maxRecDepth 100000 in
set_option maxHeartbeats 1600000 in
theorem SameE_yes (l : List Ext) (hl : ∀ x ∈ l, x.2.1 ≤ 480 ∧ x.2.2 ≤ 480) (hlen : l.length ≤ 1000) (B1 B2 : Nat) (v1 v2 : Value) (w : World) (h1 : w.ownsRow B1 45 2 v1 l.length (extsV l)) (h2 : w.ownsRow B2 45 2 v2 l.length (extsV l)) :
    Calls Try.prog 9 #[v1, v2] w fun e w' => e = .returned (.bool true) ∧ Below w.heap.size w w' := by
  obtain ⟨a1, c1, rfl, hc1⟩ := owns_at h1
  obtain ⟨a2, c2, rfl, hc2⟩ := owns_at h2
  clear h1 h2
  by_cases h0 : l.length = 0
  · rw [h0]
    clear hc1 hc2 h0
    go_enter Try.func9, Try.ntmps9
    go_wp2
    go_loop [5] (fun i => i = .int .i64 0) (fun _ => 0)
    case atStart => rfl
    case round =>
      subst hrel
      go_wp2
      go_ret
      exact ⟨rfl, Below.refl _ _⟩
  · obtain ⟨g1, rfl, j1⟩ := hc1 0 (by omega)
    obtain ⟨g2, rfl, j2⟩ := hc2 0 (by omega)
    clear j1 j2
    have HL : Hid (∀ k, (hk : k < l.length) → (w.cell? ⟨g1, k * 2, none⟩ = some (.int .i64 ((l[k].1 : Nat) : Int)) ∧ w.cell? ⟨g2, k * 2, none⟩ = some (.int .i64 ((l[k].1 : Nat) : Int))) ∧
        (w.cell? ⟨g1, k * 2 + 1, none⟩ = some (.complex .f64 (F ((l[k].2.1 : Nat) : Int)) (F ((l[k].2.2 : Nat) : Int))) ∧ w.cell? ⟨g2, k * 2 + 1, none⟩ = some (.complex .f64 (F ((l[k].2.1 : Nat) : Int)) (F ((l[k].2.2 : Nat) : Int)))) ∧ l[k].2.1 ≤ 480 ∧ l[k].2.2 ≤ 480) := by
      intro k hk
      obtain ⟨g, hg, h3, h4⟩ := hc1 k hk
      obtain ⟨g', hg', h5, h6⟩ := hc2 k hk
      injection hg with hg; injection hg with hg _ _
      injection hg' with hg'; injection hg' with hg' _ _
      subst hg hg'
      exact ⟨⟨h3, h5⟩, ⟨h4, h6⟩, hl _ (List.getElem_mem hk)⟩
    have hpos : 0 < l.length := by omega
    obtain ⟨N, hN⟩ : ∃ N, N = l.length := ⟨_, rfl⟩
    have HN : Hid (N = l.length) := hN
    rw [← hN] at hlen hpos ⊢
    clear hN hc1 hc2 hl
    go_enter Try.func9, Try.ntmps9
    go_wp2
    go_loopw [5] (fun i wr => ∃ k n : Nat, k ≤ N ∧ i = .int .i64 k ∧ wr = w.drewN n) (fun i _ => N - (intOf i).toNat)
    case atStart => exact ⟨0, 0, Nat.zero_le _, rfl, rfl⟩
    case round =>
      obtain ⟨k, n, hk, rfl, rfl⟩ := hrel
      by_cases hlt : k < N
      · obtain ⟨⟨h3, h3'⟩, ⟨h4, h4'⟩, h5, h6⟩ := HL.out k (by have := HN.out; omega)
        have hne := same_F _ h5 h6
        obtain ⟨z, hz⟩ : ∃ z : Int, z = ((l[k]'(by have := HN.out; omega)).1 : Int) := ⟨_, rfl⟩
        obtain ⟨x, hx⟩ : ∃ x, x = F ((l[k]'(by have := HN.out; omega)).2.1 : Int) := ⟨_, rfl⟩
        obtain ⟨y, hy⟩ : ∃ y, y = F ((l[k]'(by have := HN.out; omega)).2.2 : Int) := ⟨_, rfl⟩
        rw [← hx, ← hy] at h4 h4' hne
        rw [← hz] at h3 h3'
        have hzz : (z != z) = false := by simp
        clear hx hy hz h5 h6
        go_wp2
        go_quiet (fail)
        go_wp2
        go_roundw
        case rel => exact ⟨k + 1, _, by omega, by go_num, rfl⟩
        case measure => simp [intOf]; omega
      · obtain rfl : k = N := by omega
        go_wp2
        go_ret
        exact ⟨rfl, below_drewN (Below.refl _ _) _⟩

/-- Numbers lie in a slice. -/
structure IntsIn (w : World) (a : Option Addr) (len : Nat) (zs : List Int) : Prop where
  fits : len ≤ zs.length
  most : len ≤ maxLen
  wf : ∀ n ∈ zs, (Lit.int .i64 n).wf = true
  lies : 0 < len → ∃ b off, a = some ⟨b, off, none⟩ ∧ b < w.heap.size ∧ ∀ j, j < len → w.cell? ⟨b, off + j, none⟩ = some (.int .i64 (zs.getD j 0))

/-- A file's pointers lie in a slice. -/
def PtrsIn (w : World) (a : Option Addr) (qs : List Nat) : Prop := 0 < qs.length → ∃ b off, a = some ⟨b, off, none⟩ ∧ b < w.heap.size ∧ Ptrs w b off qs

theorem PtrsIn.below {w w' : World} {a : Option Addr} {qs : List Nat} (h : PtrsIn w a qs) (hb : Below w.heap.size w w') : PtrsIn w' a qs := fun hl => by
  obtain ⟨b, off, rfl, h1, h2⟩ := h hl
  exact ⟨b, off, rfl, by have := hb.size; omega, fun j hj => by rw [hb.cell (by exact h1)]; exact h2 j hj⟩

theorem IntsIn.below {w w' : World} {a : Option Addr} {len : Nat} {zs : List Int} (h : IntsIn w a len zs) (hb : Below w.heap.size w w') : IntsIn w' a len zs := ⟨h.fits, h.most, h.wf, fun hl => by
  obtain ⟨b, off, rfl, h1, h2⟩ := h.lies hl
  exact ⟨b, off, rfl, by have := hb.size; omega, fun j hj => by rw [hb.cell (by exact h1)]; exact h2 j hj⟩⟩

theorem Pointers_in {w : World} {a : Option Addr} {len cap : Nat} {zs : List Int} (h : IntsIn w a len zs) :
    Calls Try.prog 16 #[.slice a len cap] w fun e w' => e = .returned (.bool (valid zs len)) ∧ Below w.heap.size w w' := by
  by_cases h0 : len = 0
  · subst h0
    exact Pointers_none a cap w
  · obtain ⟨b, off, rfl, h1, h2⟩ := h.lies (by omega)
    exact Pointers_any b off len cap zs w h.most h.fits h1 h2 h.wf

theorem PointersR_in {w : World} {a : Option Addr} {len cap : Nat} {zs : List Int} (h : IntsIn w a len zs) :
    Calls Try.prog 7 #[.slice a len cap] w fun e w' => e = .returned (.bool (valid zs len)) ∧ Below w.heap.size w w' := by
  by_cases h0 : len = 0
  · subst h0
    exact PointersR_none a cap w
  · obtain ⟨b, off, rfl, h1, h2⟩ := h.lies (by omega)
    exact PointersR_any b off len cap zs w h.fits h1 h2

/-- What a function that makes extents gives. -/
def ExtsPost (w : World) (l : List Ext) (e : Ending) (w' : World) : Prop :=
  ∃ v, e = .returned v ∧ w'.ownsRow w.heap.size 45 2 v l.length (extsV l) ∧ Below w.heap.size w w'

theorem from_in {w : World} {a : Option Addr} {cap : Nat} {qs : List Nat} (hv : Valid qs) (h : PtrsIn w a qs) :
    Calls Try.prog 17 #[.slice a qs.length cap] w (ExtsPost w (E qs)) := by
  by_cases h0 : qs.length = 0
  · have hq : qs = [] := List.length_eq_zero_iff.1 h0
    subst hq
    rw [show ([] : List Nat).length = 0 from rfl]
    go_enter Try.func17, Try.ntmps17
    go_wp2
    refine wp_loop_rounds 1 ?_
    rw [rounds_succ]
    go_wp2
    go_ret
    exact ⟨_, rfl, World.ownsRow_nil _ _ _ _, Below.refl _ _⟩
  · obtain ⟨b, off, rfl, h1, h2⟩ := h (by omega)
    exact from_any b off cap qs hv w h1 h2

theorem FromR_in {w : World} {a : Option Addr} {cap : Nat} {qs : List Nat} (hv : Valid qs) (h : PtrsIn w a qs) :
    Calls Try.prog 10 #[.slice a qs.length cap] w (ExtsPost w (E qs)) := by
  by_cases h0 : qs.length = 0
  · have hq : qs = [] := List.length_eq_zero_iff.1 h0
    subst hq
    rw [show ([] : List Nat).length = 0 from rfl]
    go_enter Try.func10, Try.ntmps10
    go_wp2
    refine wp_loop_rounds 1 ?_
    rw [rounds_succ]
    go_wp2
    go_ret
    exact ⟨_, rfl, World.ownsRow_made w #[] 0 (Nat.le_refl _) (by unfold maxLen; omega) rfl, (Below.refl _ _).alloc (Nat.le_refl _) _⟩
  · obtain ⟨b, off, rfl, h1, h2⟩ := h (by omega)
    exact FromR_any b off cap qs hv w h1 h2

/-- What From gives of a file's pointers. -/
def FromPost (w : World) (l : List Ext) (e : Ending) (w' : World) : Prop :=
  ∃ v, e = .returned (.tuple #[v, .int .i64 0]) ∧ w'.ownsRow w.heap.size 45 2 v l.length (extsV l) ∧ Below w.heap.size w w'

theorem From_no {w : World} {a : Option Addr} {len cap : Nat} {zs : List Int} (h : IntsIn w a len zs) (hv : valid zs len = false) :
    Calls Try.prog 6 #[.slice a len cap] w fun e w' => e = .returned (.tuple #[.slice none 0 0, .int .i64 1]) ∧ Below w.heap.size w w' := by
  have hp := Pointers_in (cap := cap) h
  rw [hv] at hp
  clear hv h
  go_enter Try.func6, Try.ntmps6
  go_wp2_with fail
  refine hp.mono ?_
  clear hp
  rintro e w1 ⟨rfl, hb1⟩
  go_wp2
  go_ret2
  exact ⟨rfl, hb1⟩

theorem From_yes {w : World} {a : Option Addr} {cap : Nat} {zs : List Int} {qs : List Nat} (h : IntsIn w a qs.length zs) (hv : valid zs qs.length = true) (hq : Valid qs) (hi : PtrsIn w a qs) :
    Calls Try.prog 6 #[.slice a qs.length cap] w (FromPost w (E qs)) := by
  have hp := Pointers_in (cap := cap) h
  rw [hv] at hp
  go_enter Try.func6, Try.ntmps6
  go_wp2_with fail
  refine hp.mono ?_
  clear hp h hv
  rintro e w1 ⟨rfl, hb1⟩
  have hi2 := hi.below hb1
  clear hi
  go_wp2_with fail
  refine (from_in hq hi2).mono ?_
  clear hi2
  rintro e w2 ⟨v, rfl, hown, hb2⟩
  have hown2 := owns_mono hown hb1.size
  have hb3 := hb1.trans (hb2.mono hb1.size)
  clear hown hb1 hb2
  go_wp2
  go_ret2
  exact ⟨v, rfl, hown2, hb3⟩
end Go.Proofs.Ytbelfapnjjeclaa
