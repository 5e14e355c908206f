/- The walks of slices.Clone, tree.Trim and the reference's Trim at pointers that lie in memory. -/
import Derived.Test.YtbelfapnjjeclaaSame
namespace Go.Proofs.Ytbelfapnjjeclaa
open Go.RowKit Go.Maps

theorem Try.info3 : (Try.prog.info? 3).map (fun i => (i.zero, i.size, i.bytes)) = some (some (.int .i64 0), 1, 8) := by kernel_rfl

/-- Pointers as Go values. -/
def intsV (qs : List Nat) : List Value := qs.map fun (q : Nat) => Value.int .i64 (q : Int)
theorem intsV_length (qs : List Nat) : (intsV qs).length = qs.length := by simp [intsV]
theorem intsV_one (qs : List Nat) : ∀ v ∈ intsV qs, v.oneCell' = true := by
  intro v hv
  unfold intsV at hv
  obtain ⟨i, _, rfl⟩ := List.mem_map.1 hv
  rfl

/-- What a function that makes pointers gives. -/
def IntsPost (w : World) (qs : List Nat) (e : Ending) (w' : World) : Prop :=
  ∃ v, e = .returned v ∧ w'.ownsRow w.heap.size 3 1 v qs.length (intsV qs) ∧ Below w.heap.size w w'

theorem ptrs_news {w : World} {b off : Nat} {qs : List Nat} (h : Ptrs w b off qs) : ∀ j u, (intsV qs)[j]? = some u → w.cell? ((⟨b, off, none⟩ : Addr).add j) = some u := fun j u hu => by
  have hadd : (⟨b, off, none⟩ : Addr).add j = ⟨b, off + j, none⟩ := by unfold Addr.add; split <;> simp_all
  have hj : j < qs.length := by
    have := (List.getElem?_eq_some_iff.1 hu).1
    rwa [intsV_length] at this
  rw [hadd, h j hj]
  unfold intsV at hu
  rw [List.getElem?_map, List.getElem?_eq_getElem hj] at hu
  rw [List.getElem?_eq_getElem hj]
  simpa using hu

theorem eql_slice_nil (P : Program) (w : World) (t e : TypeId) (a : Option Addr) (l c : Nat) (h : P.underlying t = some (.slice e)) : (binOp .eql t (.slice a l c) (.slice none 0 0)).run P w = .ok (.bool a.isNone) w := by
  simp only [binOp]
  simp [run_equal_slice_nil w t e a l c h]

theorem Ptrs.take {w : World} {b off : Nat} {qs : List Nat} (h : Ptrs w b off qs) (c : Nat) : Ptrs w b off (qs.take c) := fun j hj => by
  have h1 : j < c ∧ j < qs.length := by rw [List.length_take] at hj; omega
  rw [List.getElem?_take, if_pos h1.1]
  exact h j h1.2

set_option maxHeartbeats 800000 in
theorem Clone_any (b off cap : Nat) (qs : List Nat) (w : World) (hl : qs.length ≤ 1000) (h : Ptrs w b off qs) :
    Calls Try.prog 29 #[.slice (some ⟨b, off, none⟩) qs.length cap] w (IntsPost w qs) := by
  obtain ⟨i0, hi, hz0, hz1, hz2⟩ := info_parts Try.info3
  have he : ∀ n w, (binOp .eql 22 (.slice (some ⟨b, off, none⟩) n cap) (.slice none 0 0)).run Try.prog w = .ok (.bool false) w := fun n w => eql_slice_nil _ w 22 3 _ _ _ Try.underlying22
  by_cases h0 : qs.length = 0
  · have hq : qs = [] := List.length_eq_zero_iff.1 h0
    subst hq
    rw [show ([] : List Nat).length = 0 from rfl]
    go_enter Try.func29, Try.ntmps29
    go_wp2
    go_ret
    exact ⟨_, rfl, World.ownsRow_made w #[] 0 (Nat.le_refl _) (by unfold maxLen; omega) rfl, (Below.refl _ _).alloc (Nat.le_refl _) _⟩
  · have hpos : 0 < qs.length := by omega
    obtain ⟨n, hn⟩ : ∃ n, n = qs.length := ⟨_, rfl⟩
    have HN : Hid (n = qs.length) := hn
    have HP : Hid (Ptrs w b off qs) := h
    rw [← hn] at hl hpos ⊢
    clear hn h h0
    have hown : (w.alloc (.cells #[] 3)).ownsRow w.heap.size 3 1 (.slice (some ⟨w.heap.size, 0, none⟩) 0 0) 0 [] := World.ownsRow_made w #[] 0 (Nat.le_refl _) (by unfold maxLen; omega) rfl
    have hP2 : Ptrs (w.alloc (.cells #[] 3)) b off qs := fun j hj => by
      have := HP.out j hj
      rw [World.cell?_alloc_lt _ _ _ (World.block_lt_of_cell? w _ this)]; exact this
    have HN2 : Hid (∀ j u, (intsV qs)[j]? = some u → (w.alloc (.cells #[] 3)).cell? ((⟨b, off, none⟩ : Addr).add j) = some u) := ptrs_news hP2
    have hb0 : Below w.heap.size w (w.alloc (.cells #[] 3)) := (Below.refl _ _).alloc (Nat.le_refl _) _
    clear hP2
    go_enter Try.func29, Try.ntmps29
    go_wp2_with (refine wpList_append_lies _ rfl _ _ _ rfl w.heap.size 3 i0 _ 1 8 Try.underlying22 hi hz0 hz1 hz2 rfl (by omega) (.slice (some ⟨w.heap.size, 0, none⟩) 0 0) 0 [] rfl hown ⟨b, off, none⟩ n cap (intsV qs) rfl (by rw [intsV_length, Nat.mul_one]; exact HN.out.symm) HN2.out (intsV_one qs) hpos (by unfold maxLen; omega) (by omega) (by simp) _ rfl ?_; intro gg cp1 w1 hown1 hgrow hat1 hlt1)
    go_ret
    rw [Nat.zero_add, List.nil_append] at hown1
    refine ⟨_, rfl, ?_, hb0.grown hgrow (by simp) (fun k hk => (hown.lt k hk).1)⟩
    rw [← HN.out]; simpa using hown1

/-- Where the zeros at the end begin. -/
def Rest (qs : List Nat) (k : Nat) : Prop := ∀ i, k ≤ i → qs[i]?.getD 0 = 0

theorem trim_eq {qs : List Nat} {k : Nat} (h1 : k ≠ 0 → qs[k - 1]?.getD 0 ≠ 0) (h2 : Rest qs k) : trim qs = qs.take k := by
  rw [trim_take, trim_len_unique h1 h2]

theorem rest_all (qs : List Nat) : Rest qs qs.length := fun i hi => by rw [List.getElem?_eq_none hi]; rfl

theorem rest_step {qs : List Nat} {k : Nat} (h : Rest qs (k + 1)) (hk : qs[k]?.getD 0 = 0) : Rest qs k := fun i hi => by
  rcases Nat.lt_or_ge k i with h1 | h1
  · exact h i (by omega)
  · obtain rfl : i = k := by omega
    exact hk

set_option maxHeartbeats 800000 in
theorem Trim_any (b off cap : Nat) (qs : List Nat) (w : World) (hl : qs.length ≤ 1000) (hcap : qs.length ≤ cap) (h : Ptrs w b off qs) :
    Calls Try.prog 22 #[.slice (some ⟨b, off, none⟩) qs.length cap] w (IntsPost w (trim qs)) := by
  obtain ⟨n, hn⟩ : ∃ n, n = qs.length := ⟨_, rfl⟩
  have HN : Hid (n = qs.length) := hn
  have HP : Hid (Ptrs w b off qs) := h
  have HR : Hid (Rest qs n) := by rw [hn]; exact rest_all qs
  rw [← hn] at hl hcap ⊢
  clear hn h
  go_enter Try.func22, Try.ntmps22
  go_wp2
  go_loopw [0] (fun v wr => ∃ k : Nat, k ≤ n ∧ v = .slice (some ⟨b, off, none⟩) k cap ∧ Hid (Rest qs k) ∧ w = wr) (fun v _ => match v with | .slice _ k _ => k | _ => 0)
  case atStart => exact ⟨n, Nat.le_refl _, rfl, HR, rfl⟩
  case round =>
    obtain ⟨k, hk, rfl, HK, rfl⟩ := hrel
    clear HR
    by_cases h0 : k = 0
    · subst h0
      have ht : trim qs = qs.take 0 := trim_eq (fun h => absurd rfl h) HK.out
      have hc := Clone_any b off cap (qs.take 0) w (by simp) (HP.out.take 0)
      rw [show (qs.take 0).length = 0 by simp] at hc
      rw [← ht] at hc
      clear ht
      go_wp2_with fail
      refine hc.mono ?_
      clear hc
      rintro e w1 ⟨v, rfl, hown, hb⟩
      go_wp2
      go_ret
      exact ⟨v, rfl, hown, hb⟩
    · obtain ⟨m, rfl⟩ : ∃ m, k = m + 1 := ⟨k - 1, by omega⟩
      have hc1 := HP.out m (by have := HN.out; omega)
      by_cases hz : qs[m]?.getD 0 = 0
      · have HK2 : Hid (Rest qs m) := rest_step HK.out hz
        rw [hz] at hc1
        clear HK hz h0
        go_wp2
        go_roundw
        case rel => exact ⟨m, by omega, by go_num, HK2, trivial⟩
        case measure => simp
      · have ht : trim qs = qs.take (m + 1) := trim_eq (fun _ => hz) HK.out
        have hc := Clone_any b off cap (qs.take (m + 1)) w (by simp; omega) (HP.out.take (m + 1))
        rw [show (qs.take (m + 1)).length = m + 1 by rw [List.length_take]; have := HN.out; omega] at hc
        rw [← ht] at hc
        have t1 : (((qs[m]?.getD 0 : Nat) : Int) == 0) = false := by simp; omega
        generalize ((qs[m]?.getD 0 : Nat) : Int) = z at hc1 t1
        clear ht hz h0 HK
        go_wp2_with fail
        refine hc.mono ?_
        clear hc
        rintro e w1 ⟨v, rfl, hown, hb⟩
        go_wp2
        go_ret
        exact ⟨v, rfl, hown, hb⟩

set_option maxHeartbeats 800000 in
theorem TrimR_any (b off cap : Nat) (qs : List Nat) (w : World) (hl : qs.length ≤ 1000) (hcap : qs.length ≤ cap) (h : Ptrs w b off qs) :
    Calls Try.prog 13 #[.slice (some ⟨b, off, none⟩) qs.length cap] w (IntsPost w (trim qs)) := by
  obtain ⟨i0, hi, hz0, hz1, hz2⟩ := info_parts Try.info3
  obtain ⟨n, hn⟩ : ∃ n, n = qs.length := ⟨_, rfl⟩
  have HN : Hid (n = qs.length) := hn
  have HP : Hid (Ptrs w b off qs) := h
  have HR : Hid (Rest qs n) := by rw [hn]; exact rest_all qs
  rw [← hn] at hl hcap ⊢
  clear hn h
  go_enter Try.func13, Try.ntmps13
  go_wp2
  go_loopw [3] (fun v wr => ∃ k : Nat, k ≤ n ∧ v = .int .i64 k ∧ Hid (Rest qs k) ∧ w = wr) (fun v _ => (intOf v).toNat)
  case atStart => exact ⟨n, Nat.le_refl _, rfl, HR, rfl⟩
  case round =>
    obtain ⟨k, hk, rfl, HK, rfl⟩ := hrel
    clear HR
    by_cases h0 : k = 0
    · subst h0
      have ht : trim qs = qs.take 0 := trim_eq (fun h => absurd rfl h) HK.out
      have HT : Hid (trim qs = []) := by rw [ht, List.take_zero]; rfl
      clear ht
      go_wp2
      go_ret
      refine ⟨_, rfl, ?_, (Below.refl _ _).alloc (Nat.le_refl _) _⟩
      rw [HT.out]
      exact World.ownsRow_made w #[] 0 (Nat.le_refl _) (by unfold maxLen; omega) rfl
    · obtain ⟨m, rfl⟩ : ∃ m, k = m + 1 := ⟨k - 1, by omega⟩
      have hc1 := HP.out m (by have := HN.out; omega)
      by_cases hz : qs[m]?.getD 0 = 0
      · have HK2 : Hid (Rest qs m) := rest_step HK.out hz
        rw [hz] at hc1
        clear HK hz h0
        go_wp2
        go_roundw
        case rel => exact ⟨m, by omega, by go_num, HK2, trivial⟩
        case measure => (simp [intOf] <;> omega)
      · have ht : trim qs = qs.take (m + 1) := trim_eq (fun _ => hz) HK.out
        have hlt : (qs.take (m + 1)).length = m + 1 := by rw [List.length_take]; have := HN.out; omega
        have HP2 : Hid (Ptrs w b off (qs.take (m + 1))) := HP.out.take (m + 1)
        rw [← ht] at hlt HP2
        have t1 : (((qs[m]?.getD 0 : Nat) : Int) == 0) = false := by simp; omega
        generalize ((qs[m]?.getD 0 : Nat) : Int) = z at hc1 t1
        generalize trim qs = ts at *
        clear ht hz h0 HK HP
        have HLT : Hid (ts.length = m + 1) := hlt
        clear hlt
        have hown : (w.alloc (.cells #[] 3)).ownsRow w.heap.size 3 1 (.slice (some ⟨w.heap.size, 0, none⟩) 0 0) 0 [] := World.ownsRow_made w #[] 0 (Nat.le_refl _) (by unfold maxLen; omega) rfl
        have hP2 : Ptrs (w.alloc (.cells #[] 3)) b off ts := fun j hj => by
          have := HP2.out j hj
          rw [World.cell?_alloc_lt _ _ _ (World.block_lt_of_cell? w _ this)]; exact this
        have HN2 : Hid (∀ j u, (intsV ts)[j]? = some u → (w.alloc (.cells #[] 3)).cell? ((⟨b, off, none⟩ : Addr).add j) = some u) := ptrs_news hP2
        have hb0 : Below w.heap.size w (w.alloc (.cells #[] 3)) := (Below.refl _ _).alloc (Nat.le_refl _) _
        clear hP2
        go_wp2_with (refine wpList_append_lies _ rfl _ _ _ rfl w.heap.size 3 i0 _ 1 8 Try.underlying22 hi hz0 hz1 hz2 rfl (by omega) (.slice (some ⟨w.heap.size, 0, none⟩) 0 0) 0 [] rfl hown ⟨b, off, none⟩ (m + 1) cap (intsV ts) rfl (by rw [intsV_length, Nat.mul_one]; exact HLT.out) HN2.out (intsV_one ts) (by omega) (by unfold maxLen; omega) (by omega) (by simp) _ rfl ?_; intro gg cp1 w1 hown1 hgrow hat1 hlt1)
        go_ret
        rw [Nat.zero_add, List.nil_append] at hown1
        refine ⟨_, rfl, ?_, hb0.grown hgrow (by simp) (fun k hk => (hown.lt k hk).1)⟩
        rw [HLT.out]; simpa using hown1

theorem intsV_at (l : List Nat) (i : Nat) (hi : i < l.length) : (intsV l)[i]? = some (.int .i64 ((l[i] : Nat) : Int)) := by
  unfold intsV
  rw [List.getElem?_map, List.getElem?_eq_getElem hi]; rfl

/-- A slice of the call's own that holds pointers: where its cells lie. -/
theorem ints_at {w : World} {B : Nat} {v : Value} {l : List Nat} (h : w.ownsRow B 3 1 v l.length (intsV l)) :
    ∃ a cap, v = .slice a l.length cap ∧ l.length ≤ cap ∧ (0 < l.length → ∃ g, a = some ⟨g, 0, none⟩ ∧ g < w.heap.size ∧ Ptrs w g 0 l) := by
  rcases h.2 with ⟨h1, h2⟩ | ⟨g, cap, cur, h1, h2, h3, h4, h5⟩
  · exact ⟨none, 0, by rw [h1, h2], by omega, fun hl => by omega⟩
  · refine ⟨_, _, h1, h4, fun hl => ⟨g, rfl, ?_, fun j hj => ?_⟩⟩
    · rcases Nat.lt_or_ge g w.heap.size with h6 | h6
      · exact h6
      · rw [Array.getElem?_eq_none h6] at h3; cases h3
    · subst h1
      rw [Nat.zero_add, h.cellAt j (by omega), intsV_at l j hj, List.getElem?_eq_getElem hj]; rfl

set_option maxRecDepth 100000 in
set_option maxHeartbeats 1600000 in
theorem ints_yes (l : List Nat) (hlen : l.length ≤ 1000) (B1 B2 : Nat) (v1 v2 : Value) (w : World) (h1 : w.ownsRow B1 3 1 v1 l.length (intsV l)) (h2 : w.ownsRow B2 3 1 v2 l.length (intsV l)) :
    Calls Try.prog 12 #[v1, v2] w fun e w' => e = .returned (.bool true) ∧ Below w.heap.size w w' := by
  obtain ⟨a1, c1, rfl, j1, hc1⟩ := ints_at h1
  obtain ⟨a2, c2, rfl, j2, hc2⟩ := ints_at h2
  clear h1 h2 j1 j2
  by_cases h0 : l.length = 0
  · rw [h0]
    clear hc1 hc2 h0
    go_enter Try.func12, Try.ntmps12
    go_wp2
    go_loop [5] (fun i => i = .int .i64 0) (fun _ => 0)
    case atStart => rfl
    case round =>
      subst hrel
      go_wp2
      go_ret
      exact ⟨rfl, Below.refl _ _⟩
  · have hpos : 0 < l.length := by omega
    obtain ⟨g1, rfl, _, hp1⟩ := hc1 hpos
    obtain ⟨g2, rfl, _, hp2⟩ := hc2 hpos
    have HL : Hid (∀ k, k < l.length → w.cell? ⟨g1, k, none⟩ = some (.int .i64 ((l[k]?.getD 0 : Nat) : Int)) ∧ w.cell? ⟨g2, k, none⟩ = some (.int .i64 ((l[k]?.getD 0 : Nat) : Int))) := fun k hk => ⟨by have := hp1 k hk; rwa [Nat.zero_add] at this, by have := hp2 k hk; rwa [Nat.zero_add] at this⟩
    obtain ⟨N, hN⟩ : ∃ N, N = l.length := ⟨_, rfl⟩
    have HN : Hid (N = l.length) := hN
    rw [← hN] at hlen hpos ⊢
    clear hN hc1 hc2 hp1 hp2
    go_enter Try.func12, Try.ntmps12
    go_wp2
    go_loopw [5] (fun i wr => ∃ k n : Nat, k ≤ N ∧ i = .int .i64 k ∧ wr = w.drewN n) (fun i _ => N - (intOf i).toNat)
    case atStart => exact ⟨0, 0, Nat.zero_le _, rfl, rfl⟩
    case round =>
      obtain ⟨k, n, hk, rfl, rfl⟩ := hrel
      by_cases hlt : k < N
      · obtain ⟨h3, h4⟩ := HL.out k (by have := HN.out; omega)
        generalize ((l[k]?.getD 0 : Nat) : Int) = z at h3 h4
        have hzz : (z != z) = false := by simp
        go_wp2
        go_quiet (fail)
        go_wp2
        go_roundw
        case rel => exact ⟨k + 1, _, by omega, by go_num, rfl⟩
        case measure => simp [intOf]; omega
      · obtain rfl : k = N := by omega
        go_wp2
        go_ret
        exact ⟨rfl, below_drewN (Below.refl _ _) _⟩
end Go.Proofs.Ytbelfapnjjeclaa
