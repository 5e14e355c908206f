/- The walk of the reference's From: of a file's pointers that lie in memory, their extents, in a slice of the call's own; and of extent.From. -/
import Derived.Test.YtbelfapnjjeclaaFrom
import Derived.Deep.QuietTactic
import Derived.BigQuiet
namespace Go.Proofs.Ytbelfapnjjeclaa
open Go.RowKit Go.Maps

theorem owns_draw {w : World} {B : Nat} {e : TypeId} {size : Nat} {v : Value} {n : Nat} {xs : List Value} (h : w.ownsRow B e size v n xs) (m : Nat) : (w.drewN m).ownsRow B e size v n xs := by
  refine ⟨h.1, ?_⟩
  rcases h.2 with h1 | ⟨g, cap, cur, hv, hg, hh, rest⟩
  · exact .inl h1
  · exact .inr ⟨g, cap, cur, hv, hg, hh, rest⟩

theorem extsV_one (l : List Ext) (k p n : Nat) : extsV l ++ [Value.int .i64 (k : Int), Value.complex .f64 (F (p : Int)) (F (n : Int))] = extsV (l ++ [(k, p, n)]) := by
  rw [extsV_append]; rfl

theorem ref_close {qs : List Nat} {out : List Ext} {i p n : Nat} (hc : ∀ q, qs[i + n]? = some q → q ≠ p + n) (h : E qs = out ++ HO (qs.drop (i + n)) (i + n) (some (i, p, n))) :
    E qs = (out ++ [(i, p, n)]) ++ HO (qs.drop (i + n)) (i + n) none := by
  rw [h, HO_close _ _ (fun q hq => hc q (by rw [List.getElem?_drop] at hq; simpa using hq))]; simp

set_option maxHeartbeats 1600000 in
set_option maxRecDepth 100000 in
theorem FromR_any (b off cap : Nat) (qs : List Nat) (hv : Valid qs) (w : World) (hb : b < w.heap.size) (hc : Ptrs w b off qs) :
    Calls Try.prog 10 #[.slice (some ⟨b, off, none⟩) qs.length cap] w fun e w' => ∃ v, e = .returned v ∧ w'.ownsRow w.heap.size 45 2 v (E qs).length (extsV (E qs)) ∧ Below w.heap.size w w' := by
  obtain ⟨i0, hi, hz0, hz1, hz2⟩ := info_parts Try.info45
  have HC : Hid _ := hc
  have HV : Hid _ := hv
  have hl96 := hv.len
  obtain ⟨N, hN⟩ : ∃ N, N = qs.length := ⟨_, rfl⟩
  have HN : Hid (N = qs.length) := hN
  rw [← hN] at hl96 ⊢
  clear hc hv hN
  go_enter Try.func10, Try.ntmps10
  go_wp2
  go_loopw [3, 4] (fun v ix wr => ∃ (i : Nat) (out : List Ext), i ≤ N ∧ ix = .int .i64 i ∧ out.length ≤ i ∧ Hid (E qs = out ++ HO (qs.drop i) i none) ∧ wr.ownsRow w.heap.size 45 2 v out.length (extsV out) ∧ Below w.heap.size w wr) (fun _ i _ => N - (intOf i).toNat)
  case atStart => exact ⟨0, [], Nat.zero_le _, rfl, by simp, rfl, World.ownsRow_made w #[] 0 (Nat.le_refl _) (by unfold maxLen; omega) rfl, (Below.refl _ _).alloc (Nat.le_refl _) _⟩
  case round =>
    obtain ⟨i, out, hi1, rfl, hlen, HE, hown, hbel⟩ := hrel
    have hsz := hbel.size
    obtain ⟨wo, rfl⟩ : ∃ wo : World, wo = wr := ⟨_, rfl⟩
    by_cases hlt : i < N
    · have hkq : i < qs.length := by have := HN.out; omega
      obtain ⟨p, hp⟩ : ∃ p, p = qs[i]?.getD 0 := ⟨_, rfl⟩
      have hcx : wo.cell? ⟨b, off + i, none⟩ = some (.int .i64 (p : Int)) := by rw [hp]; exact (hbel.cell (by exact hb)).trans (HC.out i hkq)
      have hps : qs[i]? = some p := by rw [hp, List.getElem?_eq_getElem hkq]; rfl
      have hpd := HV.out.data i p hps
      by_cases hp0 : p = 0
      · have HE2 : Hid (E qs = out ++ HO (qs.drop (i + 1)) (i + 1) none) := by
          have := next_zero (o := none) (by rw [hps, hp0]) trivial HE.out
          rw [Option.toList_none, List.append_nil] at this; exact this
        have hz : ((p : Int) == 0) = true := by simpa using hp0
        clear hp hps hpd hp0
        go_wp2
        go_roundw
        case rel => exact ⟨i + 1, out, by omega, by go_num, by omega, HE2, hown, hbel⟩
        case measure => simp [intOf]; omega
      · have hz : ((p : Int) == 0) = false := by simpa using hp0
        have HE2 : Hid (E qs = out ++ HO (qs.drop (i + 1)) (i + 1) (some (i, p, 1))) := by
          have := next_new (o := none) hps hp0 trivial (.inl rfl) HE.out
          rw [Option.toList_none, List.append_nil] at this; exact this
        have hp480 : p < 480 := by omega
        clear hp hps hpd hp0
        go_wp2
        go_loopw [5] (fun x wr => ∃ n m : Nat, 1 ≤ n ∧ i + n ≤ N ∧ x = .int .i64 n ∧ Hid (E qs = out ++ HO (qs.drop (i + n)) (i + n) (some (i, p, n))) ∧ wr = wo.drewN m) (fun x _ => N - (intOf x).toNat)
        case atStart => exact ⟨1, 0, Nat.le_refl _, by omega, rfl, HE2, rfl⟩
        case round =>
          obtain ⟨n, m, hn1, hn2, rfl, HE3, rfl⟩ := hrel
          have q1 : IntKind.i64.wrap ((i : Int) + (n : Int)) = (i : Int) + (n : Int) := IntWalk.i64_in _ (by omega)
          have q2 : ((i : Int) + (n : Int)).toNat = i + n := by omega
          have q3 : 0 ≤ (i : Int) + (n : Int) := by omega
          have q4 : IntKind.i64.wrap ((p : Int) + (n : Int)) = (p : Int) + (n : Int) := IntWalk.i64_in _ (by omega)
          by_cases hin : i + n < N
          · have hnq : i + n < qs.length := by have := HN.out; omega
            obtain ⟨q, hq⟩ : ∃ q, q = qs[i + n]?.getD 0 := ⟨_, rfl⟩
            have hcq : wo.cell? ⟨b, off + (i + n), none⟩ = some (.int .i64 (q : Int)) := by rw [hq]; exact (hbel.cell (by exact hb)).trans (HC.out (i + n) hnq)
            have hqs : qs[i + n]? = some q := by rw [hq, List.getElem?_eq_getElem hnq]; rfl
            have hin2 : (i : Int) + (n : Int) < (N : Int) := by omega
            by_cases hqp : q = p + n
            · have HE4 : Hid (E qs = out ++ HO (qs.drop (i + (n + 1))) (i + (n + 1)) (some (i, p, n + 1))) := next_more hqs hqp HE3.out
              have t1 : ((q : Int) == (p : Int) + (n : Int)) = true := by simp; omega
              clear hq hqs hqp
              go_wp2_with fail
              go_quiet (fail)
              go_wp2
              go_roundw
              case rel => exact ⟨n + 1, _, by omega, by omega, by go_num, HE4, rfl⟩
              case measure => simp [intOf]; omega
            · have HE4 : Hid (E qs = (out ++ [(i, p, n)]) ++ HO (qs.drop (i + n)) (i + n) none) := ref_close (fun x hx => by rw [hqs] at hx; cases hx; exact hqp) HE3.out
              have HE3 := HE4
              have t1 : ((q : Int) == (p : Int) + (n : Int)) = false := by simp; omega
              clear hq hqs hqp HE4
              go_wp2_with fail
              go_quiet (fail)
              go_wp2_with (first
                | (go_at_call 20; refine (Run_any (p : Int) (n : Int) (by omega) _).mono ?_; rintro e w' ⟨rfl, rfl⟩)
                | (refine wpList_append_lies _ rfl _ _ _ rfl w.heap.size 45 i0 _ 2 24 Try.underlying23 hi hz0 hz1 hz2 rfl (by omega) u3 out.length (extsV out) rfl ((owns_draw hown _).alloc _) ⟨wo.heap.size, 0, none⟩ 1 1 [.int .i64 (i : Int), .complex .f64 (F (p : Int)) (F (n : Int))] rfl rfl (World.news_of_block (cs := #[.int .i64 (i : Int), .complex .f64 (F (p : Int)) (F (n : Int))]) (t := 45) (fr := (0, 0)) (heap_alloc_new wo _)) (by simp [Value.oneCell']) (by omega) (by unfold maxLen; omega) (by omega) (by simp; omega) (wo.heap.size + 1) (by simp) ?_; intro gg cp1 w1 hown1 hgrow hat1 hlt1))
              rw [extsV_one] at hown1
              have hb1 := (((below_drewN hbel _).alloc (by simp; omega) _)).grown hgrow (by simp; omega) (fun k hk => (hown.lt k hk).1)
              have hL2 : (out ++ [(i, p, n)]).length = out.length + 1 := by simp
              clear hgrow hown hbel hat1
              go_wp2
              go_roundw
              case rel => exact ⟨i + n, out ++ [(i, p, n)], by omega, by go_num, by rw [hL2]; omega, HE3, by rw [hL2]; exact hown1, hb1⟩
              case measure => simp [intOf]; omega
          · have HE4 : Hid (E qs = (out ++ [(i, p, n)]) ++ HO (qs.drop (i + n)) (i + n) none) := ref_close (fun x hx => by rw [List.getElem?_eq_none (by have := HN.out; omega)] at hx; cases hx) HE3.out
            have HE3 := HE4
            have hin2 : ¬ (i : Int) + (n : Int) < (N : Int) := by omega
            have hin3 : decide ((i : Int) + (n : Int) < (N : Int)) = false := by simp; omega
            clear HE4
            go_wp2_with fail
            go_quiet (fail)
            go_wp2_with (first
              | (go_at_call 20; refine (Run_any (p : Int) (n : Int) (by omega) _).mono ?_; rintro e w' ⟨rfl, rfl⟩)
              | (refine wpList_append_lies _ rfl _ _ _ rfl w.heap.size 45 i0 _ 2 24 Try.underlying23 hi hz0 hz1 hz2 rfl (by omega) u3 out.length (extsV out) rfl ((owns_draw hown _).alloc _) ⟨wo.heap.size, 0, none⟩ 1 1 [.int .i64 (i : Int), .complex .f64 (F (p : Int)) (F (n : Int))] rfl rfl (World.news_of_block (cs := #[.int .i64 (i : Int), .complex .f64 (F (p : Int)) (F (n : Int))]) (t := 45) (fr := (0, 0)) (heap_alloc_new wo _)) (by simp [Value.oneCell']) (by omega) (by unfold maxLen; omega) (by omega) (by simp; omega) (wo.heap.size + 1) (by simp) ?_; intro gg cp1 w1 hown1 hgrow hat1 hlt1))
            rw [extsV_one] at hown1
            have hb1 := (((below_drewN hbel _).alloc (by simp; omega) _)).grown hgrow (by simp; omega) (fun k hk => (hown.lt k hk).1)
            have hL2 : (out ++ [(i, p, n)]).length = out.length + 1 := by simp
            clear hgrow hown hbel hat1
            go_wp2
            go_roundw
            case rel => exact ⟨i + n, out ++ [(i, p, n)], by omega, by go_num, by rw [hL2]; omega, HE3, by rw [hL2]; exact hown1, hb1⟩
            case measure => simp [intOf]; omega
    · obtain rfl : i = N := by omega
      have hE : E qs = out := by
        have := HE.out
        rw [List.drop_of_length_le (by have := HN.out; omega), HO_nil] at this
        simpa using this
      rw [← hE] at hown
      clear HE hE
      go_wp2
      go_ret
      exact ⟨_, rfl, hown, hbel⟩
end Go.Proofs.Ytbelfapnjjeclaa
