/- The walk of the law FlagsBack: whatever slice of bytes and whatever byte, it returns true and writes nothing that was there. No condition. -/
import Derived.Test.YtoiafcelnohcfaaAllLaw
import Derived.Laws.BytesString
namespace Go.Proofs.Ytoiafcelnohcfaa
open Go.RowKit

/-- 60 bytes as a string. -/
def strOf (zs : List Int) : ByteArray := zs.foldl (fun r n => r.push (UInt8.ofNat n.toNat)) ByteArray.empty

theorem text_60 {w : World} {b off : Nat} {zs : List Int} (cap : Nat) (hl : zs.length = 60) (hc : Lies w b off zs) :
    (convert 22 9 (.slice (some ⟨b, off, none⟩) 60 cap)).run Try.prog w = .ok (.string (strOf zs)) w := by
  rw [run_convert_bytes_string w 22 9 5 _ _ _ Try.underlying22 Try.underlying5 Try.underlying9]
  have h := run_bytesToString (P := Try.prog) w ⟨b, off, none⟩ 60 cap zs (by
    rw [run_loadCells w ⟨b, off, none⟩ 60 (fun j => .int .u8 (zs.getD j 0)) (fun j hj => by rw [add_plain]; exact hc j hj), range_map_take _ zs 60 (by omega), List.take_of_length_le (by omega)])
  exact h

set_option maxRecDepth 100000 in
set_option maxHeartbeats 1600000 in
theorem FlagsBack_walk (a : Option Addr) (len cap : Nat) (zs : List Int) (which : Nat) (w : World) (h : CameIn w a len cap zs) (hw : which < 256) :
    Calls Try.prog 4 #[.slice a len cap, .int .u8 which] w fun e w' => e = .returned (.bool true) ∧ Below w.heap.size w w' := by
  by_cases hl : len = 60
  · subst hl
    obtain ⟨b, off, ys, rfl, hcap, hb, hl, hf, hc⟩ := came_60 h
    clear h
    obtain ⟨l, hlist⟩ : ∃ l, l = gaps (fun n => !bit ys n) 0 480 := ⟨_, rfl⟩
    have hgood := good_gaps (fun n => !bit ys n) 0 480 (by omega)
    have hgl := gaps_len (fun n => !bit ys n) 0 480 (by omega)
    have hdown := fun w (hb : b < w.heap.size) hc => Down_ok ys hf b off cap 0 480 (by omega) (by omega) w hb hc
    rw [← hlist] at hgood hgl hdown
    clear hlist
    by_cases hN : l.length = 0
    · go_enter Try.func4, Try.ntmps4
      go_wp2_with fail
      refine (hdown _ hb hc).mono ?_
      rintro e w1 ⟨v1, rfl, hown1, hb1⟩
      obtain ⟨x, c1, rfl, _⟩ := owns_at hown1
      rw [hN]
      clear hown1 hdown hgood hgl hN hc hf
      go_wp2_with fail
      refine (awake_any _).mono ?_
      rintro e w2 ⟨rfl, hb2⟩
      go_wp2_with fail
      refine (awake_any _).mono ?_
      rintro e w3 ⟨rfl, hb3⟩
      go_wp2
      go_ret
      exact ⟨rfl, (hb1.trans (hb2.mono hb1.size)).trans (hb3.mono (Nat.le_trans hb1.size hb2.size))⟩
    · go_enter Try.func4, Try.ntmps4
      go_wp2_with fail
      refine (hdown _ hb hc).mono ?_
      rintro e w1 ⟨v1, rfl, hown1, hb1⟩
      have hs1 := hb1.size
      have hc1 := below_lies hc hb1 hb
      clear hc hdown
      go_wp2_with fail
      refine (awake_any _).mono ?_
      rintro e w2 ⟨rfl, hb2⟩
      have hs2 := hb2.size
      have hc2 := below_lies hc1 hb2 (by omega)
      have hown2 := owns_below hown1 hb2
      have hb3 := hb1.trans (hb2.mono hs1)
      clear hown1 hc1 hb1 hb2
      obtain ⟨x, c1, rfl, hcells⟩ := owns_at hown2
      have hkl : which % l.length < l.length := Nat.mod_lt _ (by omega)
      obtain ⟨g, rfl, hk1⟩ := hcells _ hkl
      have hgd := hgood _ (List.getElem_mem hkl)
      generalize l[which % l.length] = r at hk1 hgd
      obtain ⟨rx, ry⟩ := r
      obtain ⟨_, hr1, hr2, hr3⟩ := hgd
      simp only at hr1 hr2 hr3
      have hk2 : w2.cell? ⟨g, which % l.length, none⟩ = some (.complex .f64 (F (rx : Int)) (F (ry : Int))) := hk1
      generalize l.length = N at hk2 hkl hgl hN ⊢
      clear hown2 hcells hgood hk1
      have hd0 : ∀ k, rx ≤ k → k < rx + ry → bit ys k = false := fun k h1 h2 => by simpa using hr3 k h1 h2
      have HF2 : Hid (cnt (bit (puts true ys rx ry)) 0 480 = cnt (bit ys) 0 480 + ry) := cnt_puts hf rx ry 480 hr2 (by omega) hd0
      have HB2 : Hid (puts false (puts true ys rx ry) rx ry = ys) := puts_back hf rx ry (by omega) hd0
      have hfp := puts_fits true hf rx ry
      have hlp : (puts true ys rx ry).length = 60 := by rw [puts_length]; exact hl
      clear hr3 hd0
      have hN0 : ((N : Int) == 0) = false := by simp; omega
      have c1 := conv_F ry (by omega)
      go_wp2_with fail
      refine (Mark_one true ys hf hl b off cap w2.heap.size 1 rx ry hr1 hr2 _ (by simp; omega) (below_lies hc2 ((Below.refl _ _).alloc (Nat.le_refl _) _) (by omega)) (by simp) (World.cell?_alloc_at _ _ _ 0 rfl)).mono ?_
      rintro e w3 ⟨g1, cp1, rfl, hcp1, hlies1, hg1, hg2, hb4⟩
      have hb5 : Below w2.heap.size w2 w3 := ((Below.refl _ _).alloc (Nat.le_refl _) _).trans (hb4.mono (by simp))
      have hc3 := below_lies hc2 hb5 (by omega)
      have hb6 := hb3.trans (hb5.mono hb3.size)
      have hs3 := hb5.size
      clear hb3 hb4 hb5 hc2 hk2
      go_wp2_with fail
      refine (Mark_one false (puts true ys rx ry) hfp hlp g1 0 cp1 w3.heap.size 1 rx ry hr1 hr2 _ (by simp; omega) (below_lies hlies1 ((Below.refl _ _).alloc (Nat.le_refl _) _) hg2) (by simp) (World.cell?_alloc_at _ _ _ 0 rfl)).mono ?_
      rw [HB2.out]
      rintro e w4 ⟨g2, cp2, rfl, hcp2, hlies2, hg3, hg4, hb7⟩
      have hb8 : Below w3.heap.size w3 w4 := ((Below.refl _ _).alloc (Nat.le_refl _) _).trans (hb7.mono (by simp))
      have hc4 := below_lies hc3 hb8 (by omega)
      have hlies3 := below_lies hlies1 hb8 hg2
      have hb9 := hb6.trans (hb8.mono hb6.size)
      have hs4 := hb8.size
      clear hb6 hb7 hb8 hc3 hlies1
      go_wp2_with fail
      refine (Count_ok ys hf b off cap 480 hcap (by omega) _ hc4).mono ?_
      rintro e w5 ⟨rfl, hb10⟩
      have hc5 := below_lies hc4 hb10 (by omega)
      have hlies4 := below_lies hlies3 hb10 (by omega)
      have hlies5 := below_lies hlies2 hb10 hg4
      have hb11 := hb9.trans (hb10.mono hb9.size)
      have hs5 := hb10.size
      clear hb9 hb10 hc4 hlies3 hlies2
      go_wp2_with fail
      refine (Count_ok (puts true ys rx ry) hfp g1 0 cp1 480 hcp1 (by omega) _ hlies4).mono ?_
      rw [HF2.out]
      rintro e w6 ⟨rfl, hb12⟩
      have hc6 := below_lies hc5 hb12 (by omega)
      have hlies6 := below_lies hlies5 hb12 (by omega)
      have hb13 := hb11.trans (hb12.mono hb11.size)
      have hcl := cnt_le (bit ys) 0 480
      have t1 := text_60 (w := w6) cap hl hc6
      have t2 := text_60 (w := w6) cp2 hl hlies6
      generalize strOf ys = sy at t1 t2
      clear hb11 hb12 hc5 hlies4 hlies5 hc6 hlies6 hfp hf
      go_wp2
      go_ret
      exact ⟨rfl, hb13⟩
  · have h2 := form_ne hl
    clear h hl
    go_enter Try.func4, Try.ntmps4
    go_wp2_with fail
    refine (Down_form _ len cap 0 480 h2 _).mono ?_
    rintro e w1 ⟨rfl, rfl⟩
    go_wp2_with fail
    refine (awake_any _).mono ?_
    rintro e w2 ⟨rfl, hb2⟩
    go_wp2_with fail
    refine (awake_any _).mono ?_
    rintro e w3 ⟨rfl, hb3⟩
    go_wp2
    go_ret
    exact ⟨rfl, hb2.trans (hb3.mono hb2.size)⟩

theorem byte_of {n : Int} (h : (Lit.int .u8 n).wf = true) : ∃ k : Nat, n = (k : Int) ∧ k < 256 := by
  have := fits_of_wf (zs := [n]) (by simpa using h) 0
  simp at this
  exact ⟨n.toNat, by omega, by omega⟩
end Go.Proofs.Ytoiafcelnohcfaa
