/- The plain law of a map's bytes: a block's flag is a bit of a byte; reading it, putting it up or down, counting those that are up; lists and numbers alone, no Go. -/
import Derived.Laws.BitsAllLaws
import Derived.Test.YtoiafcelnohcfaaPlain
namespace Go.Proofs.Ytoiafcelnohcfaa

/-- The i-th byte of a map. -/
def byteAt (zs : List Int) (i : Nat) : Nat := (zs[i]?.getD 0).toNat
/-- Block n's flag. -/
def bit (zs : List Int) (n : Nat) : Bool := (byteAt zs (n / 8)).testBit (n % 8)

def Fits (zs : List Int) : Prop := ∀ i : Nat, 0 ≤ zs[i]?.getD 0 ∧ zs[i]?.getD 0 < 256

theorem byte_cast {zs : List Int} (h : Fits zs) (i : Nat) : zs[i]?.getD 0 = ((byteAt zs i : Nat) : Int) := by
  have := (h i).1; unfold byteAt; omega
theorem byte_lt {zs : List Int} (h : Fits zs) (i : Nat) : byteAt zs i < 256 := by
  have := h i; unfold byteAt; omega

theorem fits_of_wf {zs : List Int} (h : ∀ n ∈ zs, (Lit.int .u8 n).wf = true) : Fits zs := by
  intro i
  by_cases hi : i < zs.length
  · rw [List.getElem?_eq_getElem hi]
    have := h _ (List.getElem_mem hi)
    simp [Lit.wf, IntKind.min, IntKind.max, IntKind.signed, IntKind.bits] at this
    simp; omega
  · rw [List.getElem?_eq_none (by omega)]; simp

def pop (b : Nat) : Nat := cnt (fun j => b.testBit j) 0 8

set_option maxRecDepth 100000 in
theorem shr_bit_nat : ∀ b, b < 256 → ∀ k, k < 8 → (b / 2 ^ k % 2 == 1) = b.testBit k := by
  intro b _ k _
  rw [Nat.testBit_eq_decide_div_mod_eq]
  cases h : decide (b / 2 ^ k % 2 = 1) <;> simp_all

theorem pop_mask_nat : ∀ b, b < 256 → ∀ k, k < 8 → pop (b &&& (2 ^ k - 1)) = cnt (fun j => b.testBit j) 0 k := by decide +kernel

theorem clear_nat : ∀ b, b < 256 → ∀ k, k < 8 → (b &&& (255 - 2 ^ k)) < 256 ∧ ∀ j, j < 8 → (b &&& (255 - 2 ^ k)).testBit j = (b.testBit j && !(j == k)) := by decide +kernel
theorem raise_nat : ∀ b, b < 256 → ∀ k, k < 8 → (b ||| 2 ^ k) < 256 ∧ ∀ j, j < 8 → (b ||| 2 ^ k).testBit j = (b.testBit j || j == k) := by decide +kernel

theorem pow_lt (k : Nat) (h : k < 8) : (2 : Nat) ^ k < 256 ∧ 1 ≤ (2 : Nat) ^ k := by
  have := Nat.pow_lt_pow_right (a := 2) (by omega) h
  exact ⟨by omega, Nat.two_pow_pos k⟩

theorem cnt_bit (zs : List Int) (i k : Nat) (hk : k ≤ 8) : cnt (bit zs) (8 * i) k = cnt (fun j => (byteAt zs i).testBit j) 0 k := by
  induction k with
  | zero => rfl
  | succ k ih =>
    rw [cnt, cnt, ih (by omega)]
    have h1 : (8 * i + k) / 8 = i := by omega
    have h2 : (8 * i + k) % 8 = k := by omega
    simp [bit, h1, h2]

theorem cnt_byte (zs : List Int) (i : Nat) : cnt (bit zs) 0 (8 * (i + 1)) = cnt (bit zs) 0 (8 * i) + pop (byteAt zs i) := by
  have := cnt_split (bit zs) 0 (8 * i) 8
  rw [Nat.zero_add, cnt_bit zs i 8 (Nat.le_refl _)] at this
  exact this

theorem cnt_rest {zs : List Int} (h : Fits zs) (to : Nat) : cnt (bit zs) 0 to = cnt (bit zs) 0 (8 * (to / 8)) + pop (byteAt zs (to / 8) &&& (2 ^ (to % 8) - 1)) := by
  have h1 := cnt_split (bit zs) 0 (8 * (to / 8)) (to % 8)
  rw [Nat.zero_add, cnt_bit zs (to / 8) (to % 8) (by omega)] at h1
  have h2 : 8 * (to / 8) + to % 8 = to := by omega
  rw [h2] at h1
  rw [pop_mask_nat _ (byte_lt h _) _ (by omega)]
  exact h1

theorem cnt_le (p : Nat → Bool) (fr d : Nat) : cnt p fr d ≤ d := by
  have := cnt_not p fr d; omega

theorem byte_ext : ∀ a, a < 256 → ∀ b, b < 256 → (∀ j, j < 8 → a.testBit j = b.testBit j) → a = b := by
  intro a ha b hb h
  apply Nat.eq_of_testBit_eq
  intro i
  by_cases hi : i < 8
  · exact h i hi
  · have hp : (2 : Nat) ^ 8 ≤ 2 ^ i := Nat.pow_le_pow_right (by decide) (Nat.le_of_not_lt hi)
    have h1 : a < 2 ^ i := Nat.lt_of_lt_of_le (show a < 2 ^ 8 from ha) hp
    have h2 : b < 2 ^ i := Nat.lt_of_lt_of_le (show b < 2 ^ 8 from hb) hp
    rw [Nat.testBit_lt_two_pow h1, Nat.testBit_lt_two_pow h2]

/-- Two maps with the same flags are one. -/
theorem map_ext {zs ys : List Int} (hz : Fits zs) (hy : Fits ys) (n : Nat) (hl : zs.length = n) (hl' : ys.length = n) (h : ∀ k, k < 8 * n → bit zs k = bit ys k) : zs = ys := by
  apply List.ext_getElem (by omega)
  intro i h1 h2
  have e : byteAt zs i = byteAt ys i := by
    refine byte_ext _ (byte_lt hz i) _ (byte_lt hy i) (fun j hj => ?_)
    have := h (8 * i + j) (by omega)
    have e1 : (8 * i + j) / 8 = i := by omega
    have e2 : (8 * i + j) % 8 = j := by omega
    simpa [bit, e1, e2] using this
  have a := byte_cast hz i
  have b := byte_cast hy i
  rw [List.getElem?_eq_getElem h1] at a
  rw [List.getElem?_eq_getElem h2] at b
  simp at a b
  rw [a, b, e]

/-- A map with one block's flag up, or down. -/
def put (up : Bool) (zs : List Int) (n : Nat) : List Int :=
  zs.set (n / 8) ((if up then (byteAt zs (n / 8) &&& (255 - 2 ^ (n % 8))) ||| 2 ^ (n % 8) else byteAt zs (n / 8) &&& (255 - 2 ^ (n % 8)) : Nat) : Int)

theorem put_length (up : Bool) (zs : List Int) (n : Nat) : (put up zs n).length = zs.length := by simp [put]

theorem put_byte (up : Bool) (b k : Nat) (hb : b < 256) (hk : k < 8) :
    (if up then (b &&& (255 - 2 ^ k)) ||| 2 ^ k else b &&& (255 - 2 ^ k)) < 256 ∧
    ∀ j, j < 8 → (if up then (b &&& (255 - 2 ^ k)) ||| 2 ^ k else b &&& (255 - 2 ^ k)).testBit j = if j = k then up else b.testBit j := by
  have h1 := clear_nat b hb k hk
  cases up
  · simp only [Bool.false_eq_true, if_false]
    refine ⟨h1.1, fun j hj => ?_⟩
    rw [h1.2 j hj]
    by_cases h : j = k
    · simp [h]
    · have e : (j == k) = false := by simpa using h
      simp [h, e]
  · simp only [if_true]
    have h2 := raise_nat _ h1.1 k hk
    refine ⟨h2.1, fun j hj => ?_⟩
    rw [h2.2 j hj, h1.2 j hj]
    by_cases h : j = k
    · simp [h]
    · have e : (j == k) = false := by simpa using h
      simp [h, e]

theorem put_fits (up : Bool) {zs : List Int} (h : Fits zs) (n : Nat) : Fits (put up zs n) := by
  intro i
  have hb := (put_byte up (byteAt zs (n / 8)) (n % 8) (byte_lt h _) (by omega)).1
  unfold put
  rw [List.getElem?_set]
  by_cases h1 : n / 8 = i
  · rw [if_pos h1]
    by_cases h2 : n / 8 < zs.length
    · rw [if_pos h2, Option.getD_some]; omega
    · rw [if_neg h2]; simp
  · rw [if_neg h1]; exact h i

theorem put_bit (up : Bool) {zs : List Int} (h : Fits zs) (n : Nat) (hn : n / 8 < zs.length) (k : Nat) : bit (put up zs n) k = if k = n then up else bit zs k := by
  have hb := (put_byte up (byteAt zs (n / 8)) (n % 8) (byte_lt h _) (by omega)).2 (k % 8) (by omega)
  unfold bit
  by_cases h1 : n / 8 = k / 8
  · have e : byteAt (put up zs n) (k / 8) = if up then (byteAt zs (n / 8) &&& (255 - 2 ^ (n % 8))) ||| 2 ^ (n % 8) else byteAt zs (n / 8) &&& (255 - 2 ^ (n % 8)) := by
      unfold byteAt put
      rw [List.getElem?_set, if_pos h1, if_pos hn, Option.getD_some, Int.toNat_natCast]
      rfl
    rw [e, hb, ← h1]
    by_cases h2 : k % 8 = n % 8
    · have : k = n := by omega
      rw [if_pos h2, if_pos this]
    · have : ¬ k = n := by omega
      rw [if_neg h2, if_neg this]
  · have e : byteAt (put up zs n) (k / 8) = byteAt zs (k / 8) := by
      unfold byteAt put
      rw [List.getElem?_set, if_neg h1]
    have : ¬ k = n := by intro h2; exact h1 (by rw [h2])
    rw [e, if_neg this]

/-- A map with so many blocks' flags up, or down, from a first one on. -/
def puts (up : Bool) (zs : List Int) (first : Nat) : Nat → List Int
  | 0 => zs
  | d + 1 => put up (puts up zs first d) (first + d)

theorem puts_length (up : Bool) (zs : List Int) (first d : Nat) : (puts up zs first d).length = zs.length := by
  induction d with
  | zero => rfl
  | succ d ih => rw [puts, put_length, ih]

theorem puts_fits (up : Bool) {zs : List Int} (h : Fits zs) (first d : Nat) : Fits (puts up zs first d) := by
  induction d with
  | zero => exact h
  | succ d ih => rw [puts]; exact put_fits up ih _

theorem puts_bit (up : Bool) {zs : List Int} (h : Fits zs) (first d : Nat) (hd : first + d ≤ 8 * zs.length) (k : Nat) :
    bit (puts up zs first d) k = if first ≤ k ∧ k < first + d then up else bit zs k := by
  induction d with
  | zero => rw [puts, if_neg (by omega)]
  | succ d ih =>
    rw [puts, put_bit up (puts_fits up h first d) _ (by rw [puts_length]; omega), ih (by omega)]
    by_cases h1 : k = first + d
    · rw [if_pos h1, if_pos (by omega)]
    · rw [if_neg h1]
      by_cases h2 : first ≤ k ∧ k < first + d
      · rw [if_pos h2, if_pos (by omega)]
      · rw [if_neg h2, if_neg (by omega)]

/-- Marked, a run whose flags were down counts. -/
theorem cnt_puts {zs : List Int} (h : Fits zs) (first d to : Nat) (hd : first + d ≤ to) (ht : to ≤ 8 * zs.length) (hdown : ∀ k, first ≤ k → k < first + d → bit zs k = false) :
    cnt (bit (puts true zs first d)) 0 to = cnt (bit zs) 0 to + d := by
  have key : ∀ p : Nat → Bool, cnt p 0 to = cnt p 0 first + cnt p first d + cnt p (first + d) (to - (first + d)) := by
    intro p
    have a := cnt_split p 0 first d
    have b := cnt_split p 0 (first + d) (to - (first + d))
    have e : first + d + (to - (first + d)) = to := by omega
    rw [e] at b
    rw [b, a, Nat.zero_add, Nat.zero_add]
  rw [key, key (bit zs)]
  have hb := puts_bit true h first d (by omega)
  have h1 : cnt (bit (puts true zs first d)) 0 first = cnt (bit zs) 0 first := cnt_congr _ _ _ _ (fun k _ _ => by rw [hb, if_neg (by omega)])
  have h3 : cnt (bit (puts true zs first d)) (first + d) (to - (first + d)) = cnt (bit zs) (first + d) (to - (first + d)) := cnt_congr _ _ _ _ (fun k _ _ => by rw [hb, if_neg (by omega)])
  have h2 : cnt (bit (puts true zs first d)) first d = d := by
    have := cnt_not (bit (puts true zs first d)) first d
    have z : cnt (fun n => !bit (puts true zs first d) n) first d = cnt (fun _ => false) first d := cnt_congr _ _ _ _ (fun k a b => by rw [hb, if_pos ⟨a, b⟩]; rfl)
    have z2 : ∀ d, cnt (fun _ => false) first d = 0 := by intro d; induction d with
      | zero => rfl
      | succ d ih => rw [cnt, ih]; rfl
    rw [z, z2] at this; omega
  have h4 : cnt (bit zs) first d = 0 := by
    have z : cnt (bit zs) first d = cnt (fun _ => false) first d := cnt_congr _ _ _ _ (fun k a b => hdown k a b)
    have z2 : ∀ d, cnt (fun _ => false) first d = 0 := by intro d; induction d with
      | zero => rfl
      | succ d ih => rw [cnt, ih]; rfl
    rw [z, z2]
  omega

/-- Marked and unmarked again, a run whose flags were down leaves the map as it was. -/
theorem puts_back {zs : List Int} (h : Fits zs) (first d : Nat) (hd : first + d ≤ 8 * zs.length) (hdown : ∀ k, first ≤ k → k < first + d → bit zs k = false) :
    puts false (puts true zs first d) first d = zs := by
  refine map_ext (puts_fits false (puts_fits true h first d) first d) h zs.length (by rw [puts_length, puts_length]) rfl (fun k _ => ?_)
  rw [puts_bit false (puts_fits true h first d) first d (by rw [puts_length]; exact hd), puts_bit true h first d hd]
  by_cases h1 : first ≤ k ∧ k < first + d
  · rw [if_pos h1, hdown k h1.1 h1.2]
  · rw [if_neg h1, if_neg h1]
end Go.Proofs.Ytoiafcelnohcfaa
