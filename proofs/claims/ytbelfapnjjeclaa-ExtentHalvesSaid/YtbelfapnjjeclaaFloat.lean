/- Whole numbers below 2 ^ 53 as float64 words: the word of such a number reads as that number; sums, comparisons, conversions to integers are exact. No condition beyond the stated bounds. -/
import Derived.Laws.FloatArith
import Derived.Laws.ComplexArith
namespace Go.Proofs.Ytbelfapnjjeclaa
open Ieee

/-- The datum stands for the whole number n, at some place at most 0; zero has no sign. -/
def Rep (d : Datum) (n : Int) : Prop :=
  ∃ k : Nat, k ≤ 1074 ∧ d = .number (decide (n < 0)) (n.natAbs * 2 ^ k) (-(k : Int))

theorem signed_rep (n : Int) (k j : Nat) : signed (decide (n < 0)) (n.natAbs * 2 ^ k) j = n * 2 ^ (k + j) := by
  unfold signed
  by_cases h : n < 0
  · simp only [h, decide_true, if_true, Nat.shiftLeft_eq]
    push_cast
    rw [Int.pow_add]
    have : ((n.natAbs : Nat) : Int) = -n := by omega
    rw [this, Int.neg_mul, Int.neg_mul, Int.neg_neg, Int.mul_assoc]
  · simp only [h, decide_false, Bool.false_eq_true, if_false, Nat.shiftLeft_eq]
    push_cast
    rw [Int.pow_add]
    have : ((n.natAbs : Nat) : Int) = n := by omega
    rw [this, Int.mul_assoc]

theorem two_pow_pos_int (k : Nat) : (0 : Int) < 2 ^ k := by
  have := Nat.two_pow_pos k
  exact_mod_cast this

theorem mul_pow_lt_zero (n : Int) (k : Nat) : (n * 2 ^ k < 0) ↔ n < 0 := by
  have h := two_pow_pos_int k
  constructor
  · intro h1
    by_cases hn : n < 0
    · exact hn
    · have := Int.mul_nonneg (Int.not_lt.1 hn) (Int.le_of_lt h)
      omega
  · intro h1
    exact Int.mul_neg_of_neg_of_pos h1 h

theorem mul_pow_eq_zero (n : Int) (k : Nat) : (n * 2 ^ k = 0) ↔ n = 0 := by
  have h := two_pow_pos_int k
  constructor
  · intro h1
    rcases Int.mul_eq_zero.1 h1 with h2 | h2
    · exact h2
    · omega
  · rintro rfl; simp

theorem sum_rep {d e : Datum} {a b : Int} (hd : Rep d a) (he : Rep e b) : ∃ f, d.sum e = some f ∧ Rep f (a + b) := by
  obtain ⟨k, hk, rfl⟩ := hd
  obtain ⟨j, hj, rfl⟩ := he
  refine ⟨_, rfl, max k j, by omega, ?_⟩
  have hbase : min (-(k : Int)) (-(j : Int)) = -((max k j : Nat) : Int) := by omega
  have h1 : (-(k : Int) - -((max k j : Nat) : Int)).toNat = max k j - k := by omega
  have h2 : (-(j : Int) - -((max k j : Nat) : Int)).toNat = max k j - j := by omega
  simp only [hbase, h1, h2, signed_rep]
  have h3 : k + (max k j - k) = max k j := by omega
  have h4 : j + (max k j - j) = max k j := by omega
  rw [h3, h4, ← Int.add_mul]
  congr 1
  · by_cases hz : a + b = 0
    · rw [if_pos ((mul_pow_eq_zero _ _).2 hz), hz]
      by_cases ha : a < 0 <;> by_cases hb : b < 0 <;> simp [ha, hb]
      omega
    · rw [if_neg (fun h => hz ((mul_pow_eq_zero _ _).1 h))]
      simp only [mul_pow_lt_zero]
  · rw [Int.natAbs_mul, Int.natAbs_pow]; rfl

theorem order_rep {d e : Datum} {a b : Int} (hd : Rep d a) (he : Rep e b) : d.order e = some (compare a b) := by
  obtain ⟨k, hk, rfl⟩ := hd
  obtain ⟨j, hj, rfl⟩ := he
  have hbase : min (-(k : Int)) (-(j : Int)) = -((max k j : Nat) : Int) := by omega
  have h1 : (-(k : Int) - -((max k j : Nat) : Int)).toNat = max k j - k := by omega
  have h2 : (-(j : Int) - -((max k j : Nat) : Int)).toNat = max k j - j := by omega
  simp only [Datum.order, hbase, h1, h2, signed_rep]
  have h3 : k + (max k j - k) = max k j := by omega
  have h4 : j + (max k j - j) = max k j := by omega
  rw [h3, h4]
  congr 1
  have h := two_pow_pos_int (max k j)
  rcases Int.lt_trichotomy a b with hab | hab | hab
  · rw [Int.compare_eq_lt.2 hab, Int.compare_eq_lt.2 (Int.mul_lt_mul_of_pos_right hab h)]
  · subst hab; simp
  · rw [Int.compare_eq_gt.2 hab, Int.compare_eq_gt.2 (Int.mul_lt_mul_of_pos_right hab h)]

theorem cut_exact (way : Toward) (neg : Bool) (m k : Nat) (hm : 0 < m) : way.cut neg (m * 2 ^ k) k = m := by
  have hl : k ≤ (m * 2 ^ k).log2 := by
    rw [Nat.le_log2 (by have := Nat.two_pow_pos k; exact Nat.ne_of_gt (Nat.mul_pos hm this))]
    exact Nat.le_mul_of_pos_left _ hm
  have hmin : min k ((m * 2 ^ k).log2 + 2) = k := by omega
  have hp := Nat.two_pow_pos k
  unfold Toward.cut
  simp only [hmin, Nat.one_shiftLeft, Nat.mul_mod_left, Nat.mul_div_cancel _ hp]
  cases way <;> simp

theorem cut_zero (way : Toward) (neg : Bool) (m : Nat) : way.cut neg m 0 = m := by
  unfold Toward.cut
  have hmin : min 0 (m.log2 + 2) = 0 := by omega
  simp only [hmin, Nat.shiftLeft_zero, Nat.mod_one, Nat.div_one]
  cases way <;> simp

theorem cut_rep (way : Toward) (neg : Bool) (n k : Nat) : way.cut neg (n * 2 ^ k) k = n := by
  by_cases h : n = 0
  · subst h
    have hmin : min k ((0 : Nat).log2 + 2) = min k 2 := by simp
    unfold Toward.cut
    simp only [Nat.zero_mul, Nat.zero_mod, Nat.zero_div]
    cases way <;> simp
  · exact cut_exact way neg n k (by omega)

theorem integral_rep (way : Toward) {d : Datum} {n : Int} (hd : Rep d n) : Rep (d.integral way) n := by
  obtain ⟨k, hk, rfl⟩ := hd
  refine ⟨0, by omega, ?_⟩
  simp only [Datum.integral]
  have h1 : (-(k : Int)).toNat = 0 := by omega
  have h2 : (- -(k : Int)).toNat = k := by omega
  rw [h1, h2, Nat.shiftLeft_zero, cut_rep]
  simp

theorem toInt_rep (way : Toward) {d : Datum} {n : Int} (hd : Rep d n) : d.toInt way = some n := by
  obtain ⟨k, hk, h⟩ := integral_rep way hd
  obtain ⟨k', hk', rfl⟩ := hd
  unfold Datum.toInt
  simp only [Datum.integral] at h ⊢
  have h1 : (-(k' : Int)).toNat = 0 := by omega
  have h2 : (- -(k' : Int)).toNat = k' := by omega
  rw [h1, h2, Nat.shiftLeft_zero, cut_rep]
  have := signed_rep n 0 0
  simpa using this

/-- The rung of a number: m * 2 ^ (52 - log2 m) is its significand. -/
theorem log2_mul_pow (m k : Nat) (hm : m ≠ 0) : (m * 2 ^ k).log2 = m.log2 + k := by
  have hp := Nat.two_pow_pos k
  have h0 : m * 2 ^ k ≠ 0 := Nat.mul_ne_zero hm (Nat.ne_of_gt hp)
  rw [Nat.log2_eq_iff h0]
  have h1 := Nat.log2_self_le hm
  have h2 : m < 2 ^ (m.log2 + 1) := Nat.lt_log2_self
  constructor
  · rw [Nat.pow_add]; exact Nat.mul_le_mul_right _ h1
  · have : 2 ^ (m.log2 + k + 1) = 2 ^ (m.log2 + 1) * 2 ^ k := by
      rw [← Nat.pow_add]; congr 1; omega
    rw [this]; exact Nat.mul_lt_mul_of_pos_right h2 hp

theorem log2_lt_53 (m : Nat) (hm : m ≠ 0) (h : m < 2 ^ 53) : m.log2 ≤ 52 := by
  have := (Nat.log2_lt hm).2 h
  omega

/-- The rung of the whole number m, m not 0 and below 2 ^ 53. -/
def rungOf (m : Nat) : Nat := (m.log2 + 1022) * 2 ^ 52 + m * 2 ^ (52 - m.log2)

theorem rungOf_lt (m : Nat) (hm : m ≠ 0) (h : m < 2 ^ 53) : rungOf m < double.infRung := by
  have hl := log2_lt_53 m hm h
  have h2 : m < 2 ^ (m.log2 + 1) := Nat.lt_log2_self
  have h3 : m * 2 ^ (52 - m.log2) < 2 ^ 53 := by
    have : (2 : Nat) ^ 53 = 2 ^ (m.log2 + 1) * 2 ^ (52 - m.log2) := by rw [← Nat.pow_add]; congr 1; omega
    rw [this]; exact Nat.mul_lt_mul_of_pos_right h2 (Nat.two_pow_pos _)
  have e : double.infRung = 2047 * 2 ^ 52 := rfl
  unfold rungOf
  rw [e]
  have : (m.log2 + 1022) * 2 ^ 52 ≤ 1074 * 2 ^ 52 := Nat.mul_le_mul_right _ (by omega)
  omega

theorem nearest_rep (neg : Bool) (m k : Nat) (hm : m ≠ 0) (h : m < 2 ^ 53) :
    double.nearest neg (m * 2 ^ k) (-(k : Int)) = double.word neg (rungOf m) := by
  have hl := log2_lt_53 m hm h
  have hp := Nat.two_pow_pos k
  have h0 : m * 2 ^ k ≠ 0 := Nat.mul_ne_zero hm (Nat.ne_of_gt hp)
  unfold Format.nearest
  rw [if_neg h0]
  have e1 : double.leastPlace = -1074 := by rfl
  have e2 : double.fractionBits = 52 := rfl
  have e3 : double.binade = 2 ^ 52 := rfl
  have hlast : max (-(k : Int) + ((m * 2 ^ k).log2 : Nat) - (double.fractionBits : Nat)) double.leastPlace = (m.log2 : Int) - 52 := by
    rw [log2_mul_pow m k hm, e1, e2]; omega
  simp only [hlast]
  have hkept : Toward.even.cut neg ((m * 2 ^ k) <<< (-(k : Int) - ((m.log2 : Int) - 52)).toNat) (((m.log2 : Int) - 52) - -(k : Int)).toNat = m * 2 ^ (52 - m.log2) := by
    by_cases hc : k ≤ 52 - m.log2
    · have a1 : (-(k : Int) - ((m.log2 : Int) - 52)).toNat = 52 - m.log2 - k := by omega
      have a2 : (((m.log2 : Int) - 52) - -(k : Int)).toNat = 0 := by omega
      rw [a1, a2, cut_zero, Nat.shiftLeft_eq, Nat.mul_assoc, ← Nat.pow_add]
      congr 2; omega
    · have a1 : (-(k : Int) - ((m.log2 : Int) - 52)).toNat = 0 := by omega
      have a2 : (((m.log2 : Int) - 52) - -(k : Int)).toNat = k - (52 - m.log2) := by omega
      rw [a1, a2, Nat.shiftLeft_zero]
      have : m * 2 ^ k = (m * 2 ^ (52 - m.log2)) * 2 ^ (k - (52 - m.log2)) := by
        rw [Nat.mul_assoc, ← Nat.pow_add]; congr 2; omega
      rw [this]
      exact cut_rep _ _ _ _
  rw [hkept, e1, e3]
  have a3 : ((m.log2 : Int) - 52 - -1074).toNat = m.log2 + 1022 := by omega
  rw [a3]
  have := rungOf_lt m hm h
  unfold rungOf at this
  rw [Nat.min_eq_left (by omega)]
  rfl

/-- The word of a whole number. -/
abbrev F (n : Int) : Nat := floatOfInt .f64 n

theorem write_rep {d : Datum} {n : Int} (hd : Rep d n) (h : n.natAbs < 2 ^ 53) : double.write d = F n := by
  obtain ⟨k, hk, rfl⟩ := hd
  by_cases hn : n = 0
  · subst hn; simp [Format.write, Format.nearest, F, floatOfInt, FloatKind.nearest, FloatKind.encode, FloatKind.format]
  · have hm : n.natAbs ≠ 0 := by omega
    have h1 := nearest_rep (decide (n < 0)) n.natAbs k hm h
    have h2 := nearest_rep (decide (n < 0)) n.natAbs 0 hm h
    have e : F n = double.nearest (decide (n < 0)) n.natAbs 0 := rfl
    simp only [Format.write]
    rw [h1, e]
    simpa using h2.symm

theorem rung_eq (M X B : Nat) (h : B ≤ X) : (M + 1022) * B + X = (M + 1023) * B + (X - B) := by
  have e : (M + 1023) * B = (M + 1022) * B + B := Nat.succ_mul (M + 1022) B
  omega

theorem read_word (neg : Bool) (m : Nat) (hm : m ≠ 0) (h : m < 2 ^ 53) :
    double.read (double.word neg (rungOf m)) = .number neg (m * 2 ^ (52 - m.log2)) (-((52 - m.log2 : Nat) : Int)) := by
  have hl := log2_lt_53 m hm h
  have hlt := rungOf_lt m hm h
  have hinf : double.infRung < double.signWeight := double.infRung_lt
  have e1 : double.leastPlace = -1074 := by rfl
  have e3 : double.binade = 2 ^ 52 := rfl
  have hmod : double.word neg (rungOf m) % double.signWeight = rungOf m := by
    unfold Format.word
    cases neg
    · simp only [Bool.false_eq_true, if_false]; exact Nat.mod_eq_of_lt (by omega)
    · simp only [if_true]; rw [Nat.add_mod_left]; exact Nat.mod_eq_of_lt (by omega)
  have hdiv : (double.word neg (rungOf m) / double.signWeight % 2 == 1) = neg := by
    unfold Format.word
    cases neg
    · simp only [Bool.false_eq_true, if_false]; rw [Nat.div_eq_of_lt (by omega)]; rfl
    · simp only [if_true]; rw [Nat.add_div_left _ (by omega), Nat.div_eq_of_lt (by omega)]; rfl
  have b1 := Nat.log2_self_le hm
  have b2 : m < 2 ^ (m.log2 + 1) := Nat.lt_log2_self
  have c1 : 2 ^ 52 ≤ m * 2 ^ (52 - m.log2) := by
    have : (2 : Nat) ^ 52 = 2 ^ m.log2 * 2 ^ (52 - m.log2) := by rw [← Nat.pow_add]; congr 1; omega
    rw [this]; exact Nat.mul_le_mul_right _ b1
  have c2 : m * 2 ^ (52 - m.log2) < 2 * 2 ^ 52 := by
    have : 2 * (2 : Nat) ^ 52 = 2 ^ (m.log2 + 1) * 2 ^ (52 - m.log2) := by rw [← Nat.pow_add, ← Nat.pow_succ']; congr 1; omega
    rw [this]; exact Nat.mul_lt_mul_of_pos_right b2 (Nat.two_pow_pos _)
  have hr : rungOf m = (m.log2 + 1023) * 2 ^ 52 + (m * 2 ^ (52 - m.log2) - 2 ^ 52) := by
    exact rung_eq _ _ _ c1
  have hq : rungOf m / 2 ^ 52 = m.log2 + 1023 := by
    rw [hr, Nat.add_comm, Nat.add_mul_div_right _ _ (Nat.two_pow_pos _), Nat.div_eq_of_lt (by omega)]; omega
  have hrm : rungOf m % 2 ^ 52 = m * 2 ^ (52 - m.log2) - 2 ^ 52 := by
    rw [hr, Nat.add_comm, Nat.add_mul_mod_self_right, Nat.mod_eq_of_lt (by omega)]
  have hge : ¬ rungOf m < 2 ^ 52 := by
    rw [hr]
    have : 1 * 2 ^ 52 ≤ (m.log2 + 1023) * 2 ^ 52 := Nat.mul_le_mul_right _ (by omega)
    omega
  unfold Format.read
  simp only [hmod, hdiv, e3, e1]
  rw [if_neg hge, if_pos hlt, hq, hrm, Nat.add_sub_of_le c1]
  have hp : (-1074 : Int) + ((m.log2 + 1023 - 1 : Nat) : Int) = -((52 - m.log2 : Nat) : Int) := by omega
  rw [hp]

theorem rep_zero (k : Nat) (hk : k ≤ 1074) : Rep (.number false 0 (-(k : Int))) 0 := ⟨k, hk, by simp⟩

theorem read_F (n : Int) (h : n.natAbs < 2 ^ 53) : Rep (double.read (F n)) n := by
  by_cases hn : n = 0
  · subst hn
    have e : double.read (F 0) = .number false 0 (-((1074 : Nat) : Int)) := rfl
    rw [e]
    exact rep_zero 1074 (by omega)
  · have hm : n.natAbs ≠ 0 := by omega
    have h2 := nearest_rep (decide (n < 0)) n.natAbs 0 hm h
    have e : F n = double.nearest (decide (n < 0)) n.natAbs 0 := rfl
    have e2 : F n = double.word (decide (n < 0)) (rungOf n.natAbs) := by rw [e]; simpa using h2
    rw [e2, read_word _ _ hm h]
    exact ⟨_, by omega, rfl⟩

theorem order_F (a b : Int) (ha : a.natAbs < 2 ^ 53) (hb : b.natAbs < 2 ^ 53) : FloatKind.f64.format.order (F a) (F b) = some (compare a b) :=
  order_rep (read_F a ha) (read_F b hb)

theorem add_F (a b : Int) (ha : a.natAbs < 2 ^ 53) (hb : b.natAbs < 2 ^ 53) (hab : (a + b).natAbs < 2 ^ 53) : floatBits .add .f64 (F a) (F b) = some (F (a + b)) := by
  obtain ⟨f, h1, h2⟩ := sum_rep (read_F a ha) (read_F b hb)
  show ((double.read (F a)).sum (double.read (F b))).map double.write = _
  rw [h1, Option.map_some, write_rep h2 hab]

theorem toInt_F (n : Int) (h : n.natAbs < 2 ^ 53) : floatToIntVal .f64 (F n) .i64 = some n := by
  unfold floatToIntVal
  have e : (FloatKind.f64.decode (F n)).toInt .zero = some n := toInt_rep .zero (read_F n h)
  rw [e]
  simp only
  rw [if_pos]
  constructor
  · show -(2 ^ 63 : Int) ≤ n; omega
  · show n ≤ 2 ^ 63 - 1; omega

theorem trunc_F (n : Int) (h : n.natAbs < 2 ^ 53) : FloatKind.f64.encode ((FloatKind.f64.decode (F n)).integral .zero) = F n :=
  write_rep (integral_rep .zero (read_F n h)) h

theorem decode_F (n : Int) (h : n.natAbs < 2 ^ 53) : ∃ s m k, FloatKind.f64.decode (F n) = .number s m k := by
  obtain ⟨k, _, hk⟩ := read_F n h
  exact ⟨_, _, _, hk⟩

theorem F_inj (a b : Int) (ha : a.natAbs < 2 ^ 53) (hb : b.natAbs < 2 ^ 53) (h : F a = F b) : a = b := by
  have h1 := order_F a b ha hb
  rw [h] at h1
  have h2 := order_F b b hb hb
  rw [h1] at h2
  simp at h2
  exact h2

theorem F_lt (n : Int) : F n < 2 ^ 64 := double.write_lt (.number (decide (n < 0)) n.natAbs 0)

theorem F_nonneg_lt (n : Int) (h0 : 0 ≤ n) (h : n.natAbs < 2 ^ 53) : F n < 2 ^ 63 := by
  by_cases hn : n = 0
  · subst hn; decide
  · have hm : n.natAbs ≠ 0 := by omega
    have h2 := nearest_rep (decide (n < 0)) n.natAbs 0 hm h
    have e : F n = double.nearest (decide (n < 0)) n.natAbs 0 := rfl
    have e2 : F n = double.word (decide (n < 0)) (rungOf n.natAbs) := by rw [e]; simpa using h2
    have hneg : decide (n < 0) = false := by simpa using h0
    rw [e2, hneg]
    have h3 := rungOf_lt n.natAbs hm h
    have h4 : double.infRung < double.signWeight := double.infRung_lt
    show rungOf n.natAbs < 2 ^ 63
    have : double.signWeight = 2 ^ 63 := rfl
    omega
end Go.Proofs.Ytbelfapnjjeclaa
