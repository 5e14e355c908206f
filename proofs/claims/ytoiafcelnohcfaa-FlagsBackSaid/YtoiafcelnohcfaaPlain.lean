/- The plain law of flags: the runs of blocks whose flags are down, how many flags are up, and what marking does to them; lists and numbers alone, no Go. -/
import Derived.Laws.FloatArith
namespace Go.Proofs.Ytoiafcelnohcfaa

/-- The runs (first, count) that end the walk at n, first being where the open run began. -/
def G (has : Nat → Bool) (to : Nat) : (d first n : Nat) → List (Nat × Nat)
  | 0, first, n => if first < n then [(first, n - first)] else []
  | d + 1, first, n => if has n then G has to d first (n + 1) else (if first < n then [(first, n - first)] else []) ++ G has to d (n + 1) (n + 1)

/-- The runs from 'from' to 'to'. -/
def gaps (has : Nat → Bool) (fr to : Nat) : List (Nat × Nat) := G has to (to - fr) fr fr

theorem G_at_end (has : Nat → Bool) (to first n : Nat) (h : n = to) : G has to (to - n) first n = if first < n then [(first, n - first)] else [] := by
  subst h; simp [G]

theorem G_has (has : Nat → Bool) (to first n : Nat) (h : n < to) (hh : has n = true) : G has to (to - n) first n = G has to (to - (n + 1)) first (n + 1) := by
  obtain ⟨d, hd⟩ : ∃ d, to - n = d + 1 := ⟨to - n - 1, by omega⟩
  have : to - (n + 1) = d := by omega
  rw [hd, this, G, if_pos hh]

theorem G_not (has : Nat → Bool) (to first n : Nat) (h : n < to) (hh : has n = false) :
    G has to (to - n) first n = (if first < n then [(first, n - first)] else []) ++ G has to (to - (n + 1)) (n + 1) (n + 1) := by
  obtain ⟨d, hd⟩ : ∃ d, to - n = d + 1 := ⟨to - n - 1, by omega⟩
  have : to - (n + 1) = d := by omega
  rw [hd, this, G, if_neg (by simp [hh])]

/-- A block that has not: the runs begin behind it. -/
theorem gaps_skip (has : Nat → Bool) (to n : Nat) (h : n < to) (hh : has n = false) : gaps has n to = gaps has (n + 1) to := by
  unfold gaps; rw [G_not has to n n h hh]; simp

theorem gaps_end (has : Nat → Bool) (to : Nat) : gaps has to to = [] := by simp [gaps, G]

/-- A run that is open, closed at n (the end, or a block that has not). -/
theorem G_close (has : Nat → Bool) (to first n : Nat) (hf : first < n) (h : n ≤ to) (hh : n < to → has n = false) :
    G has to (to - n) first n = (first, n - first) :: gaps has n to := by
  by_cases hn : n = to
  · subst hn; rw [G_at_end _ _ _ _ rfl, if_pos hf, gaps_end]
  · rw [G_not has to first n (by omega) (hh (by omega)), if_pos hf, gaps_skip has to n (by omega) (hh (by omega))]
    rfl

/-- How many blocks from fr on, d of them, have. -/
def cnt (p : Nat → Bool) (fr : Nat) : Nat → Nat
  | 0 => 0
  | d + 1 => cnt p fr d + (p (fr + d)).toNat

theorem cnt_split (p : Nat → Bool) (fr a b : Nat) : cnt p fr (a + b) = cnt p fr a + cnt p (fr + a) b := by
  induction b with
  | zero => simp [cnt]
  | succ b ih => rw [← Nat.add_assoc, cnt, cnt, ih, Nat.add_assoc fr a b]; omega

theorem cnt_cons (p : Nat → Bool) (fr d : Nat) : cnt p fr (d + 1) = (p fr).toNat + cnt p (fr + 1) d := by
  rw [Nat.add_comm d 1, cnt_split]; simp [cnt]

theorem cnt_not (p : Nat → Bool) (fr d : Nat) : cnt p fr d + cnt (fun n => !p n) fr d = d := by
  induction d with
  | zero => simp [cnt]
  | succ d ih => rw [cnt, cnt]; cases p (fr + d) <;> simp <;> omega

theorem cnt_congr (p q : Nat → Bool) (fr d : Nat) (h : ∀ n, fr ≤ n → n < fr + d → p n = q n) : cnt p fr d = cnt q fr d := by
  induction d with
  | zero => rfl
  | succ d ih => rw [cnt, cnt, ih (fun n h1 h2 => h n h1 (by omega)), h (fr + d) (by omega) (by omega)]

def total (l : List (Nat × Nat)) : Nat := (l.map (·.2)).sum

theorem total_G (has : Nat → Bool) (to : Nat) : ∀ (d first n : Nat), first ≤ n → n + d = to → total (G has to d first n) = (n - first) + cnt has n d := by
  intro d
  induction d with
  | zero =>
    intro first n hf hd
    simp only [G, cnt]
    by_cases h : first < n
    · simp [h, total]
    · simp [h, total]; omega
  | succ d ih =>
    intro first n hf hd
    rw [G, cnt_cons]
    by_cases hh : has n = true
    · rw [if_pos hh, ih first (n + 1) (by omega) (by omega), hh]; simp; omega
    · have hh' : has n = false := by simpa using hh
      rw [if_neg hh, hh']
      have h2 := ih (n + 1) (n + 1) (Nat.le_refl _) (by omega)
      by_cases h : first < n
      · simp only [h, if_true, total, List.map_append, List.sum_append] at h2 ⊢
        simp at h2 ⊢; omega
      · simp only [h, if_false, List.nil_append]; rw [h2]; simp; omega

theorem total_gaps (has : Nat → Bool) (fr to : Nat) (h : fr ≤ to) : total (gaps has fr to) = cnt has fr (to - fr) := by
  unfold gaps; rw [total_G has to (to - fr) fr fr (Nat.le_refl _) (by omega)]; simp

/-- Each run lies where it may, all its blocks have, and between two of them there is one that has not. -/
def Good (has : Nat → Bool) (fr to : Nat) (r : Nat × Nat) : Prop := fr ≤ r.1 ∧ 1 ≤ r.2 ∧ r.1 + r.2 ≤ to ∧ ∀ n, r.1 ≤ n → n < r.1 + r.2 → has n = true

def Apart : List (Nat × Nat) → Prop
  | [] => True
  | [_] => True
  | x :: y :: l => x.1 + x.2 < y.1 ∧ Apart (y :: l)

theorem good_G (has : Nat → Bool) (to : Nat) : ∀ (d first n fr : Nat), fr ≤ first → first ≤ n → n + d = to → (∀ k, first ≤ k → k < n → has k = true) → ∀ r ∈ G has to d first n, Good has fr to r := by
  intro d
  induction d with
  | zero =>
    intro first n fr h0 hf hd hall r hr
    simp only [G] at hr
    by_cases h : first < n
    · simp [h] at hr; subst hr; exact ⟨h0, by simp; omega, by simp; omega, fun k h1 h2 => hall k h1 (by simp at h2; omega)⟩
    · simp [h] at hr
  | succ d ih =>
    intro first n fr h0 hf hd hall r hr
    rw [G] at hr
    by_cases hh : has n = true
    · rw [if_pos hh] at hr
      exact ih first (n + 1) fr h0 (by omega) (by omega) (fun k h1 h2 => by
        by_cases hk : k = n
        · rw [hk]; exact hh
        · exact hall k h1 (by omega)) r hr
    · rw [if_neg hh] at hr
      rcases List.mem_append.1 hr with hr | hr
      · by_cases h : first < n
        · simp [h] at hr; subst hr; exact ⟨h0, by simp; omega, by simp; omega, fun k h1 h2 => hall k h1 (by simp at h2; omega)⟩
        · simp [h] at hr
      · exact ih (n + 1) (n + 1) fr (by omega) (Nat.le_refl _) (by omega) (fun k h1 h2 => by omega) r hr

theorem good_gaps (has : Nat → Bool) (fr to : Nat) (h : fr ≤ to) : ∀ r ∈ gaps has fr to, Good has fr to r :=
  good_G has to (to - fr) fr fr fr (Nat.le_refl _) (Nat.le_refl _) (by omega) (fun k h1 h2 => by omega)

theorem apart_cons (x : Nat × Nat) (l : List (Nat × Nat)) (hl : Apart l) (h : ∀ y ∈ l, x.1 + x.2 < y.1) : Apart (x :: l) := by
  cases l with
  | nil => trivial
  | cons y l => exact ⟨h y (by simp), hl⟩

theorem apart_G (has : Nat → Bool) (to : Nat) : ∀ (d first n : Nat), first ≤ n → n + d = to → Apart (G has to d first n) := by
  intro d
  induction d with
  | zero =>
    intro first n hf hd
    simp only [G]
    by_cases h : first < n <;> simp [h, Apart]
  | succ d ih =>
    intro first n hf hd
    rw [G]
    by_cases hh : has n = true
    · rw [if_pos hh]; exact ih first (n + 1) (by omega) (by omega)
    · rw [if_neg hh]
      have h1 := ih (n + 1) (n + 1) (Nat.le_refl _) (by omega)
      by_cases h : first < n
      · simp only [h, if_true, List.cons_append, List.nil_append]
        refine apart_cons _ _ h1 (fun y hy => ?_)
        have := (good_G has to d (n + 1) (n + 1) (n + 1) (Nat.le_refl _) (Nat.le_refl _) (by omega) (fun k a b => by omega) y hy).1
        simp; omega
      · simp only [h, if_false, List.nil_append]; exact h1

theorem apart_gaps (has : Nat → Bool) (fr to : Nat) (h : fr ≤ to) : Apart (gaps has fr to) := apart_G has to (to - fr) fr fr (Nat.le_refl _) (by omega)

theorem apart_at (l : List (Nat × Nat)) (h : Apart l) : ∀ i, (hi : i + 1 < l.length) → l[i].1 + l[i].2 < l[i + 1].1 := by
  induction l with
  | nil => intro i hi; simp at hi
  | cons x l ih =>
    intro i hi
    cases l with
    | nil => simp at hi
    | cons y l =>
      cases i with
      | zero => exact h.1
      | succ i => exact ih h.2 i (by simpa using hi)
end Go.Proofs.Ytoiafcelnohcfaa
