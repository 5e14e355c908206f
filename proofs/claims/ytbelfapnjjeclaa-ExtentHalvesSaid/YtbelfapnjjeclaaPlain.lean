/- The plain law of extents: the runs that pointers lie in, what they are as pointers again, how they are cut, and that they are sound; lists and numbers alone, no Go. -/
import Derived.Laws.FloatArith
namespace Go.Proofs.Ytbelfapnjjeclaa

/-- An extent: where it begins in the file, its first block, how many. -/
abbrev Ext := Nat × Nat × Nat

/-- The extents of pointers that lie from 'at' on, behind one that is open. -/
def HO : List Nat → Nat → Option Ext → List Ext
  | [], _, o => o.toList
  | p :: r, k, none => if p = 0 then HO r (k + 1) none else HO r (k + 1) (some (k, p, 1))
  | p :: r, k, some (a, f, n) => if p = f + n then HO r (k + 1) (some (a, f, n + 1)) else (a, f, n) :: (if p = 0 then HO r (k + 1) none else HO r (k + 1) (some (k, p, 1)))

/-- The extents of pointers. -/
def E (qs : List Nat) : List Ext := HO qs 0 none

theorem HO_nil (k : Nat) (o : Option Ext) : HO [] k o = o.toList := by cases o <;> rfl
theorem HO_zero (r : List Nat) (k : Nat) : HO (0 :: r) k none = HO r (k + 1) none := by simp [HO]
theorem HO_new {p : Nat} (r : List Nat) (k : Nat) (h : p ≠ 0) : HO (p :: r) k none = HO r (k + 1) (some (k, p, 1)) := by simp [HO, h]
theorem HO_more {p : Nat} (r : List Nat) (k : Nat) {a f n : Nat} (h : p = f + n) : HO (p :: r) k (some (a, f, n)) = HO r (k + 1) (some (a, f, n + 1)) := by simp [HO, h]
/-- An open extent closes: nothing more comes, or it does not go on. -/
theorem HO_close (l : List Nat) (k : Nat) {a f n : Nat} (h : ∀ p, l[0]? = some p → p ≠ f + n) : HO l k (some (a, f, n)) = (a, f, n) :: HO l k none := by
  cases l with
  | nil => rfl
  | cons p r => have hp := h p rfl; simp [HO, hp]

/-- The open one ends where the rest begins. -/
def Fit (k : Nat) : Option Ext → Prop
  | none => True
  | some (a, f, n) => a + n = k ∧ 1 ≤ n ∧ 1 ≤ f

/-- A step: by cases on what the head is. -/
theorem HO_cases {P : List Nat → Nat → Option Ext → List Ext → Prop}
    (hnil : ∀ k o, Fit k o → P [] k o o.toList)
    (hzero : ∀ r k, P r (k + 1) none (HO r (k + 1) none) → P (0 :: r) k none (HO r (k + 1) none))
    (hnew : ∀ p r k, p ≠ 0 → P r (k + 1) (some (k, p, 1)) (HO r (k + 1) (some (k, p, 1))) → P (p :: r) k none (HO r (k + 1) (some (k, p, 1))))
    (hmore : ∀ r k a f n, Fit k (some (a, f, n)) → P r (k + 1) (some (a, f, n + 1)) (HO r (k + 1) (some (a, f, n + 1))) → P ((f + n) :: r) k (some (a, f, n)) (HO r (k + 1) (some (a, f, n + 1))))
    (hclose : ∀ p r k a f n, Fit k (some (a, f, n)) → p ≠ f + n → P (p :: r) k none (HO (p :: r) k none) → P (p :: r) k (some (a, f, n)) ((a, f, n) :: HO (p :: r) k none)) :
    ∀ l k o, Fit k o → P l k o (HO l k o) := by
  intro l
  induction l with
  | nil => intro k o h; rw [HO_nil]; exact hnil k o h
  | cons p r ih =>
    have none' : ∀ k, P (p :: r) k none (HO (p :: r) k none) := by
      intro k
      by_cases hp : p = 0
      · subst hp; rw [HO_zero]; exact hzero r k (ih _ _ trivial)
      · rw [HO_new r k hp]; exact hnew p r k hp (ih _ _ ⟨rfl, Nat.le_refl _, by omega⟩)
    intro k o h
    match o, h with
    | none, _ => exact none' k
    | some (a, f, n), h =>
      by_cases hp : p = f + n
      · subst hp; rw [HO_more r k rfl]; exact hmore r k a f n h (ih _ _ ⟨by have := h.1; omega, by omega, h.2.2⟩)
      · rw [HO_close _ _ (fun q hq => by simp at hq; omega)]; exact hclose p r k a f n h hp (none' k)

/-- The blocks of an open one and those of the rest. -/
def cov (l : List Nat) (k : Nat) (o : Option Ext) (g : Nat → Nat) (i : Nat) : Nat :=
  if k ≤ i ∧ i < k + l.length ∧ l[i - k]?.getD 0 ≠ 0 then l[i - k]?.getD 0
  else match o with
    | none => g i
    | some (a, f, n) => if a ≤ i ∧ i < a + n then f + (i - a) else g i

/-- Pointers with an extent put over them. -/
def upd (g : Nat → Nat) (x : Ext) : Nat → Nat := fun i => if x.1 ≤ i ∧ i < x.1 + x.2.2 then x.2.1 + (i - x.1) else g i

theorem fold_HO : ∀ l k o, Fit k o → ∀ g i, (HO l k o).foldl upd g i = cov l k o g i := by
  refine HO_cases (P := fun l k o R => ∀ g i, R.foldl upd g i = cov l k o g i) ?_ ?_ ?_ ?_ ?_
  · intro k o _ g i
    match o with
    | none => simp [cov]
    | some (a, f, n) => simp [cov, upd]
  · intro r k ih g i
    rw [ih]
    unfold cov
    by_cases h : i = k
    · subst h; rw [if_neg (by omega), if_neg (by simp)]
    · by_cases h1 : k ≤ i
      · obtain ⟨j, rfl⟩ : ∃ j, i = k + 1 + j := ⟨i - k - 1, by omega⟩
        have e1 : k + 1 + j - (k + 1) = j := by omega
        have e2 : k + 1 + j - k = j + 1 := by omega
        simp only [e1, e2, List.getElem?_cons_succ, List.length_cons]
        by_cases h2 : j < r.length ∧ r[j]?.getD 0 ≠ 0
        · rw [if_pos ⟨by omega, by omega, h2.2⟩, if_pos ⟨by omega, by omega, h2.2⟩]
        · rw [if_neg (fun h => h2 ⟨by omega, h.2.2⟩), if_neg (fun h => h2 ⟨by omega, h.2.2⟩)]
      · rw [if_neg (by omega), if_neg (by omega)]
  · intro p r k hp ih g i
    rw [ih]
    unfold cov
    by_cases h : i = k
    · subst h
      rw [if_neg (by omega), if_pos ⟨by omega, by simp, by simpa using hp⟩]
      simp
    · by_cases h1 : k ≤ i
      · obtain ⟨j, rfl⟩ : ∃ j, i = k + 1 + j := ⟨i - k - 1, by omega⟩
        have e1 : k + 1 + j - (k + 1) = j := by omega
        have e2 : k + 1 + j - k = j + 1 := by omega
        simp only [e1, e2, List.getElem?_cons_succ, List.length_cons]
        by_cases h2 : j < r.length ∧ r[j]?.getD 0 ≠ 0
        · rw [if_pos ⟨by omega, by omega, h2.2⟩, if_pos ⟨by omega, by omega, h2.2⟩]
        · rw [if_neg (fun h => h2 ⟨by omega, h.2.2⟩), if_neg (by omega), if_neg (fun h => h2 ⟨by omega, h.2.2⟩)]
      · rw [if_neg (by omega), if_neg (by omega)]
        simp only
        rw [if_neg (by omega)]
  · intro r k a f n hfit ih g i
    obtain ⟨hk, hn, hf⟩ := hfit
    rw [ih]
    unfold cov
    by_cases h : i = k
    · subst h
      rw [if_neg (by omega), if_pos ⟨by omega, by simp, by simp; omega⟩]
      simp only
      rw [if_pos ⟨by omega, by omega⟩]
      simp; omega
    · by_cases h1 : k ≤ i
      · obtain ⟨j, rfl⟩ : ∃ j, i = k + 1 + j := ⟨i - k - 1, by omega⟩
        have e1 : k + 1 + j - (k + 1) = j := by omega
        have e2 : k + 1 + j - k = j + 1 := by omega
        simp only [e1, e2, List.getElem?_cons_succ, List.length_cons]
        by_cases h2 : j < r.length ∧ r[j]?.getD 0 ≠ 0
        · rw [if_pos ⟨by omega, by omega, h2.2⟩, if_pos ⟨by omega, by omega, h2.2⟩]
        · rw [if_neg (fun h => h2 ⟨by omega, h.2.2⟩), if_neg (by omega), if_neg (fun h => h2 ⟨by omega, h.2.2⟩), if_neg (by omega)]
      · rw [if_neg (by omega), if_neg (by omega)]
        simp only
        by_cases h3 : a ≤ i
        · rw [if_pos ⟨h3, by omega⟩, if_pos ⟨h3, by omega⟩]
        · rw [if_neg (by omega), if_neg (by omega)]
  · intro p r k a f n hfit hp ih g i
    rw [List.foldl_cons, ih]
    unfold cov upd
    rfl

/-- As pointers the extents of pointers are the pointers again. -/
theorem fold_E (qs : List Nat) (i : Nat) : (E qs).foldl upd (fun _ => 0) i = qs[i]?.getD 0 := by
  rw [E, fold_HO qs 0 none trivial]
  unfold cov
  simp only [Nat.zero_add, Nat.sub_zero, Nat.zero_le, true_and]
  by_cases h : i < qs.length ∧ qs[i]?.getD 0 ≠ 0
  · rw [if_pos h]
  · rw [if_neg h]
    by_cases h1 : i < qs.length
    · have : qs[i]?.getD 0 = 0 := by
        by_cases h2 : qs[i]?.getD 0 = 0
        · exact h2
        · exact absurd ⟨h1, h2⟩ h
      rw [this]
    · rw [List.getElem?_eq_none (by omega)]; rfl

/-- Zeros behind the pointers add no extents. -/
theorem HO_zeros (m : Nat) : ∀ l k o, Fit k o → HO (l ++ List.replicate m 0) k o = HO l k o := by
  have hz : ∀ m k, HO (List.replicate m 0) k none = [] := by
    intro m
    induction m with
    | zero => intro k; rfl
    | succ m ih => intro k; rw [List.replicate_succ, HO_zero]; exact ih _
  refine HO_cases (P := fun l k o R => HO (l ++ List.replicate m 0) k o = R) ?_ ?_ ?_ ?_ ?_
  · intro k o hfit
    match o, hfit with
    | none, _ => exact hz m k
    | some (a, f, n), hfit =>
      rw [List.nil_append, HO_close _ _ (fun p hp => ?_), hz]
      · rfl
      · rw [List.getElem?_replicate] at hp
        split at hp
        · simp at hp; have := hfit.2.2; omega
        · cases hp
  · intro r k ih; rw [List.cons_append, HO_zero]; exact ih
  · intro p r k hp ih; rw [List.cons_append, HO_new _ _ hp]; exact ih
  · intro r k a f n _ ih; rw [List.cons_append, HO_more _ _ rfl]; exact ih
  · intro p r k a f n _ hp ih
    rw [List.cons_append, HO_close _ _ (fun q hq => by simp at hq; omega)]
    rw [List.cons_append] at ih
    rw [ih]

/-- How many extents: as many as there are breaks. -/
def brk : List Nat → Nat → Nat
  | [], _ => 0
  | p :: r, last => (if p ≠ 0 ∧ (last = 0 ∨ p ≠ last + 1) then 1 else 0) + brk r p

def lastOf : Option Ext → Nat
  | none => 0
  | some (_, f, n) => f + n - 1

theorem len_HO : ∀ l k o, Fit k o → (HO l k o).length = o.toList.length + brk l (lastOf o) := by
  refine HO_cases (P := fun l k o R => R.length = o.toList.length + brk l (lastOf o)) ?_ ?_ ?_ ?_ ?_
  · intro k o _; simp [brk]
  · intro r k ih; rw [ih]; simp [brk, lastOf]
  · intro p r k hp ih; rw [ih]; simp [brk, lastOf, hp]
  · intro r k a f n hfit ih
    obtain ⟨_, hn, hf⟩ := hfit
    rw [ih]
    have e : lastOf (some (a, f, n + 1)) = f + n := by simp only [lastOf]; omega
    have e2 : lastOf (some (a, f, n)) = f + n - 1 := rfl
    rw [e, e2, brk, if_neg (by intro h; rcases h.2 with h | h <;> omega)]
    simp
  · intro p r k a f n hfit hp ih
    obtain ⟨_, hn, hf⟩ := hfit
    rw [List.length_cons, ih]
    have e2 : lastOf (some (a, f, n)) = f + n - 1 := rfl
    have e1 : lastOf (none : Option Ext) = 0 := rfl
    rw [e2, e1, brk, brk]
    by_cases h0 : p = 0
    · rw [if_neg (by intro h; exact h.1 h0), if_neg (by intro h; exact h.1 h0)]; simp; omega
    · rw [if_pos ⟨h0, Or.inl rfl⟩, if_pos ⟨h0, Or.inr (by omega)⟩]; simp; omega

/-- How many blocks. -/
def nz : List Nat → Nat
  | [] => 0
  | p :: r => (if p ≠ 0 then 1 else 0) + nz r

def tot (l : List Ext) : Nat := (l.map (·.2.2)).sum

theorem tot_HO : ∀ l k o, Fit k o → tot (HO l k o) = tot o.toList + nz l := by
  refine HO_cases (P := fun l k o R => tot R = tot o.toList + nz l) ?_ ?_ ?_ ?_ ?_
  · intro k o _; simp [nz]
  · intro r k ih; rw [ih]; simp [nz]
  · intro p r k hp ih; rw [ih]; simp [nz, hp, tot]
  · intro r k a f n hfit ih
    rw [ih]
    have := hfit.2.2
    simp [nz, tot]
    rw [if_pos (by omega)]; omega
  · intro p r k a f n hfit hp ih
    have e : tot ((a, f, n) :: HO (p :: r) k none) = n + tot (HO (p :: r) k none) := by simp [tot]
    rw [e, ih]; simp [tot]

/-- The extents of the first so many blocks. -/
def cutE (c : Nat) (l : List Ext) : List Ext := l.filterMap fun x => if x.1 < c then some (x.1, x.2.1, min (c - x.1) x.2.2) else none

theorem cutE_cons (c : Nat) (x : Ext) (l : List Ext) : cutE c (x :: l) = (if x.1 < c then [(x.1, x.2.1, min (c - x.1) x.2.2)] else []) ++ cutE c l := by
  unfold cutE
  rw [List.filterMap_cons]
  split
  · rename_i h; split at h
    · cases h
    · rename_i h2; rw [if_neg h2]; rfl
  · rename_i b h; split at h
    · rename_i h2; cases h; rw [if_pos h2]; rfl
    · cases h

theorem cutE_far (c : Nat) : ∀ l k o, Fit k o → c ≤ k → (∀ x, o = some x → c ≤ x.1) → cutE c (HO l k o) = [] := by
  refine HO_cases (P := fun l k o R => c ≤ k → (∀ x, o = some x → c ≤ x.1) → cutE c R = []) ?_ ?_ ?_ ?_ ?_
  · intro k o _ _ h
    match o, h with
    | none, _ => rfl
    | some x, h => rw [Option.toList, cutE_cons, if_neg (by have := h x rfl; omega)]; rfl
  · intro r k ih h1 _; exact ih (by omega) (by simp)
  · intro p r k hp ih h1 _; exact ih (by omega) (fun x hx => by cases hx; exact h1)
  · intro r k a f n _ ih h1 h2; exact ih (by omega) (fun x hx => by cases hx; exact h2 (a, f, n) rfl)
  · intro p r k a f n _ hp ih h1 h2
    rw [cutE_cons, if_neg (by have := h2 (a, f, n) rfl; simp at this ⊢; omega), ih h1 (by simp)]; rfl

theorem cutE_open (c : Nat) : ∀ l k o, Fit k o → c ≤ k → ∀ a f n, o = some (a, f, n) → a < c → cutE c (HO l k o) = [(a, f, c - a)] := by
  refine HO_cases (P := fun l k o R => c ≤ k → ∀ a f n, o = some (a, f, n) → a < c → cutE c R = [(a, f, c - a)]) ?_ ?_ ?_ ?_ ?_
  · intro k o hfit hc a f n ho ha
    subst ho
    have := hfit.1
    rw [Option.toList, cutE_cons, if_pos ha]
    have e : min (c - a) n = c - a := by omega
    simp only [e]; rfl
  · intro r k ih hc a f n ho; cases ho
  · intro p r k hp ih hc a f n ho; cases ho
  · intro r k a f n hfit ih hc a' f' n' ho ha
    cases ho
    exact ih (by omega) a f (n + 1) rfl ha
  · intro p r k a f n hfit hp ih hc a' f' n' ho ha
    cases ho
    have := hfit.1
    have hf := cutE_far c (p :: r) k none trivial hc (by simp)
    have e : min (c - a) n = c - a := by omega
    rw [cutE_cons, if_pos ha, hf]
    simp only [e]; rfl

theorem cutE_HO (c : Nat) : ∀ l k o, Fit k o → k ≤ c → cutE c (HO l k o) = HO (l.take (c - k)) k o := by
  have whole : ∀ k o, Fit k o → k ≤ c → cutE c o.toList = o.toList := by
    intro k o hfit hk
    match o, hfit with
    | none, _ => rfl
    | some (a, f, n), hfit =>
      have h1 := hfit.1
      have h2 := hfit.2.1
      rw [Option.toList, cutE_cons, if_pos (by simp; omega)]
      have e : min (c - a) n = n := by omega
      simp only [e]; rfl
  have here : ∀ l o, Fit c o → cutE c (HO l c o) = o.toList := by
    intro l o hfit
    match o, hfit with
    | none, _ => rw [cutE_far c l c none trivial (Nat.le_refl _) (by simp)]; rfl
    | some (a, f, n), hfit =>
      have h1 := hfit.1
      have h2 := hfit.2.1
      rw [cutE_open c l c _ hfit (Nat.le_refl _) a f n rfl (by omega)]
      have e : c - a = n := by omega
      rw [e]; rfl
  have step : ∀ (p : Nat) (r : List Nat) (k : Nat), k ≤ c → k ≠ c → (p :: r).take (c - k) = p :: r.take (c - (k + 1)) := by
    intro p r k h1 h2
    obtain ⟨d, hd⟩ : ∃ d, c - k = d + 1 := ⟨c - k - 1, by omega⟩
    have : c - (k + 1) = d := by omega
    rw [hd, this]; rfl
  intro l
  induction l with
  | nil => intro k o hfit hk; rw [List.take_nil, HO_nil]; exact whole k o hfit hk
  | cons p r ih =>
    have none' : ∀ k, k ≤ c → k ≠ c → cutE c (HO (p :: r) k none) = HO (p :: r.take (c - (k + 1))) k none := by
      intro k h1 h2
      by_cases hp : p = 0
      · subst hp; rw [HO_zero, HO_zero]; exact ih _ _ trivial (by omega)
      · rw [HO_new r k hp, HO_new _ k hp]; exact ih _ _ ⟨rfl, Nat.le_refl _, by omega⟩ (by omega)
    intro k o hfit hk
    by_cases hkc : k = c
    · subst hkc
      rw [here _ _ hfit, Nat.sub_self, List.take_zero, HO_nil]
    · rw [step p r k hk hkc]
      match o, hfit with
      | none, _ => exact none' k hk hkc
      | some (a, f, n), hfit =>
        by_cases hp : p = f + n
        · subst hp; rw [HO_more r k rfl, HO_more _ k rfl]; exact ih _ _ ⟨by have := hfit.1; omega, by omega, hfit.2.2⟩ (by omega)
        · have h1 := hfit.1
          have h2 := hfit.2.1
          rw [HO_close _ _ (fun q hq => by simp at hq; omega), HO_close _ _ (fun q hq => by simp at hq; omega), cutE_cons, if_pos (by simp; omega), none' k hk hkc]
          have e : min (c - a) n = n := by omega
          simp only [e]; rfl

/-- The extents of the first c pointers are the extents, cut at c. -/
theorem cutE_E (c : Nat) (qs : List Nat) : cutE c (E qs) = E (qs.take c) := by
  rw [E, cutE_HO c qs 0 none trivial (Nat.zero_le _)]; rfl
end Go.Proofs.Ytbelfapnjjeclaa
