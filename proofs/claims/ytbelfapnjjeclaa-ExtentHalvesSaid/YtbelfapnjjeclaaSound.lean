/- The plain law of sound extents: those of pointers that are a file's are sound, and so are the first so many blocks of them; lists and numbers alone, no Go. -/
import Derived.Test.YtbelfapnjjeclaaPlain
namespace Go.Proofs.Ytbelfapnjjeclaa

/-- Are extents sound, behind some that end there, on the disk there, with such runs? -/
def Sok : List Ext → Nat → Int → List (Nat × Nat) → Prop
  | [], _, _, _ => True
  | (a, f, n) :: r, e, nx, pr => (59 ≤ f ∧ 1 ≤ n ∧ f + n ≤ 480 ∧ e ≤ a ∧ ¬ (a = e ∧ (f : Int) = nx) ∧ a + n ≤ 96 ∧ ∀ y ∈ pr, f + n ≤ y.1 ∨ y.1 + y.2 ≤ f) ∧ Sok r (a + n) ((f + n : Nat) : Int) (pr ++ [(f, n)])

/-- May these be a file's pointers? -/
structure Valid (qs : List Nat) : Prop where
  len : qs.length ≤ 96
  data : ∀ (i p : Nat), qs[i]? = some p → p = 0 ∨ 59 ≤ p ∧ p < 480
  once : ∀ (i j p : Nat), i < j → qs[i]? = some p → qs[j]? = some p → p = 0

def Inv (qs l : List Nat) (k : Nat) (o : Option Ext) (e : Nat) (nx : Int) (pr : List (Nat × Nat)) : Prop :=
  l = qs.drop k ∧ k ≤ qs.length ∧ (∀ y ∈ pr, 1 ≤ y.2 ∧ ∀ j, j < y.2 → ∃ i, i < e ∧ qs[i]? = some (y.1 + j)) ∧
  match o with
  | none => e ≤ k ∧ (k = e → ∀ (p : Nat), l[0]? = some p → (p : Int) ≠ nx)
  | some (a, f, n) => e ≤ a ∧ ¬ (a = e ∧ (f : Int) = nx) ∧ ∀ j, j < n → qs[a + j]? = some (f + j)

theorem drop_cons {qs r : List Nat} {p k : Nat} (h : p :: r = qs.drop k) : qs[k]? = some p ∧ r = qs.drop (k + 1) ∧ k + 1 ≤ qs.length := by
  have hk : k < qs.length := by
    rcases Nat.lt_or_ge k qs.length with h1 | h1
    · exact h1
    · rw [List.drop_of_length_le h1] at h; cases h
  rw [List.drop_eq_getElem_cons hk] at h
  injection h with h1 h2
  exact ⟨by rw [List.getElem?_eq_getElem hk, h1], h2, hk⟩

/-- The open one, closed, is sound. -/
theorem closed_sound {qs : List Nat} (hv : Valid qs) {l : List Nat} {k a f n e : Nat} {nx : Int} {pr : List (Nat × Nat)} (hfit : Fit k (some (a, f, n))) (h : Inv qs l k (some (a, f, n)) e nx pr) :
    59 ≤ f ∧ 1 ≤ n ∧ f + n ≤ 480 ∧ e ≤ a ∧ ¬ (a = e ∧ (f : Int) = nx) ∧ a + n ≤ 96 ∧ ∀ y ∈ pr, f + n ≤ y.1 ∨ y.1 + y.2 ≤ f := by
  obtain ⟨hk, hn, hf⟩ := hfit
  obtain ⟨_, hlen, hpr, he, hne, hval⟩ := h
  have h0 := hv.data a f (by simpa using hval 0 (by omega))
  have h1 := hv.data (a + (n - 1)) (f + (n - 1)) (hval (n - 1) (by omega))
  have hl := hv.len
  refine ⟨by omega, hn, by omega, he, hne, by omega, fun y hy => ?_⟩
  by_cases hd : f + n ≤ y.1 ∨ y.1 + y.2 ≤ f
  · exact hd
  · exfalso
    have hy1 := (hpr y hy).1
    obtain ⟨i, hi, hq⟩ := (hpr y hy).2 (max f y.1 - y.1) (by omega)
    have hq2 := hval (max f y.1 - f) (by omega)
    have e1 : y.1 + (max f y.1 - y.1) = max f y.1 := by omega
    have e2 : f + (max f y.1 - f) = max f y.1 := by omega
    rw [e1] at hq
    rw [e2] at hq2
    have := hv.once i (a + (max f y.1 - f)) _ (by omega) hq hq2
    omega

theorem inv_closed {qs : List Nat} {l : List Nat} {k a f n e : Nat} {nx : Int} {pr : List (Nat × Nat)} (hfit : Fit k (some (a, f, n))) (h : Inv qs l k (some (a, f, n)) e nx pr) (hc : ∀ (p : Nat), l[0]? = some p → p ≠ f + n) :
    Inv qs l k none (a + n) ((f + n : Nat) : Int) (pr ++ [(f, n)]) := by
  obtain ⟨hk, hn, hf⟩ := hfit
  obtain ⟨hl, hlen, hpr, he, hne, hval⟩ := h
  refine ⟨hl, hlen, fun y hy => ?_, by omega, fun _ p hp => ?_⟩
  · rcases List.mem_append.1 hy with hy | hy
    · refine ⟨(hpr y hy).1, fun j hj => ?_⟩
      obtain ⟨i, hi, hq⟩ := (hpr y hy).2 j hj
      exact ⟨i, by omega, hq⟩
    · simp at hy; subst hy
      exact ⟨hn, fun j hj => ⟨a + j, by simp at hj; omega, hval j hj⟩⟩
  · have := hc p hp; omega

theorem sok_HO {qs : List Nat} (hv : Valid qs) : ∀ l k o, Fit k o → ∀ e nx pr, Inv qs l k o e nx pr → Sok (HO l k o) e nx pr := by
  refine HO_cases (P := fun l k o R => ∀ e nx pr, Inv qs l k o e nx pr → Sok R e nx pr) ?_ ?_ ?_ ?_ ?_
  · intro k o hfit e nx pr h
    match o, hfit with
    | none, _ => trivial
    | some (a, f, n), hfit => exact ⟨closed_sound hv hfit h, trivial⟩
  · intro r k ih e nx pr h
    obtain ⟨hl, hlen, hpr, he, hne⟩ := h
    obtain ⟨h1, h2, h3⟩ := drop_cons hl
    exact ih e nx pr ⟨h2, h3, hpr, by omega, fun h => by omega⟩
  · intro p r k hp ih e nx pr h
    obtain ⟨hl, hlen, hpr, he, hne⟩ := h
    obtain ⟨h1, h2, h3⟩ := drop_cons hl
    refine ih e nx pr ⟨h2, h3, hpr, he, fun h => hne h.1 p rfl h.2, fun j hj => ?_⟩
    obtain rfl : j = 0 := by omega
    simpa using h1
  · intro r k a f n hfit ih e nx pr h
    obtain ⟨hl, hlen, hpr, he, hne, hval⟩ := h
    obtain ⟨h1, h2, h3⟩ := drop_cons hl
    refine ih e nx pr ⟨h2, h3, hpr, he, hne, fun j hj => ?_⟩
    by_cases hjn : j < n
    · exact hval j hjn
    · obtain rfl : j = n := by omega
      have := hfit.1
      rw [this]; exact h1
  · intro p r k a f n hfit hp ih e nx pr h
    exact ⟨closed_sound hv hfit h, ih _ _ _ (inv_closed hfit h (fun q hq => by simp at hq; omega))⟩

/-- The extents of a file's pointers are sound. -/
theorem sok_E {qs : List Nat} (hv : Valid qs) : Sok (E qs) 0 (-1) [] :=
  sok_HO hv qs 0 none trivial 0 (-1) [] ⟨by simp, Nat.zero_le _, by simp, Nat.le_refl _, fun _ p _ => by omega⟩

theorem brk_le (l : List Nat) : ∀ last, brk l last ≤ l.length := by
  induction l with
  | nil => intro last; simp [brk]
  | cons p r ih => intro last; have := ih p; rw [brk, List.length_cons]; split <;> omega

theorem len_E (qs : List Nat) : (E qs).length = brk qs 0 := by
  rw [E, len_HO qs 0 none trivial]; simp [lastOf]

theorem len_E_le {qs : List Nat} (hv : Valid qs) : (E qs).length ≤ 96 := by
  rw [len_E]; exact Nat.le_trans (brk_le _ _) hv.len

theorem tot_E (qs : List Nat) : tot (E qs) = nz qs := by
  rw [E, tot_HO qs 0 none trivial]; simp [tot]

theorem valid_take {qs : List Nat} (hv : Valid qs) (c : Nat) : Valid (qs.take c) := by
  have h : ∀ (i p : Nat), (qs.take c)[i]? = some p → qs[i]? = some p := by
    intro i p hp
    rw [List.getElem?_take] at hp
    split at hp
    · exact hp
    · cases hp
  exact ⟨by rw [List.length_take]; have := hv.len; omega, fun i p hp => hv.data i p (h i p hp), fun i j p hij h1 h2 => hv.once i j p hij (h i p h1) (h j p h2)⟩

/-- Without zeros at the end. -/
def trim (qs : List Nat) : List Nat := (qs.reverse.dropWhile (· == 0)).reverse

theorem trim_zeros (qs : List Nat) : ∃ m, qs = trim qs ++ List.replicate m 0 := by
  have key : ∀ l : List Nat, ∃ m, l = List.replicate m 0 ++ l.dropWhile (· == 0) := by
    intro l
    induction l with
    | nil => exact ⟨0, rfl⟩
    | cons x l ih =>
      by_cases hx : x = 0
      · obtain ⟨m, hm⟩ := ih
        refine ⟨m + 1, ?_⟩
        subst hx
        rw [List.dropWhile_cons_of_pos (by rfl), List.replicate_succ, List.cons_append, ← hm]
      · exact ⟨0, by rw [List.dropWhile_cons_of_neg (by simpa using hx)]; rfl⟩
  obtain ⟨m, hm⟩ := key qs.reverse
  refine ⟨m, ?_⟩
  unfold trim
  have := congrArg List.reverse hm
  rw [List.reverse_reverse, List.reverse_append, List.reverse_replicate] at this
  exact this

theorem trim_take (qs : List Nat) : trim qs = qs.take (trim qs).length := by
  obtain ⟨m, hm⟩ := trim_zeros qs
  have h : ∀ t, qs = t ++ List.replicate m 0 → qs.take t.length = t := fun t ht => by
    rw [ht, List.take_append_of_le_length (Nat.le_refl _), List.take_length]
  exact (h _ hm).symm

theorem valid_trim {qs : List Nat} (hv : Valid qs) : Valid (trim qs) := by
  rw [trim_take]; exact valid_take hv _

theorem E_zeros (qs : List Nat) (m : Nat) : E (qs ++ List.replicate m 0) = E qs := HO_zeros m qs 0 none trivial

/-- The extents of what is left without zeros at the end are the same. -/
theorem E_trim (qs : List Nat) : E (trim qs) = E qs := by
  obtain ⟨m, hm⟩ := trim_zeros qs
  conv => rhs; rw [hm]
  rw [E_zeros]

/-- Where the zeros begin: the last one that is not 0 stands ahead of it. -/
theorem trim_last (qs : List Nat) (h : (trim qs).length ≠ 0) : qs[(trim qs).length - 1]?.getD 0 ≠ 0 := by
  have h1 : (qs.reverse.dropWhile (· == 0)) ≠ [] := by
    intro h2; apply h; unfold trim; rw [h2]; rfl
  have h2 : ((qs.reverse.dropWhile (· == 0)).head h1 == 0) = false := by
    have := List.head_dropWhile_not (· == 0) h1
    simpa using this
  have h3 : qs[(trim qs).length - 1]? = some ((qs.reverse.dropWhile (· == 0)).head h1) := by
    have e : (trim qs)[(trim qs).length - 1]? = some ((qs.reverse.dropWhile (· == 0)).head h1) := by
      unfold trim
      rw [← List.getLast?_eq_getElem?, List.getLast?_reverse, List.head?_eq_some_head h1]
    have e2 : (trim qs)[(trim qs).length - 1]? = qs[(trim qs).length - 1]? := by
      have e3 : (trim qs)[(trim qs).length - 1]? = (qs.take (trim qs).length)[(trim qs).length - 1]? := congrArg (fun l : List Nat => l[(trim qs).length - 1]?) (trim_take qs)
      rw [e3, List.getElem?_take, if_pos (by omega)]
    rw [← e2]; exact e
  rw [h3]
  simpa using h2

theorem trim_rest (qs : List Nat) (i : Nat) (h : (trim qs).length ≤ i) : qs[i]?.getD 0 = 0 := by
  obtain ⟨m, hm⟩ := trim_zeros qs
  rw [hm, List.getElem?_append_right h, List.getElem?_replicate]
  split <;> rfl

/-- The number of pointers up to the last that is not 0, by what is there. -/
theorem trim_len_unique {qs : List Nat} {n : Nat} (h1 : n ≠ 0 → qs[n - 1]?.getD 0 ≠ 0) (h2 : ∀ i, n ≤ i → qs[i]?.getD 0 = 0) : (trim qs).length = n := by
  rcases Nat.lt_trichotomy (trim qs).length n with h | h | h
  · exact absurd (trim_rest qs (n - 1) (by omega)) (h1 (by omega))
  · exact h
  · exact absurd (h2 ((trim qs).length - 1) (by omega)) (trim_last qs (by omega))
end Go.Proofs.Ytbelfapnjjeclaa
