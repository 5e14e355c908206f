/- The plain law of ExtentBack and ExtentHalves: as 96 pointers and trimmed, extents are the pointers trimmed; a file's pointers are valid; where an extent begins. -/
import Derived.Test.YtbelfapnjjeclaaFromLaw
namespace Go.Proofs.Ytbelfapnjjeclaa

theorem trim_same {xs qs : List Nat} (h : ∀ i : Nat, xs[i]?.getD 0 = qs[i]?.getD 0) (hl : qs.length ≤ xs.length) : trim xs = trim qs := by
  have hk : (trim qs).length ≤ qs.length := by
    have := congrArg List.length (trim_take qs)
    rw [List.length_take] at this; omega
  have e : (trim xs).length = (trim qs).length := trim_len_unique (fun h0 => by rw [h]; exact trim_last qs h0) (fun i hi => by rw [h]; exact trim_rest qs i hi)
  rw [trim_take xs, trim_take qs, e]
  refine List.ext_getElem? fun i => ?_
  rw [List.getElem?_take, List.getElem?_take]
  by_cases hi : i < (trim qs).length
  · rw [if_pos hi, if_pos hi]
    have h1 := h i
    rw [List.getElem?_eq_getElem (by omega), List.getElem?_eq_getElem (by omega)] at h1 ⊢
    simpa using h1
  · rw [if_neg hi, if_neg hi]

theorem arr96_at (g : Nat → Nat) (i : Nat) (hi : i < 96) : (arr96 g)[i]? = some (g i) := by
  unfold arr96
  rw [List.getElem?_map, List.getElem?_range hi]; rfl

/-- Behind To the extents of pointers are the pointers, trimmed. -/
theorem trim_arr {qs : List Nat} (hv : Valid qs) : trim (arr96 ((E qs).foldl upd fun _ => 0)) = trim qs := by
  refine trim_same (fun i => ?_) (by rw [arr96_length]; exact hv.len)
  by_cases hi : i < 96
  · rw [arr96_at _ i hi]
    exact fold_E qs i
  · rw [List.getElem?_eq_none (by rw [arr96_length]; omega), List.getElem?_eq_none (by have := hv.len; omega)]

def toZ (qs : List Nat) : List Int := qs.map fun (q : Nat) => (q : Int)
theorem toZ_length (qs : List Nat) : (toZ qs).length = qs.length := by simp [toZ]
theorem toZ_at (qs : List Nat) (i : Nat) : (toZ qs).getD i 0 = ((qs[i]?.getD 0 : Nat) : Int) := by
  unfold toZ
  rw [List.getD_eq_getElem?_getD, List.getElem?_map]
  cases qs[i]? <;> rfl

theorem valid_of {qs : List Nat} (hv : Valid qs) : valid (toZ qs) qs.length = true := by
  unfold valid
  rw [Bool.and_eq_true]
  refine ⟨by simpa using hv.len, apart_all fun i hi => ?_⟩
  by_cases h0 : (toZ qs).getD i 0 = 0
  · exact bad_zero h0
  · have hg : qs[i]? = some (qs[i]'hi) := List.getElem?_eq_getElem hi
    have e : (toZ qs).getD i 0 = ((qs[i]'hi : Nat) : Int) := by rw [toZ_at, hg]; rfl
    have hd := hv.data i _ hg
    have hda : data ((toZ qs).getD i 0) = true := by
      unfold data; rw [e] at h0 ⊢
      simp only [Bool.and_eq_true, decide_eq_true_eq]; omega
    have htw : ((toZ qs).take i).contains ((toZ qs).getD i 0) = false := by
      rw [List.contains_eq_mem, decide_eq_false_iff_not]
      intro hm
      obtain ⟨j, hj, hje⟩ := List.mem_take_iff_getElem.1 hm
      have hjl : j < qs.length := by rw [toZ_length] at hj; omega
      have e2 : (toZ qs)[j]'(by rw [toZ_length]; omega) = ((qs[j]'hjl : Nat) : Int) := by unfold toZ; rw [List.getElem_map]
      rw [e2, e] at hje
      have := hv.once j i (qs[i]'hi) (by omega) (by rw [List.getElem?_eq_getElem hjl]; congr 1; omega) hg
      rw [e] at h0; omega
    have := bad_data h0 htw hda
    simpa using this

theorem brk_snoc (l : List Nat) (p : Nat) : ∀ last, brk (l ++ [p]) last = brk l last + if p ≠ 0 ∧ ((l.getLast?.getD last) = 0 ∨ p ≠ l.getLast?.getD last + 1) then 1 else 0 := by
  induction l with
  | nil =>
    intro last
    rw [List.nil_append, brk, brk, brk, List.getLast?_nil, Option.getD_none, Nat.add_zero, Nat.zero_add]
  | cons x l ih =>
    intro last
    rw [List.cons_append, brk, ih, brk]
    have e : (x :: l).getLast?.getD last = l.getLast?.getD x := by
      cases l with
      | nil => rfl
      | cons y l => simp [List.getLast?_cons]
    rw [e]; omega

theorem brk_first {qs : List Nat} {p : Nat} (h : qs[0]? = some p) : brk (qs.take 1) 0 = if p = 0 then 0 else 1 := by
  cases qs with
  | nil => simp at h
  | cons x l =>
    simp at h; subst h
    simp [brk]

theorem brk_next {qs : List Nat} {k p q : Nat} (hp : qs[k + 1]? = some p) (hq : qs[k]? = some q) : brk (qs.take (k + 2)) 0 = brk (qs.take (k + 1)) 0 + if p ≠ 0 ∧ (q = 0 ∨ p ≠ q + 1) then 1 else 0 := by
  obtain ⟨hk, he⟩ := List.getElem?_eq_some_iff.1 hp
  rw [List.take_succ_eq_append_getElem hk, he, brk_snoc]
  have e : (qs.take (k + 1)).getLast?.getD 0 = q := by
    rw [List.getLast?_eq_getElem?, List.length_take, List.getElem?_take]
    have e1 : min (k + 1) qs.length - 1 = k := by omega
    rw [e1, if_pos (by omega), hq]; rfl
  rw [e]
end Go.Proofs.Ytbelfapnjjeclaa
