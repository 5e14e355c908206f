/- The walk of extent.from: of a file's pointers that lie in memory, their extents, in a slice of the call's own. -/
import Derived.Test.YtbelfapnjjeclaaPoint
import Derived.Deep.AppendLies
namespace Go.Proofs.Ytbelfapnjjeclaa
open Go.RowKit Go.Maps

/-- The pointers of a valid slice, as whole numbers from 0 on. -/
theorem valid_nat {zs : List Int} {len : Nat} (hz : len ≤ zs.length) (h : valid zs len = true) :
    ∃ qs : List Nat, qs.length = len ∧ Valid qs ∧ ∀ j, j < len → zs.getD j 0 = ((qs[j]?.getD 0 : Nat) : Int) := by
  have hl : len ≤ 96 := by unfold valid at h; simp at h; exact h.1
  have hb : ∀ i, i < len → bad zs i = false := by
    intro i hi
    unfold valid apart at h
    simp only [Bool.and_eq_true, List.all_eq_true] at h
    have := h.2 i (List.mem_range.2 hi)
    simpa using this
  have hd : ∀ i, i < len → zs.getD i 0 = 0 ∨ (59 ≤ zs.getD i 0 ∧ zs.getD i 0 < 480 ∧ (zs.take i).contains (zs.getD i 0) = false) := by
    intro i hi
    by_cases h0 : zs.getD i 0 = 0
    · exact .inl h0
    · right
      have hbi := hb i hi
      cases htw : (zs.take i).contains (zs.getD i 0)
      · cases hda : data (zs.getD i 0)
        · have := bad_data h0 htw hda; rw [hbi] at this; cases this
        · unfold data at hda
          simp only [Bool.and_eq_true, decide_eq_true_eq] at hda
          exact ⟨hda.1, hda.2, rfl⟩
      · rw [bad_twice h0 htw] at hbi; cases hbi
  have hq : ∀ i p : Nat, ((zs.take len).map Int.toNat)[i]? = some p → i < len ∧ zs.getD i 0 = (p : Int) := by
    intro i p hp
    rw [List.getElem?_map, List.getElem?_take] at hp
    by_cases hi : i < len
    · rw [if_pos hi, List.getElem?_eq_getElem (by omega)] at hp
      simp at hp
      have e : zs.getD i 0 = zs[i]'(by omega) := by rw [List.getD_eq_getElem?_getD, List.getElem?_eq_getElem (by omega)]; rfl
      have := hd i hi
      rw [e] at this ⊢
      exact ⟨hi, by omega⟩
    · rw [if_neg hi] at hp; cases hp
  refine ⟨(zs.take len).map Int.toNat, by simp; omega, ⟨by simp; omega, fun i p hp => ?_, fun i j p hij h1 h2 => ?_⟩, fun j hj => ?_⟩
  · obtain ⟨hi, he⟩ := hq i p hp
    rcases hd i hi with h0 | ⟨h1, h2, _⟩
    · left; omega
    · right; omega
  · obtain ⟨hi, he⟩ := hq i p h1
    obtain ⟨hj, he2⟩ := hq j p h2
    rcases hd j hj with h0 | ⟨_, _, h3⟩
    · omega
    · exfalso
      rw [List.contains_eq_mem, decide_eq_false_iff_not] at h3
      apply h3
      rw [he2, ← he, List.getD_eq_getElem?_getD, List.getElem?_eq_getElem (by omega)]
      exact List.mem_take_iff_getElem.2 ⟨i, by omega, rfl⟩
  · have hjl : j < ((zs.take len).map Int.toNat).length := by simp; omega
    obtain ⟨_, h2⟩ := hq j _ (List.getElem?_eq_getElem hjl)
    rw [List.getElem?_eq_getElem hjl]
    exact h2

@[go_sem] theorem run_store_complex (P : Program) (w : World) (a : Addr) (m : Mode) (k : FloatKind) (x y : Nat) : (store a (.complex k x y) m).run P w = stored P w a (.complex k x y) m := run_store P w a _ m rfl

/-- Pointers lie at a place. -/
def Ptrs (w : World) (b off : Nat) (qs : List Nat) : Prop := ∀ j, j < qs.length → w.cell? ⟨b, off + j, none⟩ = some (.int .i64 ((qs[j]?.getD 0 : Nat) : Int))

/-- Extents as Go values: two cells each. -/
def extV (x : Ext) : List Value := [.int .i64 (x.1 : Int), .complex .f64 (F (x.2.1 : Int)) (F (x.2.2 : Int))]
def extsV (l : List Ext) : List Value := l.flatMap extV

theorem extsV_append (l m : List Ext) : extsV (l ++ m) = extsV l ++ extsV m := by simp [extsV]
theorem extsV_length (l : List Ext) : (extsV l).length = 2 * l.length := by
  induction l with
  | nil => rfl
  | cons x l ih => simp [extsV, extV] at ih ⊢; omega

theorem extsV_snoc (l : List Ext) (k p : Nat) : extsV l ++ [Value.int .i64 (k : Int), Value.complex .f64 (F (p : Int)) 4607182418800017408] = extsV (l ++ Option.toList (some (k, p, 1))) := by
  rw [extsV_append, ← F_1]; rfl

/-- The last one has one more block. -/
theorem extsV_more (l : List Ext) (a f n : Nat) : (extsV (l ++ [(a, f, n)])).set (l.length * 2 + 1) (.complex .f64 (F (f : Int)) (F ((n : Int) + 1))) = extsV (l ++ [(a, f, n + 1)]) := by
  rw [extsV_append, extsV_append]
  have e : l.length * 2 + 1 = (extsV l).length + 1 := by rw [extsV_length]; omega
  rw [e, List.set_append_right _ _ (by omega)]
  have e2 : (extsV l).length + 1 - (extsV l).length = 1 := by omega
  rw [e2]
  have e3 : ((n : Int) + 1) = ((n + 1 : Nat) : Int) := by omega
  rw [e3]; rfl

theorem Try.info45 : (Try.prog.info? 45).map (fun i => (i.zero, i.size, i.bytes)) = some (some (.agg #[.int .i64 0, .complex .f64 0 0]), 2, 24) := by kernel_rfl

theorem next_zero {qs : List Nat} {k : Nat} {o : Option Ext} {done : List Ext} (hk : qs[k]? = some 0) (hfit : Fit k o) (h : E qs = done ++ HO (qs.drop k) k o) : E qs = (done ++ o.toList) ++ HO (qs.drop (k + 1)) (k + 1) none := by
  have hd : qs.drop k = 0 :: qs.drop (k + 1) := by
    have hlt := (List.getElem?_eq_some_iff.1 hk)
    obtain ⟨hlt, he⟩ := hlt
    rw [List.drop_eq_getElem_cons hlt, he]
  rw [h, hd]
  match o, hfit with
  | none, _ => rw [HO_zero]; simp
  | some (a, f, n), hfit =>
    rw [HO_close _ _ (fun p hp => by simp at hp; have := hfit.2.2; omega), HO_zero]; simp

theorem next_more {qs : List Nat} {k a f n p : Nat} {done : List Ext} (hk : qs[k]? = some p) (hp : p = f + n) (h : E qs = done ++ HO (qs.drop k) k (some (a, f, n))) : E qs = done ++ HO (qs.drop (k + 1)) (k + 1) (some (a, f, n + 1)) := by
  obtain ⟨hlt, he⟩ := (List.getElem?_eq_some_iff.1 hk)
  rw [h, List.drop_eq_getElem_cons hlt, he, HO_more _ _ hp]

theorem next_new {qs : List Nat} {k p : Nat} {o : Option Ext} {done : List Ext} (hk : qs[k]? = some p) (hp : p ≠ 0) (hfit : Fit k o) (hl : lastOf o = 0 ∨ p ≠ lastOf o + 1) (h : E qs = done ++ HO (qs.drop k) k o) : E qs = (done ++ o.toList) ++ HO (qs.drop (k + 1)) (k + 1) (some (k, p, 1)) := by
  obtain ⟨hlt, he⟩ := (List.getElem?_eq_some_iff.1 hk)
  rw [h, List.drop_eq_getElem_cons hlt, he]
  match o, hfit with
  | none, _ => rw [HO_new _ _ hp]; simp
  | some (a, f, n), hfit =>
    have e2 : lastOf (some (a, f, n)) = f + n - 1 := rfl
    rw [e2] at hl
    have h1 := hfit.2.1
    have h2 := hfit.2.2
    rw [HO_close _ _ (fun q hq => by simp at hq; omega), HO_new _ _ hp]; simp

theorem more_step {qs : List Nat} {k a f n p B : Nat} {done : List Ext} {w : World} {v : Value} (hk : qs[k]? = some p) (hp : p = lastOf (some (a, f, n)) + 1) (hfit : Fit k (some (a, f, n)))
    (h : E qs = done ++ HO (qs.drop k) k (some (a, f, n))) (hown : w.ownsRow B 45 2 v (done ++ Option.toList (some (a, f, n))).length (extsV (done ++ Option.toList (some (a, f, n))))) :
    Hid (E qs = done ++ HO (qs.drop (k + 1)) (k + 1) (some (a, f, n + 1))) ∧ Hid (Fit (k + 1) (some (a, f, n + 1))) ∧
    ∃ g cp, v = .slice (some ⟨g, 0, none⟩) (done.length + 1) cp ∧ B ≤ g ∧ g < w.heap.size ∧ w.cell? ⟨g, done.length * 2 + 1, none⟩ = some (.complex .f64 (F (f : Int)) (F (n : Int))) ∧ w.frozen? ⟨g, done.length * 2 + 1, none⟩ = false ∧
      Hid ((w.setCell ⟨g, done.length * 2 + 1, none⟩ (.complex .f64 (F (f : Int)) (F ((n : Int) + 1)))).ownsRow B 45 2 (.slice (some ⟨g, 0, none⟩) (done.length + 1) cp) (done.length + 1) (extsV (done ++ [(a, f, n + 1)]))) := by
  obtain ⟨hf2, hf3, hf4⟩ := hfit
  have el : lastOf (some (a, f, n)) = f + n - 1 := rfl
  rw [el] at hp
  refine ⟨next_more hk (by omega) h, ⟨by omega, by omega, hf4⟩, ?_⟩
  have e1 : (Option.toList (some (a, f, n))) = [(a, f, n)] := rfl
  have hL : (done ++ [(a, f, n)]).length = done.length + 1 := by simp
  rw [e1, hL] at hown
  obtain ⟨g, cp, rfl, hg1, hg2⟩ := hown.form (by omega)
  have hcell := hown.cellAt (done.length * 2 + 1) (by omega)
  have hx : (extsV (done ++ [(a, f, n)]))[done.length * 2 + 1]? = some (.complex .f64 (F (f : Int)) (F (n : Int))) := by
    rw [extsV_append, List.getElem?_append_right (by rw [extsV_length]; omega), extsV_length]
    have : done.length * 2 + 1 - 2 * done.length = 1 := by omega
    rw [this]; rfl
  rw [hx] at hcell
  have hst := (hown.stored (done.length * 2 + 1) (.complex .f64 (F (f : Int)) (F ((n : Int) + 1)))).1
  rw [extsV_more] at hst
  exact ⟨g, cp, rfl, hg1, hg2, hcell, hown.frozenAt _, hst⟩

set_option maxHeartbeats 1600000 in
set_option maxRecDepth 100000 in
theorem from_any (b off cap : Nat) (qs : List Nat) (hv : Valid qs) (w : World) (hb : b < w.heap.size) (hc : Ptrs w b off qs) :
    Calls Try.prog 17 #[.slice (some ⟨b, off, none⟩) qs.length cap] w fun e w' => ∃ v, e = .returned v ∧ w'.ownsRow w.heap.size 45 2 v (E qs).length (extsV (E qs)) ∧ Below w.heap.size w w' := by
  obtain ⟨i0, hi, hz0, hz1, hz2⟩ := info_parts Try.info45
  have HC : Hid _ := hc
  have HV : Hid _ := hv
  have hl96 := hv.len
  obtain ⟨N, hN⟩ : ∃ N, N = qs.length := ⟨_, rfl⟩
  have HN : Hid (N = qs.length) := hN
  rw [← hN] at hl96 ⊢
  clear hc hv hN
  go_enter Try.func17, Try.ntmps17
  go_wp2
  go_loopw [3, 4, 9] (fun v la i wr => ∃ (k : Nat) (done : List Ext) (o : Option Ext), k ≤ N ∧ i = .int .i64 k ∧ la = .int .i64 (lastOf o) ∧ lastOf o < 480 ∧ (done ++ o.toList).length ≤ k ∧ Hid (Fit k o) ∧ Hid (E qs = done ++ HO (qs.drop k) k o) ∧ wr.ownsRow w.heap.size 45 2 v (done ++ o.toList).length (extsV (done ++ o.toList)) ∧ Below w.heap.size w wr) (fun _ _ i _ => N - (intOf i).toNat)
  case atStart => exact ⟨0, [], none, Nat.zero_le _, rfl, rfl, by decide, by simp, trivial, rfl, World.ownsRow_nil _ _ _ _, Below.refl _ _⟩
  case round =>
    obtain ⟨k, done, o, hk, rfl, rfl, hlast, hlen, HF, HE, hown, hbel⟩ := hrel
    have hsz := hbel.size
    by_cases hlt : k < N
    · have hkq : k < qs.length := by have := HN.out; omega
      obtain ⟨p, hp⟩ : ∃ p, p = qs[k]?.getD 0 := ⟨_, rfl⟩
      have hcx : wr.cell? ⟨b, off + k, none⟩ = some (.int .i64 (p : Int)) := by rw [hp]; exact (hbel.cell (by exact hb)).trans (HC.out k hkq)
      have hps : qs[k]? = some p := by rw [hp, List.getElem?_eq_getElem hkq]; rfl
      have hpd := HV.out.data k p hps
      by_cases hp0 : p = 0
      · have HE2 : Hid (E qs = (done ++ o.toList) ++ HO (qs.drop (k + 1)) (k + 1) none) := next_zero (by rw [hps, hp0]) HF.out HE.out
        have hc0 : wr.cell? ⟨b, off + k, none⟩ = some (.int .i64 0) := by rw [hcx, hp0]; rfl
        clear hp hps hpd hp0 hcx
        go_wp2
        go_roundw
        case rel => exact ⟨k + 1, done ++ o.toList, none, by omega, by go_num, rfl, by decide, by simpa using Nat.le_succ_of_le hlen, trivial, HE2, by simpa using hown, hbel⟩
        case measure => simp [intOf]; omega
      · have hne : ((p : Int) == 0) = false := by simpa using hp0
        by_cases hmore : lastOf o ≠ 0 ∧ p = lastOf o + 1
        · obtain ⟨hm1, hm2⟩ := hmore
          obtain ⟨a, f, n, rfl⟩ : ∃ a f n, o = some (a, f, n) := by
            rcases o with _ | ⟨a, f, n⟩
            · exact absurd rfl hm1
            · exact ⟨a, f, n, rfl⟩
          obtain ⟨R1, R2, g, cp, rfl, hg1, hg2, hcell, hfz, HST⟩ := more_step hps hm2 HF.out HE.out hown
          have t1 : ((lastOf (some (a, f, n)) : Nat) : Int) != 0 := by simpa using hm1
          have t2 : ((p : Int) == ((lastOf (some (a, f, n)) : Nat) : Int) + 1) = true := by simp; omega
          have hll : (done ++ Option.toList (some (a, f, n))).length = done.length + 1 := by simp [Option.toList]
          rw [hll] at hlen
          have HB : Hid _ := hbel
          have hadd := fun t w => run_complex_sum (P := Try.prog) w .add (Or.inl rfl) t .f64 (F (f : Int)) (F (n : Int)) 0 4607182418800017408 (F (f : Int)) (F ((n : Int) + 1)) (by
            have hb1 : f + n - 1 < 480 := hlast
            have hf4 := HF.out.2.2
            have hf3 := HF.out.2.1
            unfold cSumBits
            rw [← F_1, ← F_0, add_F (f : Int) 0 (by omega) (by decide) (by omega), add_F (n : Int) 1 (by omega) (by decide) (by omega)]
            simp)
          obtain ⟨q, hq⟩ : ∃ q, q = lastOf (some (a, f, n)) := ⟨_, rfl⟩
          obtain ⟨M, hM⟩ : ∃ M, M = done.length := ⟨_, rfl⟩
          rw [← hq] at t1 t2 hlast ⊢
          have hL2 : (done ++ Option.toList (some (a, f, n + 1))).length = M + 1 := by rw [hM]; simp [Option.toList]
          rw [← hM] at hcell hfz HST hlen ⊢
          have hpq : p = f + n := by have e := (show lastOf (some (a, f, n)) = f + n - 1 from rfl); rw [e] at hm2 hm1; omega
          have HLA : Hid (lastOf (some (a, f, n + 1)) = p) := by show f + (n + 1) - 1 = p; omega
          have hp480 : p < 480 := by omega
          clear hbel hown hp hps hpd hM hm1 hm2 hll hq hpq
          go_wp2
          go_roundw
          case rel => exact ⟨k + 1, done, some (a, f, n + 1), by omega, by go_num, by rw [HLA.out], by rw [HLA.out]; omega, by rw [hL2]; omega, R2, R1, by rw [hL2]; exact HST, HB.out.setCell (p := ⟨g, M * 2 + 1, none⟩) hg1 _⟩
          case measure => simp [intOf]; omega
        · obtain ⟨L, hL⟩ : ∃ L, L = done ++ o.toList := ⟨_, rfl⟩
          have HE2 : Hid (E qs = L ++ HO (qs.drop (k + 1)) (k + 1) (some (k, p, 1))) := by
            rw [hL]
            exact next_new hps hp0 HF.out (by by_cases h : lastOf o = 0; exact .inl h; exact .inr (fun h2 => hmore ⟨h, h2⟩)) HE.out
          have HF2 : Hid (Fit (k + 1) (some (k, p, 1))) := ⟨rfl, Nat.le_refl _, by omega⟩
          obtain ⟨q, hq⟩ : ∃ q, q = lastOf o := ⟨_, rfl⟩
          rw [← hL] at hown hlen
          rw [← hq] at hmore hlast ⊢
          have hpd2 : p < 480 := by omega
          clear HF HE hp hps hq hL hpd
          by_cases hq0 : q = 0
          · have t1 : ((q : Int) != 0) = false := by simpa using hq0
            clear hmore hq0
            go_wp2_with (refine wpList_append_lies _ rfl _ _ _ rfl w.heap.size 45 i0 _ 2 24 Try.underlying23 hi hz0 hz1 hz2 rfl (by omega) u3 L.length (extsV L) rfl (hown.alloc _) ⟨wr.heap.size, 0, none⟩ 1 1 [.int .i64 (k : Int), .complex .f64 (F (p : Int)) 4607182418800017408] rfl rfl (World.news_of_block (cs := #[.int .i64 (k : Int), .complex .f64 (F (p : Int)) 4607182418800017408]) (t := 45) (fr := (0, 0)) (heap_alloc_new wr _)) (by simp [Value.oneCell']) (by omega) (by unfold maxLen; omega) (by omega) (by simp; omega) (wr.heap.size + 1) (by simp) ?_; intro gg cp1 w1 hown1 hgrow hat1 hlt1)
            rw [extsV_snoc] at hown1
            have hb1 := ((hbel.alloc (by omega) _)).grown hgrow (by simp; omega) (fun k hk => (hown.lt k hk).1)
            have hL2 : (L ++ Option.toList (some (k, p, 1))).length = L.length + 1 := by simp [Option.toList]
            have HLA : Hid (lastOf (some (k, p, 1)) = p) := by show p + 1 - 1 = p; omega
            clear hgrow hown hbel hat1
            go_roundw
            case rel => exact ⟨k + 1, L, some (k, p, 1), by omega, by go_num, by rw [HLA.out], by rw [HLA.out]; omega, by rw [hL2]; omega, HF2, HE2, by rw [hL2]; exact hown1, hb1⟩
            case measure => simp [intOf]; omega
          · have t1 : ((q : Int) != 0) = true := by simpa using hq0
            have t2 : ((p : Int) == (q : Int) + 1) = false := by simp; omega
            clear hmore hq0
            go_wp2_with (refine wpList_append_lies _ rfl _ _ _ rfl w.heap.size 45 i0 _ 2 24 Try.underlying23 hi hz0 hz1 hz2 rfl (by omega) u3 L.length (extsV L) rfl (hown.alloc _) ⟨wr.heap.size, 0, none⟩ 1 1 [.int .i64 (k : Int), .complex .f64 (F (p : Int)) 4607182418800017408] rfl rfl (World.news_of_block (cs := #[.int .i64 (k : Int), .complex .f64 (F (p : Int)) 4607182418800017408]) (t := 45) (fr := (0, 0)) (heap_alloc_new wr _)) (by simp [Value.oneCell']) (by omega) (by unfold maxLen; omega) (by omega) (by simp; omega) (wr.heap.size + 1) (by simp) ?_; intro gg cp1 w1 hown1 hgrow hat1 hlt1)
            rw [extsV_snoc] at hown1
            have hb1 := ((hbel.alloc (by omega) _)).grown hgrow (by simp; omega) (fun k hk => (hown.lt k hk).1)
            have hL2 : (L ++ Option.toList (some (k, p, 1))).length = L.length + 1 := by simp [Option.toList]
            have HLA : Hid (lastOf (some (k, p, 1)) = p) := by show p + 1 - 1 = p; omega
            clear hgrow hown hbel hat1
            go_roundw
            case rel => exact ⟨k + 1, L, some (k, p, 1), by omega, by go_num, by rw [HLA.out], by rw [HLA.out]; omega, by rw [hL2]; omega, HF2, HE2, by rw [hL2]; exact hown1, hb1⟩
            case measure => simp [intOf]; omega
    · obtain rfl : k = N := by omega
      have hE : E qs = done ++ o.toList := by
        have := HE.out
        rw [List.drop_of_length_le (by have := HN.out; omega), HO_nil] at this
        exact this
      rw [← hE] at hown
      clear HE hE
      go_wp2
      go_ret
      exact ⟨_, rfl, hown, hbel⟩
end Go.Proofs.Ytbelfapnjjeclaa
