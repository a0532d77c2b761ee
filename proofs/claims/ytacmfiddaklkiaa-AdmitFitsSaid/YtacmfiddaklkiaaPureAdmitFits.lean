/- The law AdmitFits, in plain Lean: at every input its function is true. No condition but the arguments' ranges. -/
import Derived.Test.YtacmfiddaklkiaaPureCh39
set_option linter.unusedVariables false
set_option linter.unusedSimpArgs false
namespace Go.Proofs.Ytacmfiddaklkiaa.Fn
open Go Lift

def Apart (a b : Dem) : Prop := b.2.2.2 = 0 ∨ a.2.2.2 ≠ b.2.2.2
def Small (d : Dem) : Prop := 0 ≤ d.1 ∧ d.1 ≤ 7 ∧ d.1 ≤ d.2.1 ∧ d.2.1 ≤ 14 ∧ 0 ≤ d.2.2.1 ∧ d.2.2.1 ≤ 7 ∧ 0 ≤ d.2.2.2
def sR (l : List Dem) : Int := (l.map (·.1)).sum
def sC (l : List Dem) : Int := (l.map (·.2.2.1)).sum

theorem sR_snoc (l : List Dem) (d : Dem) : sR (l ++ [d]) = sR l + d.1 := by simp [sR]
theorem sC_snoc (l : List Dem) (d : Dem) : sC (l ++ [d]) = sC l + d.2.2.1 := by simp [sC]

theorem demand_small {n : Int} {d : Dem} (h : vmfleetlaw39_demand.f n = some d) : Small d := by
  unfold vmfleetlaw39_demand.f at h
  obtain ⟨r, hr, h⟩ := Option.bind_eq_some_iff.1 h
  cases h
  have a1 := and_range (x := r) (m := 7) (by decide) (by decide)
  have a2 := and_range (x := shrI .i64 r 8) (m := 7) (by decide) (by decide)
  have a3 := and_range (x := shrI .i64 r 3) (m := 7) (by decide) (by decide)
  have a4 := and_range (x := shrI .i64 r 6) (m := 3) (by decide) (by decide)
  have a5 : IntKind.wrap .i64 ((andI .i64 r 7) + (andI .i64 (shrI .i64 r 8) 7)) = (andI .i64 r 7) + (andI .i64 (shrI .i64 r 8) 7) := wrap_i64 (by omega) (by omega)
  unfold Small
  simp only [a5]
  omega

theorem small_demB {d : Dem} (h : Small d) : demB d = true := by
  obtain ⟨h1, h2, h3, h4, h5, h6, h7⟩ := h
  simp only [demB, unitB, Bool.and_eq_true, decide_eq_true_eq]
  omega

theorem sums_small {l : List Dem} (h : ∀ d ∈ l, Small d) : 0 ≤ sR l ∧ sR l ≤ 7 * l.length ∧ 0 ≤ sC l ∧ sC l ≤ 7 * l.length := by
  induction l with
  | nil => simp [sR, sC]
  | cons d l ih =>
    obtain ⟨h1, h2, h3, h4, h5, h6, h7⟩ := h d (by simp)
    have := ih fun e he => h e (by simp [he])
    simp only [sR, sC, List.map_cons, List.sum_cons, List.length_cons] at this ⊢
    omega

theorem freeOf_small {c : Int × Int × Bool} (hc : 0 ≤ c.1 ∧ c.1 < 80 ∧ 0 ≤ c.2.1 ∧ c.2.1 < 80) : ∀ l : List Dem, (∀ d ∈ l, Small d) → l.length ≤ 16 → freeOf c l = (c.1 - sR l, c.2.1 - sC l) := by
  refine snoc_ind ?_ ?_
  · intro _ _; simp [freeOf, sR, sC]
  · intro l d ih hs hl
    have hl' : l.length + 1 ≤ 16 := by simpa using hl
    have hs' : ∀ e ∈ l, Small e := fun e he => hs e (by simp [he])
    have := ih hs' (by omega)
    have hb := sums_small hs'
    obtain ⟨h1, h2, h3, h4, h5, h6, h7⟩ := hs d (by simp)
    have e : freeOf c (l ++ [d]) = (IntKind.wrap .i64 ((freeOf c l).1 - d.1), IntKind.wrap .i64 ((freeOf c l).2 - d.2.2.1)) := by simp [freeOf, List.foldl_append]
    rw [e, this, sR_snoc, sC_snoc]
    simp only
    rw [wrap_i64 (by omega) (by omega), wrap_i64 (by omega) (by omega)]
    congr 1 <;> omega

theorem fits_spec {c : Int × Int × Bool} (hc : 0 ≤ c.1 ∧ c.1 < 80 ∧ 0 ≤ c.2.1 ∧ c.2.1 < 80) : ∀ l : List Dem, (∀ d ∈ l, Small d) → l.length ≤ 16 →
    (fitsOf c l = true ↔ (l = [] ∨ c.2.2 = true) ∧ sR l ≤ c.1 ∧ sC l ≤ c.2.1 ∧ l.Pairwise Apart) := by
  refine snoc_ind ?_ ?_
  · intro _ _; simp [fitsOf, sR, sC]; omega
  · intro l d ih hs hl
    have hl' : l.length + 1 ≤ 16 := by simpa using hl
    have hs' : ∀ e ∈ l, Small e := fun e he => hs e (by simp [he])
    have hd := hs d (by simp)
    have hb := sums_small hs'
    have hval : validB c l = true := by
      simp only [validB, hostB, unitB, Bool.and_eq_true, decide_eq_true_eq, List.all_eq_true]
      exact ⟨by omega, by omega, fun e he => small_demB (hs' e he)⟩
    rw [fitsOf_snoc, Bool.and_eq_true, ih hs' (by omega), decide_eq_true_eq, sR_snoc, sC_snoc, List.pairwise_append]
    have hadm : admitOf c l d = 0 ↔ c.2.2 = true ∧ sR l + d.1 ≤ c.1 ∧ sC l + d.2.2.1 ≤ c.2.1 ∧ ∀ a ∈ l, Apart a d := by
      unfold admitOf
      rw [hval, small_demB hd, freeOf_small hc l hs' (by omega)]
      simp only [Bool.not_true, Bool.false_eq_true, if_false]
      cases hu : c.2.2 with
      | false => simp
      | true =>
        simp only [Bool.not_true, Bool.false_eq_true, if_false, true_and]
        by_cases h1 : c.1 - sR l < d.1
        · rw [if_pos h1]
          constructor
          · intro h; cases h
          · rintro ⟨h, _⟩; omega
        · rw [if_neg h1]
          by_cases h2 : c.2.1 - sC l < d.2.2.1
          · rw [if_pos h2]
            constructor
            · intro h; cases h
            · rintro ⟨_, h, _⟩; omega
          · rw [if_neg h2]
            split
            · rename_i h3
              obtain ⟨h3, h4⟩ := h3
              obtain ⟨a, ha, h5⟩ := List.any_eq_true.1 h4
              constructor
              · intro h; cases h
              · rintro ⟨_, _, h⟩
                rcases h a ha with h | h
                · exact absurd h h3
                · exact absurd (of_decide_eq_true h5) h
            · rename_i h3
              refine ⟨fun _ => ⟨by omega, by omega, fun a ha => ?_⟩, fun _ => rfl⟩
              by_cases h0 : d.2.2.2 = 0
              · exact .inl h0
              · right
                intro h
                exact h3 ⟨h0, List.any_eq_true.2 ⟨a, ha, decide_eq_true h⟩⟩
    rw [hadm]
    obtain ⟨k1, k2, k3, k4, k5, k6, k7⟩ := hd
    constructor
    · rintro ⟨⟨_, _, _, hp⟩, h1, h2, h3, h4⟩
      exact ⟨.inr h1, h2, h3, hp, by simp, fun a ha b hb => by simp at hb; subst hb; exact h4 a ha⟩
    · rintro ⟨h1, h2, h3, hp, _, h4⟩
      have h1 : c.2.2 = true := by
        rcases h1 with h | h
        · simp at h
        · exact h
      exact ⟨⟨.inr h1, by omega, by omega, hp⟩, h1, h2, h3, fun a ha => h4 a ha d (by simp)⟩

theorem Apart.symm {a b : Dem} (h : Apart a b) : Apart b a := by
  unfold Apart at h ⊢
  by_cases ha : a.2.2.2 = 0
  · exact .inl ha
  · right
    intro e
    rcases h with h | h
    · exact ha (e ▸ h)
    · exact h e.symm

/-- The pairs that the law looks at, up to an index. -/
def pairsB (l : List Dem) (n : Nat) : Bool := (List.range n).all fun i => (List.range i).all fun k => decide ((l.getD i (0, 0, 0, 0)).2.2.2 = 0) || !decide ((l.getD i (0, 0, 0, 0)).2.2.2 = (l.getD k (0, 0, 0, 0)).2.2.2)

theorem pairs_iff (l : List Dem) : pairsB l l.length = true ↔ l.Pairwise Apart := by
  rw [List.pairwise_iff_getElem]
  simp only [pairsB, List.all_eq_true, List.mem_range, Bool.or_eq_true, decide_eq_true_eq, Bool.not_eq_true', decide_eq_false_iff_not]
  constructor
  · intro h i j hi hj hij
    have := h j hj i hij
    rw [getD_get hi, getD_get hj] at this
    rcases this with h | h
    · exact .inl h
    · exact .inr fun e => h e.symm
  · intro h i hi k hk
    have := h k i (by omega) hi hk
    rw [getD_get hi, getD_get (by omega : k < l.length)]
    rcases this with h | h
    · exact .inl h
    · exact .inr fun e => h e.symm

theorem sR_take {l : List Dem} {i : Nat} (h : i < l.length) : sR (l.take (i + 1)) = sR (l.take i) + (l.getD i (0, 0, 0, 0)).1 := by
  rw [List.take_succ_eq_append_getElem h, sR_snoc, getD_get h]
theorem sC_take {l : List Dem} {i : Nat} (h : i < l.length) : sC (l.take (i + 1)) = sC (l.take i) + (l.getD i (0, 0, 0, 0)).2.2.1 := by
  rw [List.take_succ_eq_append_getElem h, sC_snoc, getD_get h]

theorem sR_perm {l k : List Dem} (h : l.Perm k) : sR l = sR k := sum_perm (h.map _)
theorem sC_perm {l k : List Dem} (h : l.Perm k) : sC l = sC k := sum_perm (h.map _)

theorem admitFits (l : List Int) (m c : Int) (up : Bool) (t : Int) : vmfleetlaw39_AdmitFits.f l m c up t = some true := by
  unfold vmfleetlaw39_AdmitFits.f
  rw [admit_awake]
  by_cases h1 : (l.length : Int) < 1
  · simp [h1]
  by_cases h2 : (l.length : Int) > 16
  · simp [h1, h2]
  simp only [h1, h2, decide_false, cond_false]
  obtain ⟨r3, e3, h3, h3'⟩ := round_some m 80 (by decide) (by decide)
  obtain ⟨r4, e4, h4, h4'⟩ := round_some c 80 (by decide) (by decide)
  obtain ⟨ds, e5, h5, h5'⟩ := demands_some l (by omega)
  have hsm : ∀ d ∈ ds, Small d := fun d hd => by obtain ⟨n, hn⟩ := h5' d hd; exact demand_small hn
  rw [e3, e4, e5]
  simp only [Option.bind_some]
  rw [show ((0 : Int), (0 : Int), true, (0 : Int)) = (fun i : Nat => (sR (ds.take i), sC (ds.take i), pairsB ds i, (i : Int))) 0 from rfl]
  rw [loop_at (fun i : Nat => (sR (ds.take i), sC (ds.take i), pairsB ds i, (i : Int))) ds.length (.inl (sR ds, sC ds, pairsB ds ds.length)) ?h1 ?h2]
  · simp only [Option.bind_some]
    obtain ⟨r6, e6, h6, h6'⟩ := round_some t ds.length (by omega) (by omega)
    rw [e6]
    obtain ⟨k, rfl⟩ := Int.eq_ofNat_of_zero_le h6
    have hk : (0 : Int) ≤ ((k : Nat) : Int) ∧ ((k : Nat) : Int) ≤ (ds.length : Int) := by omega
    have hk' : k ≤ ds.length := by omega
    simp only [Option.bind_some, hk, and_self, if_true, slc_take, slc_drop, List.nil_append, List.length_nil, Nat.zero_add]
    have hs1 : (ds.drop k).length * 32 ≤ 70368744177664 := by simp; omega
    have hs2 : ((ds.drop k).length + (ds.take k).length) * 32 ≤ 70368744177664 := by simp; omega
    simp only [hs1, hs2, if_true]
    have hperm : (ds.drop k ++ ds.take k).Perm ds := by
      have := List.perm_append_comm (l₁ := ds.drop k) (l₂ := ds.take k)
      rwa [List.take_append_drop] at this
    have hsm2 : ∀ d ∈ ds.drop k ++ ds.take k, Small d := fun d hd => hsm d (hperm.subset hd)
    have hlen2 : (ds.drop k ++ ds.take k).length = ds.length := hperm.length_eq
    have hc : 0 ≤ (r3, r4, up).1 ∧ (r3, r4, up).1 < 80 ∧ 0 ≤ (r3, r4, up).2.1 ∧ (r3, r4, up).2.1 < 80 := ⟨h3, h3', h4, h4'⟩
    have f1 := fits_spec hc ds hsm (by omega)
    have f2 := fits_spec hc (ds.drop k ++ ds.take k) hsm2 (by omega)
    have hne : ds ≠ [] := fun h => by rw [h] at h5; simp at h5; omega
    have hne2 : ds.drop k ++ ds.take k ≠ [] := fun h => by rw [h] at hlen2; simp at hlen2; exact hne (List.eq_nil_of_length_eq_zero hlen2.symm)
    rw [sR_perm hperm, sC_perm hperm, hperm.pairwise_iff fun h => Apart.symm h] at f2
    rw [← pairs_iff] at f1 f2
    simp only [hne, false_or] at f1
    simp only [hne2, false_or] at f2
    have e1 : fitsOf (r3, r4, up) (ds.drop k ++ ds.take k) = fitsOf (r3, r4, up) ds := by rw [Bool.eq_iff_iff, f1, f2]
    have key : ∀ w : Bool, fitsOf (r3, r4, up) ds = w → ((admission_Fits.f (r3, r4, up) ds).bind fun r7 => bif r7 == w then (admission_Fits.f (r3, r4, up) (ds.drop k ++ ds.take k)).bind fun r8 => bif r8 == w then (some true).bind fun r9 => some r9 else some false else some false) = some true := by
      intro w hw
      rw [fits_eq _ _ (by omega), fits_eq _ _ (by omega), e1, hw]
      simp
    cases up with
    | false =>
      simp only [cond_false, Option.bind_some]
      refine key false ?_
      rw [← Bool.not_eq_true, f1]
      simp
    | true =>
      simp only [cond_true]
      by_cases g1 : sR ds ≤ r3
      · by_cases g2 : sC ds ≤ r4
        · simp only [g1, g2, decide_true, cond_true, Option.bind_some]
          refine key _ ?_
          rw [Bool.eq_iff_iff, f1]
          simp [g1, g2]
        · simp only [g1, g2, decide_true, decide_false, cond_true, cond_false, Option.bind_some]
          refine key false ?_
          rw [← Bool.not_eq_true, f1]
          simp [g1, g2]
      · simp only [g1, decide_false, cond_false, Option.bind_some]
        refine key false ?_
        rw [← Bool.not_eq_true, f1]
        simp [g1]
  case h1 =>
    intro i hi
    have hi' : (i : Int) < ds.length := by omega
    have hb : 0 ≤ (i : Int) ∧ (i : Int) < ds.length := ⟨by omega, hi'⟩
    simp only [hi', decide_true, cond_true, hb, and_self, if_true]
    have hn : ∀ k : Nat, nth ((0 : Int), (0 : Int), (0 : Int), (0 : Int)) ds k = ds.getD k (0, 0, 0, 0) := fun k => by simp [nth]
    rw [hn i]
    rw [show (pairsB ds i, (0 : Int)) = (fun k : Nat => (pairsB ds i && (List.range k).all (fun k => decide ((ds.getD i (0, 0, 0, 0)).2.2.2 = 0) || !decide ((ds.getD i (0, 0, 0, 0)).2.2.2 = (ds.getD k (0, 0, 0, 0)).2.2.2)), (k : Int))) 0 by simp]
    rw [loop_at (fun k : Nat => (pairsB ds i && (List.range k).all (fun k => decide ((ds.getD i (0, 0, 0, 0)).2.2.2 = 0) || !decide ((ds.getD i (0, 0, 0, 0)).2.2.2 = (ds.getD k (0, 0, 0, 0)).2.2.2)), (k : Int))) i (.inl (pairsB ds (i + 1))) ?g1 ?g2]
    · have hs := sums_small (l := ds.take i) fun d hd => hsm d (List.mem_of_mem_take hd)
      have hlt : (ds.take i).length = i := by simp; omega
      have hd : Small (ds.getD i (0, 0, 0, 0)) := by rw [getD_get hi]; exact hsm _ (List.getElem_mem hi)
      obtain ⟨k1, k2, k3, k4, k5, k6, k7⟩ := hd
      simp only [Option.bind_some]
      rw [sR_take hi, sC_take hi, wrap_i64 (by omega) (by omega), wrap_i64 (by omega) (by omega), wrap_i64 (by omega) (by omega)]
      rfl
    case g1 =>
      intro k hk
      have hk' : (k : Int) < i := by omega
      have hkb : 0 ≤ (k : Int) ∧ (k : Int) < ds.length := ⟨by omega, by omega⟩
      simp only [hk', decide_true, cond_true, hkb, and_self, if_true]
      rw [hn k, wrap_i64 (n := (k : Int) + 1) (by omega) (by omega), List.range_succ, List.all_append, ← Bool.and_assoc]
      cases hp : pairsB ds i && (List.range k).all (fun k => decide ((ds.getD i (0, 0, 0, 0)).2.2.2 = 0) || !decide ((ds.getD i (0, 0, 0, 0)).2.2.2 = (ds.getD k (0, 0, 0, 0)).2.2.2)) with
      | false => simp
      | true =>
        simp only [cond_true, Bool.true_and, List.all_cons, List.all_nil, Bool.and_true]
        by_cases h0 : (ds.getD i (0, 0, 0, 0)).2.2.2 = 0
        · simp only [h0, decide_true, cond_true, Bool.true_or]; rfl
        · simp only [h0, decide_false, cond_false, Bool.false_or]; rfl
    case g2 =>
      have : ¬ (i : Int) < i := by omega
      simp only [this, decide_false, cond_false, pairsB, List.range_succ, List.all_append, List.all_cons, List.all_nil, Bool.and_true]
  case h2 =>
    have : ¬ (ds.length : Int) < ds.length := by omega
    simp only [this, decide_false, cond_false, List.take_length]

theorem vmfleetlaw39_AdmitFits.pure (x : (tup vmfleetlaw39_AdmitFits.sp.args).den) (h : WfL vmfleetlaw39_AdmitFits.sp.args x) : vmfleetlaw39_AdmitFits.sp.f x = some true := admitFits x.1 x.2.1 x.2.2.1 x.2.2.2.1 x.2.2.2.2

end Go.Proofs.Ytacmfiddaklkiaa.Fn
