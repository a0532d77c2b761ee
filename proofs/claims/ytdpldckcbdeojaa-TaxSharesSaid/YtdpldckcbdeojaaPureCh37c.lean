/- The claims, the numbers and the samples of the laws of chapter 37, in plain Lean. -/
import Derived.Test.YtdpldckcbdeojaaPureCh37b
set_option linter.unusedVariables false
set_option linter.unusedSimpArgs false
namespace Go.Proofs.Ytdpldckcbdeojaa.Fn
open Go Lift

local notation "cl(" l ", " i ")" => nth ((0 : Int), (0 : Int), (0 : Int), (0 : Int), (0 : Int)) l i

theorem round_ok (n k : Int) (hk : 0 < k) (hk2 : k < 9223372036854775807) : ∃ r, vmfleetmake_Round.f n k = some r ∧ 0 ≤ r ∧ r < k := by
  unfold vmfleetmake_Round.f
  have h0 : ¬ k = 0 := by omega
  simp only [h0, if_false]
  have h1 := Int.tmod_lt_of_pos n hk
  have h2 : -k < Int.tmod n k := by have := Int.lt_tmod_of_pos n hk; omega
  by_cases h : Int.tmod n k < 0
  · simp only [h, decide_true, cond_true, Option.some.injEq, exists_eq_left']
    rw [wrap_i64 (by omega) (by omega)]
    omega
  · simp only [h, decide_false, cond_false, Option.some.injEq, exists_eq_left']
    omega

theorem mix_ok (n k : Int) : ∃ r, vmfleetmake_Mix.f n k = some r := by
  unfold vmfleetmake_Mix.f vmfleetref1_Next.f
  exact ⟨_, rfl⟩

theorem claim_ok (n : Int) : ∃ c, vmfleetlaw37_claim.f n = some c ∧ okC c := by
  unfold vmfleetlaw37_claim.f
  obtain ⟨r, hr⟩ := mix_ok n 31
  rw [hr, Option.bind_some]
  refine ⟨_, rfl, ?_⟩
  have a1 := and_range (x := r) (m := 7) (by decide) (by decide)
  have a2 := and_range (x := shrI .i64 r 26) (m := 31) (by decide) (by decide)
  have a3 := and_range (x := shrI .i64 r 3) (m := 255) (by decide) (by decide)
  have a4 := and_range (x := shrI .i64 r 11) (m := 31) (by decide) (by decide)
  have a5 := and_range (x := shrI .i64 r 16) (m := 1023) (by decide) (by decide)
  unfold okC
  dsimp only
  generalize andI .i64 r 7 = x1 at a1 ⊢
  generalize andI .i64 (shrI .i64 r 26) 31 = x2 at a2 ⊢
  generalize andI .i64 (shrI .i64 r 3) 255 = x3 at a3 ⊢
  generalize andI .i64 (shrI .i64 r 11) 31 = x4 at a4 ⊢
  generalize andI .i64 (shrI .i64 r 16) 1023 = x5 at a5 ⊢
  rw [wrap_i64 (n := 1 + x1) (by omega) (by omega), wrap_i64 (n := 1 + x1 + x2) (by omega) (by omega), wrap_i64 (n := 1 + x3) (by omega) (by omega), wrap_i64 (n := x5 * 1000) (by omega) (by omega)]
  have e : Int.tdiv (x5 * 1000) 1023 = x5 * 1000 / 1023 := Int.tdiv_eq_ediv_of_nonneg (by omega)
  rw [e, wrap_i64 (n := x5 * 1000 / 1023) (by omega) (by omega)]
  omega

theorem nth_snoc {α : Type} {d x : α} {l : List α} {i : Nat} (h : i ≤ l.length) : nth d (l ++ [x]) i = if i = l.length then x else nth d l i := by
  unfold nth
  rw [Int.toNat_natCast, List.getD_eq_getElem?_getD, List.getD_eq_getElem?_getD]
  by_cases e : i = l.length
  · subst e; rw [if_pos rfl, List.getElem?_append_right (Nat.le_refl _)]; simp
  · rw [if_neg e, List.getElem?_append_left (by omega)]

theorem okL_snoc {l : List Clm} {c : Clm} (hl : okL l) (hc : okC c) : okL (l ++ [c]) := by
  intro i hi
  rw [List.length_append] at hi
  have hi : i < l.length + 1 := hi
  rw [nth_snoc (by omega)]
  by_cases e : i = l.length
  · rw [if_pos e]; exact hc
  · rw [if_neg e]; exact hl i (by omega)

theorem claims_ok (l : List Int) (h8 : l.length ≤ 1000) : ∃ cs, vmfleetlaw37_claims.f l = some cs ∧ cs.length = l.length ∧ okL cs := by
  unfold vmfleetlaw37_claims.f
  have key := loop_ind (I := fun x : (List Clm) × Int => 0 ≤ x.2 ∧ x.2 ≤ l.length ∧ (x.1.length : Int) = x.2 ∧ okL x.1) (Q := fun y : (List Clm) ⊕ (List Clm) => ∃ cs, y = .inl cs ∧ cs.length = l.length ∧ okL cs) (fun x => ((l.length : Int) - x.2).toNat) (x := ([], (0 : Int))) ⟨Int.le_refl 0, by simp only; omega, rfl, fun j hj => absurd hj (Nat.not_lt_zero _)⟩ (step := (fun (x1 : (List (Int × Int × Int × Int × Int)) × Int) =>
    bif decide (x1.2 < (l.length : Int)) then
      if 0 ≤ x1.2 ∧ x1.2 < (l.length : Int) then
        (vmfleetlaw37_claim.f (nth (0 : Int) l x1.2)).bind fun r1 =>
        if (x1.1.length + ([r1] : List (Int × Int × Int × Int × Int)).length) * 40 ≤ 70368744177664 then
          some (.inl ((x1.1 ++ ([r1] : List (Int × Int × Int × Int × Int))), IntKind.wrap .i64 (x1.2 + 1)))
        else none
      else none
    else
      some (.inr (.inl x1.1)))) ?h
  · obtain ⟨y, h1, cs, rfl, h2, h3⟩ := key
    exact ⟨cs, bind_of h1 rfl, h2, h3⟩
  case h =>
    rintro ⟨p, i⟩ ⟨i1, i2, i3, i4⟩
    dsimp only at i1 i2 i3 i4 ⊢
    by_cases hi : i < (l.length : Int)
    · left
      obtain ⟨c, hc, hok⟩ := claim_ok (nth (0 : Int) l i)
      have hs : (p.length + ([c] : List Clm).length) * 40 ≤ 70368744177664 := by simp; omega
      rw [decide_eq_true hi, cond_true, if_pos ⟨i1, hi⟩, hc, Option.bind_some, if_pos hs, wrap_i64 (by omega) (by omega)]
      exact ⟨_, rfl, ⟨by simp only; omega, by simp only; omega, by simp; omega, okL_snoc i4 hok⟩, by simp only; omega⟩
    · right
      rw [decide_eq_false hi, cond_false]
      exact ⟨_, rfl, p, rfl, by omega, i4⟩

/-! ### Samples -/
/-- Two loops that go side by side. -/
theorem loop_sim {X X' Y Y' : Type} {step : X → Option (X ⊕ Y)} {step' : X' → Option (X' ⊕ Y')} {R : X → X' → Prop} {Q : Y → Y' → Prop} (μ : X → Nat) {x : X} {x' : X'} (h0 : R x x')
    (h : ∀ x x', R x x' → (∃ y y', step x = some (.inl y) ∧ step' x' = some (.inl y') ∧ R y y' ∧ μ y < μ x) ∨ (∃ z z', step x = some (.inr z) ∧ step' x' = some (.inr z') ∧ Q z z')) :
    ∃ z z', loop step x = some z ∧ loop step' x' = some z' ∧ Q z z' := by
  have key : ∀ (n : Nat) (x : X) (x' : X'), μ x = n → R x x' → ∃ z z', loop step x = some z ∧ loop step' x' = some z' ∧ Q z z' := by
    intro n
    induction n using Nat.strongRecOn with
    | _ n ih =>
      intro x x' hn hx
      rcases h x x' hx with ⟨y, y', h1, h2, h3, h4⟩ | ⟨z, z', h1, h2, h3⟩
      · obtain ⟨z, z', k1, k2, k3⟩ := ih (μ y) (by omega) y y' rfl h3
        exact ⟨z, z', by rw [loop_eq, h1]; exact k1, by rw [loop_eq, h2]; exact k2, k3⟩
      · exact ⟨z, z', by rw [loop_eq, h1], by rw [loop_eq, h2], h3⟩
  exact key _ x x' rfl h0

theorem wrap_u64_range (n : Int) : 0 ≤ IntKind.wrap .u64 n ∧ IntKind.wrap .u64 n ≤ 18446744073709551615 := by
  simp [IntKind.wrap, IntKind.bits, IntKind.signed]; omega

theorem next_ok (s : Int) : ∃ r, bits_Next.f s = some r ∧ vmfleetref1_Next.f s = some r ∧ 0 ≤ r.1 ∧ r.1 ≤ 18446744073709551615 := by
  unfold bits_Next.f vmfleetref1_Next.f
  exact ⟨_, rfl, rfl, (wrap_u64_range _).1, (wrap_u64_range _).2⟩

theorem index_eq (s : List Int) (v : Int) (hs : s.length ≤ 1000000) : ∃ r, slices_Index_int_int.f s v = some r ∧ (r ≥ 0 ↔ v ∈ s) := by
  unfold slices_Index_int_int.f
  have key := loop_ind (I := fun x : Int => 0 ≤ x ∧ x ≤ s.length ∧ ∀ j : Nat, (j : Int) < x → s[j]? ≠ some v) (Q := fun y : Unit ⊕ Int => match y with | .inl _ => v ∉ s | .inr r => 0 ≤ r ∧ v ∈ s) (fun x => ((s.length : Int) - x).toNat) (x := (0 : Int)) ⟨Int.le_refl 0, by omega, fun j hj => by omega⟩ (step := (fun (x1 : Int) =>
    bif decide (x1 < (s.length : Int)) then
      if 0 ≤ x1 ∧ x1 < (s.length : Int) then
        bif decide (v = (nth (0 : Int) s x1)) then
          some (.inr (.inr x1))
        else
          some (.inl (IntKind.wrap .i64 (x1 + 1)))
      else none
    else
      some (.inr (.inl ())))) ?h
  · obtain ⟨y, h1, h2⟩ := key
    cases y with
    | inl u => exact ⟨-1, bind_of h1 rfl, by constructor; · intro h; omega
                                             · intro h; exact absurd h h2⟩
    | inr r => exact ⟨r, bind_of h1 rfl, fun _ => h2.2, fun _ => h2.1⟩
  case h =>
    rintro x ⟨i1, i2, i3⟩
    by_cases hi : x < (s.length : Int)
    · obtain ⟨i, rfl⟩ := Int.eq_ofNat_of_zero_le i1
      have hlt : i < s.length := by omega
      have hget : s[i]? = some s[i] := List.getElem?_eq_getElem hlt
      rw [decide_eq_true hi, cond_true, if_pos ⟨i1, hi⟩, nth_some hget]
      by_cases hv : v = s[i]
      · right
        rw [decide_eq_true hv]
        exact ⟨_, rfl, i1, by rw [hv]; exact List.getElem_mem hlt⟩
      · left
        rw [decide_eq_false hv, cond_false, wrap_i64 (by omega) (by omega)]
        refine ⟨_, rfl, ⟨by omega, by omega, fun j hj => ?_⟩, by omega⟩
        by_cases hji : j = i
        · subst hji; rw [hget]; intro hh; exact hv (Option.some.inj hh).symm
        · exact i3 j (by omega)
    · right
      rw [decide_eq_false hi]
      refine ⟨_, rfl, ?_⟩
      intro hmem
      obtain ⟨j, hj, hje⟩ := List.mem_iff_getElem.1 hmem
      exact i3 j (by omega) (by rw [List.getElem?_eq_getElem hj, hje])

theorem contains_eq (s : List Int) (v : Int) (hs : s.length ≤ 1000000) : slices_Contains_int_int.f s v = some (decide (v ∈ s)) := by
  unfold slices_Contains_int_int.f
  obtain ⟨r, h1, h2⟩ := index_eq s v hs
  rw [h1, Option.bind_some]
  by_cases h : v ∈ s
  · rw [decide_eq_true h, decide_eq_true (h2.2 h)]
  · rw [decide_eq_false h, decide_eq_false (fun hh => h (h2.1 hh))]

/-- A list that holds all numbers below p has p elements. -/
theorem pigeon : ∀ (p : Nat) (s : List Int), (∀ y : Nat, y < p → (y : Int) ∈ s) → p ≤ s.length := by
  intro p
  induction p with
  | zero => intro s _; exact Nat.zero_le _
  | succ p ih =>
    intro s h
    have h1 : (p : Int) ∈ s := h p (by omega)
    have h2 := ih (s.erase (p : Int)) fun y hy => (List.mem_erase_of_ne (by omega)).2 (h y (by omega))
    rw [List.length_erase_of_mem h1] at h2
    have := List.length_pos_of_mem h1
    omega

theorem free_page {p : Nat} {s : List Int} (h : s.length < p) : ∃ y : Nat, y < p ∧ (y : Int) ∉ s := by
  refine Classical.byContradiction fun hn => ?_
  have := pigeon p s fun y hy => Classical.byContradiction fun hy2 => hn ⟨y, hy, hy2⟩
  omega

/-- A list of different pages. -/
def okS (p : Int) (s : List Int) : Prop := s.Nodup ∧ ∀ x ∈ s, 0 ≤ x ∧ x < p

theorem probe_eq {pages : Int} {s : List Int} {used : List Bool} {x : Int} (h1 : 1 ≤ pages) (h32 : pages ≤ 32) (hs : (s.length : Int) < pages) (hu : ∀ j : Nat, j < 32 → nth false used j = decide ((j : Int) ∈ s)) (hx : 0 ≤ x ∧ x < pages) :
    ∃ y, (loop (Y := (Int) ⊕ ((Int × List Int × Int) ⊕ ((Int × List Int) ⊕ (List Int × Int)))) (fun (x2 : Int) =>
              (slices_Contains_int_int.f s x2).bind fun r2 =>
              bif r2 then
                if pages = 0 then none else
                some (.inl (Int.tmod (IntKind.wrap .i64 (x2 + 1)) pages))
              else
                some (.inr (.inl x2))) x) = some (.inl y) ∧
      (loop (Y := (Int) ⊕ ((Int × List Int × List Bool) ⊕ ((Int × List Int) ⊕ (List Int × Int)))) (fun (x2 : Int) =>
                if 0 ≤ x2 ∧ x2 < (32 : Int) then
                  bif nth false used x2 then
                    if pages = 0 then none else
                    some (.inl (Int.tmod (IntKind.wrap .i64 (x2 + 1)) pages))
                  else
                    some (.inr (.inl x2))
                else none) x) = some (.inl y) ∧ 0 ≤ y ∧ y < pages ∧ y ∉ s := by
  obtain ⟨p, rfl⟩ := Int.eq_ofNat_of_zero_le (show 0 ≤ pages by omega)
  obtain ⟨f, hf1, hf2⟩ := free_page (p := p) (s := s) (by omega)
  have key := loop_sim (R := fun a b : Int => a = b ∧ 0 ≤ a ∧ a < p) (Q := fun (z : (Int) ⊕ ((Int × List Int × Int) ⊕ ((Int × List Int) ⊕ (List Int × Int)))) (z' : (Int) ⊕ ((Int × List Int × List Bool) ⊕ ((Int × List Int) ⊕ (List Int × Int)))) => ∃ y, z = .inl y ∧ z' = .inl y ∧ 0 ≤ y ∧ y < p ∧ y ∉ s)
    (fun a => if a ≤ (f : Int) then ((f : Int) - a).toNat else ((f : Int) - a + p).toNat) (x := x) (x' := x) ⟨rfl, hx⟩ (step := (fun (x2 : Int) =>
              (slices_Contains_int_int.f s x2).bind fun r2 =>
              bif r2 then
                if (p : Int) = 0 then none else
                some (.inl (Int.tmod (IntKind.wrap .i64 (x2 + 1)) (p : Int)))
              else
                some (.inr (.inl x2)))) (step' := (fun (x2 : Int) =>
                if 0 ≤ x2 ∧ x2 < (32 : Int) then
                  bif nth false used x2 then
                    if (p : Int) = 0 then none else
                    some (.inl (Int.tmod (IntKind.wrap .i64 (x2 + 1)) (p : Int)))
                  else
                    some (.inr (.inl x2))
                else none)) ?h
  · obtain ⟨z, z', e1, e2, y, rfl, rfl, e3⟩ := key
    exact ⟨y, e1, e2, e3⟩
  case h =>
    rintro a b ⟨rfl, a1, a2⟩
    obtain ⟨i, rfl⟩ := Int.eq_ofNat_of_zero_le a1
    have hb : 0 ≤ (i : Int) ∧ (i : Int) < 32 := by omega
    have hp0 : ¬ (p : Int) = 0 := by omega
    try dsimp only
    rw [contains_eq s (i : Int) (by omega), Option.bind_some, if_pos hb, hu i (by omega)]
    by_cases hm : (i : Int) ∈ s
    · left
      have hif : i ≠ f := by intro hh; subst hh; exact hf2 hm
      have em : Int.tmod (IntKind.wrap .i64 ((i : Int) + 1)) (p : Int) = if i + 1 = p then 0 else (i : Int) + 1 := by
        rw [wrap_i64 (by omega) (by omega), Int.tmod_eq_emod_of_nonneg (by omega)]
        by_cases hip : i + 1 = p
        · rw [if_pos hip, show (i : Int) + 1 = p by omega, Int.emod_self]
        · rw [if_neg hip, Int.emod_eq_of_lt (by omega) (by omega)]
      rw [decide_eq_true hm, cond_true, cond_true, if_neg hp0, if_neg hp0, em]
      refine ⟨_, _, rfl, rfl, ⟨rfl, ?_, ?_⟩, ?_⟩
      · split <;> omega
      · split <;> omega
      · by_cases hip : i + 1 = p
        · rw [if_pos hip, if_pos (by omega), if_neg (by omega)]; omega
        · rw [if_neg hip]
          by_cases hlt : (i : Int) ≤ f
          · rw [if_pos hlt, if_pos (by omega)]; omega
          · rw [if_neg hlt, if_neg (by omega)]; omega
    · right
      rw [decide_eq_false hm, cond_false, cond_false]
      exact ⟨_, _, rfl, rfl, (i : Int), rfl, rfl, a1, a2, hm⟩

theorem okS_snoc {p y : Int} {s : List Int} (h : okS p s) (h0 : 0 ≤ y) (h1 : y < p) (h2 : y ∉ s) : okS p (s ++ [y]) := by
  refine ⟨?_, fun x hx => ?_⟩
  · rw [List.nodup_append]
    refine ⟨h.1, by simp, fun a ha b hb => ?_⟩
    rw [List.mem_singleton] at hb
    subst hb
    intro e; subst e; exact h2 ha
  · rcases List.mem_append.1 hx with hx | hx
    · exact h.2 x hx
    · rw [List.mem_singleton] at hx; subst hx; exact ⟨h0, h1⟩

/-- What a sample is. -/
def okSample (pages n : Int) (s : List Int) : Prop := (pages < 1 ∨ pages > 32 ∨ n < 1 → s = []) ∧ (1 ≤ pages → pages ≤ 32 → 1 ≤ n → (s.length : Int) = min n pages ∧ okS pages s)

theorem sample_eq (seed pages n : Int) (hn : n ≤ 9223372036854775807) : ∃ r, idletax_Sample.f seed pages n = some r ∧ vmfleetref35_Sample.f seed pages n = some r ∧ okSample pages n r.1 := by
  unfold idletax_Sample.f vmfleetref35_Sample.f
  by_cases a1 : pages < 1
  · rw [decide_eq_true a1, cond_true, cond_true]
    exact ⟨_, rfl, rfl, fun _ => rfl, fun h => by omega⟩
  rw [decide_eq_false a1, cond_false, cond_false]
  by_cases a2 : pages > 32
  · rw [decide_eq_true a2, cond_true, cond_true]
    exact ⟨_, rfl, rfl, fun _ => rfl, fun _ h => by omega⟩
  rw [decide_eq_false a2, cond_false, cond_false]
  by_cases a3 : n < 1
  · rw [decide_eq_true a3, cond_true, cond_true]
    exact ⟨_, rfl, rfl, fun _ => rfl, fun _ _ h => by omega⟩
  rw [decide_eq_false a3, cond_false, cond_false]
  have b1 : 1 ≤ pages := by omega
  have b2 : pages ≤ 32 := by omega
  have key := loop_sim (R := fun (a : Int × List Int × Int) (b : Int × List Int × List Bool) => a.1 = b.1 ∧ a.2.1 = b.2.1 ∧ (a.2.1.length : Int) = a.2.2 ∧ a.2.2 ≤ min n pages ∧ okS pages a.2.1 ∧ b.2.2.length = 32 ∧ ∀ j : Nat, j < 32 → nth false b.2.2 j = decide ((j : Int) ∈ a.2.1))
    (Q := fun (z : (Int × List Int) ⊕ (List Int × Int)) (z' : (Int × List Int) ⊕ (List Int × Int)) => ∃ u v, z = .inl (u, v) ∧ z' = .inl (u, v) ∧ (v.length : Int) = min n pages ∧ okS pages v)
    (fun a => (min n pages - a.2.2).toNat) (x := (seed, [], (0 : Int))) (x' := (seed, [], List.replicate 32 false)) ⟨rfl, rfl, rfl, by show (0 : Int) ≤ min n pages; omega, ⟨List.nodup_nil, fun x hx => absurd hx List.not_mem_nil⟩, by simp, fun j hj => ?r0⟩ (step := (fun (x1 : Int × List Int × Int) =>
          bif decide (x1.2.2 < (min n pages)) then
            (bits_Next.f x1.1).bind fun r1 =>
            if (IntKind.wrap .u64 pages) = 0 then none else
            (loop (Y := (Int) ⊕ ((Int × List Int × Int) ⊕ ((Int × List Int) ⊕ (List Int × Int)))) (fun (x2 : Int) =>
              (slices_Contains_int_int.f x1.2.1 x2).bind fun r2 =>
              bif r2 then
                if pages = 0 then none else
                some (.inl (Int.tmod (IntKind.wrap .i64 (x2 + 1)) pages))
              else
                some (.inr (.inl x2))) (IntKind.wrap .i64 (Int.tmod r1.1 (IntKind.wrap .u64 pages)))).bind fun o => match o with
            | .inl y3 =>
              if (x1.2.1.length + ([y3] : List Int).length) * 8 ≤ 70368744177664 then
                some (.inl (r1.2, x1.2.1 ++ ([y3] : List Int), IntKind.wrap .i64 (x1.2.2 + 1)))
              else none
            | .inr r => some r
          else
            some (.inr (.inl (x1.1, x1.2.1))))) (step' := (fun (x1 : Int × List Int × List Bool) =>
          bif decide ((x1.2.1.length : Int) < n) then
            bif decide ((x1.2.1.length : Int) < pages) then
              (vmfleetref1_Next.f x1.1).bind fun r1 =>
              if (IntKind.wrap .u64 pages) = 0 then none else
              (loop (Y := (Int) ⊕ ((Int × List Int × List Bool) ⊕ ((Int × List Int) ⊕ (List Int × Int)))) (fun (x2 : Int) =>
                if 0 ≤ x2 ∧ x2 < (32 : Int) then
                  bif nth false x1.2.2 x2 then
                    if pages = 0 then none else
                    some (.inl (Int.tmod (IntKind.wrap .i64 (x2 + 1)) pages))
                  else
                    some (.inr (.inl x2))
                else none) (IntKind.wrap .i64 (Int.tmod r1.1 (IntKind.wrap .u64 pages)))).bind fun o => match o with
              | .inl y3 =>
                if 0 ≤ y3 ∧ y3 < (32 : Int) then
                  if (x1.2.1.length + ([y3] : List Int).length) * 8 ≤ 70368744177664 then
                    some (.inl (r1.2, x1.2.1 ++ ([y3] : List Int), put x1.2.2 y3 true))
                  else none
                else none
              | .inr r => some r
            else
              some (.inr (.inl (x1.1, x1.2.1)))
          else
            some (.inr (.inl (x1.1, x1.2.1))))) ?h
  · obtain ⟨z, z', e1, e2, u, v, rfl, rfl, e3⟩ := key
    refine ⟨(v, u), bind_of e1 rfl, bind_of e2 rfl, fun h => by omega, fun _ _ _ => e3⟩
  case r0 =>
    unfold nth
    rw [Int.toNat_natCast, List.getD_eq_getElem?_getD, List.getElem?_replicate, if_pos hj]
    rfl
  case h =>
    rintro ⟨sd, s, i⟩ ⟨sd', s', used⟩ ⟨h1, h2, h3, h4, h5, h6, h7⟩
    dsimp only at h1 h2 h3 h4 h5 h6 h7 ⊢
    subst h1; subst h2; subst h3
    have hw : IntKind.wrap .u64 pages = pages := wrap_u64 (by omega) (by omega)
    have hp0 : ¬ pages = 0 := by omega
    rw [hw]
    by_cases hi : (s.length : Int) < min n pages
    · left
      have c1 : (s.length : Int) < n := by omega
      have c2 : (s.length : Int) < pages := by omega
      obtain ⟨r, er, er', r1, r2⟩ := next_ok sd
      have em : IntKind.wrap .i64 (Int.tmod r.1 pages) = Int.tmod r.1 pages := by
        rw [Int.tmod_eq_emod_of_nonneg r1]
        have m1 := Int.emod_nonneg r.1 hp0
        have m2 := Int.emod_lt_of_pos r.1 (show 0 < pages by omega)
        exact wrap_i64 (by omega) (by omega)
      have em2 : 0 ≤ Int.tmod r.1 pages ∧ Int.tmod r.1 pages < pages := by
        rw [Int.tmod_eq_emod_of_nonneg r1]
        exact ⟨Int.emod_nonneg r.1 hp0, Int.emod_lt_of_pos r.1 (show 0 < pages by omega)⟩
      obtain ⟨y, p1, p2, p3, p4, p5⟩ := probe_eq (used := used) b1 b2 c2 h7 em2
      have hs : (s.length + ([y] : List Int).length) * 8 ≤ 70368744177664 := by simp; omega
      have hy : 0 ≤ y ∧ y < 32 := by omega
      refine ⟨(r.2, s ++ [y], (s.length : Int) + 1), (r.2, s ++ [y], put used y true), ?_, ?_, ?_, ?_⟩
      · rw [decide_eq_true hi, cond_true, er, Option.bind_some, if_neg hp0, em]
        refine bind_of p1 ?_
        dsimp only
        rw [if_pos hs, wrap_i64 (by omega) (by omega)]
      · rw [decide_eq_true c1, cond_true, decide_eq_true c2, cond_true, er', Option.bind_some, if_neg hp0, em]
        refine bind_of p2 ?_
        dsimp only
        rw [if_pos hy, if_pos hs]
      · refine ⟨rfl, rfl, by simp, by show (s.length : Int) + 1 ≤ min n pages; omega, okS_snoc h5 p3 p4 p5, by show (put used y true).length = 32; unfold put; rw [List.length_set]; exact h6, fun j hj => ?_⟩
        show nth false (put used y true) (j : Int) = decide ((j : Int) ∈ s ++ [y])
        rw [nth_put p3 (by rw [h6]; omega) (by omega)]
        by_cases hjy : (j : Int) = y
        · rw [if_pos hjy, decide_eq_true]; rw [hjy]; simp
        · rw [if_neg hjy, h7 j hj]
          by_cases hjs : (j : Int) ∈ s
          · rw [decide_eq_true hjs, decide_eq_true (List.mem_append_left _ hjs)]
          · rw [decide_eq_false hjs, decide_eq_false]
            intro hh
            rcases List.mem_append.1 hh with hh | hh
            · exact hjs hh
            · exact hjy (List.mem_singleton.1 hh)
      · show (min n pages - ((s.length : Int) + 1)).toNat < (min n pages - (s.length : Int)).toNat
        omega
    · right
      have he : (s.length : Int) = min n pages := by omega
      refine ⟨.inl (sd, s), .inl (sd, s), ?_, ?_, sd, s, rfl, rfl, he, h5⟩
      · rw [decide_eq_false hi, cond_false]
      · by_cases c1 : (s.length : Int) < n
        · have c2 : ¬ (s.length : Int) < pages := by omega
          rw [decide_eq_true c1, cond_true, decide_eq_false c2, cond_false]
        · rw [decide_eq_false c1, cond_false]

theorem estimate_some (old used n : Int) : ∃ v, idletax_Estimate.f old used n = some v := by
  unfold idletax_Estimate.f
  by_cases a1 : n < 1
  · rw [decide_eq_true a1]; exact ⟨_, rfl⟩
  rw [decide_eq_false a1, cond_false]
  cases decide (n > 32)
  case true => exact ⟨_, rfl⟩
  cases decide (used < 0)
  case true => exact ⟨_, rfl⟩
  cases decide (used > n)
  case true => exact ⟨_, rfl⟩
  cases decide (old < 0)
  case true => exact ⟨_, rfl⟩
  cases decide (old > 1000)
  case true => exact ⟨_, rfl⟩
  simp only [cond_false]
  rw [if_neg (by omega)]
  cases decide (IntKind.wrap .i64 (Int.tdiv (IntKind.wrap .i64 (used * 1000)) n) > old)
  · exact ⟨_, rfl⟩
  · exact ⟨_, rfl⟩

end Go.Proofs.Ytdpldckcbdeojaa.Fn
