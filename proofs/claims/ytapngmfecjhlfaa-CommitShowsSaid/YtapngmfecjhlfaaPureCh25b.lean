/- The outputs of the laws of chapter 25, in plain Lean. -/
import Derived.Test.YtapngmfecjhlfaaPureCh25
import Derived.Test.YtapngmfecjhlfaaPureMem
set_option linter.unusedVariables false
set_option linter.unusedSimpArgs false
namespace Go.Proofs.Ytapngmfecjhlfaa.Fn
open Go Lift

theorem data25_ok (n : Int) (k : Nat) (hk : k ≤ 1000000) : ∃ s, vmfleetmake_Data.f n k = some s ∧ s.size = k := by
  unfold vmfleetmake_Data.f
  have hl : ∃ y : List Int ⊕ ByteArray, loop (Y := List Int ⊕ ByteArray) (fun (x1 : List Int × Int) =>
      bif decide (x1.2 < (k : Int)) then
        (vmfleetmake_Mix.f n (IntKind.wrap .i64 (Int.tdiv x1.2 (9 : Int)))).bind fun r1 =>
        if (x1.1.length + ([IntKind.wrap .u8 r1] : List Int).length) * 1 ≤ 70368744177664 then
          some (.inl ((x1.1 ++ ([IntKind.wrap .u8 r1] : List Int)), IntKind.wrap .i64 (x1.2 + 1)))
        else none
      else
        some (.inr (.inl x1.1))) ([], (0 : Int)) = some y ∧ ∃ l, y = .inl l ∧ l.length = k := by
    refine loop_ind (I := fun x => 0 ≤ x.2 ∧ x.2 ≤ (k : Int) ∧ (x.1.length : Int) = x.2) (fun x => ((k : Int) - x.2).toNat) ⟨by decide, by simp, by simp⟩ fun x hI => ?_
    obtain ⟨l, i⟩ := x
    obtain ⟨i1, i2, i3⟩ := hI
    simp only at i1 i2 i3 ⊢
    by_cases hi : i < k
    · left
      obtain ⟨r, hr⟩ := mix_ok n (IntKind.wrap .i64 (Int.tdiv i 9))
      have hs : (l.length + ([IntKind.wrap .u8 r] : List Int).length) * 1 ≤ 70368744177664 := by simp; omega
      simp only [hi, decide_true, cond_true, hr, Option.bind_some, hs, if_true]
      rw [wrap_i64 (by omega) (by omega)]
      exact ⟨_, rfl, ⟨by simp only; omega, by simp only; omega, by simp; omega⟩, by simp only; omega⟩
    · right
      exact ⟨.inl l, by simp only [hi, decide_false, cond_false], l, rfl, by omega⟩
  obtain ⟨y, hy, l, rfl, hlen⟩ := hl
  rw [hy]
  exact ⟨strOf l, rfl, by rw [strOf_size]; exact hlen⟩

/-- What the outputs of a law are. -/
structure Outs (out : List OutT) (n : Nat) : Prop where
  len : out.length = n
  ord : Ordered out
  at1 : ∀ o ∈ out, 1 ≤ o.2.1 ∧ o.2.1 ≤ 1 + 2 * (n : Int)
  ok : ∀ o ∈ out, gateB o = true → okO o = true

theorem outs_ok (l : List Int) (hl : l.length ≤ 40) : ∃ out, vmfleetlaw25_outputs.f l = some out ∧ Outs out l.length := by
  unfold vmfleetlaw25_outputs.f
  have key := loop_ind (step := (fun (x1 : (List (Int × Int × Int × ByteArray)) × Int × Int) =>
    bif decide (x1.2.2 < (l.length : Int)) then
      if 0 ≤ x1.2.2 ∧ x1.2.2 < (l.length : Int) then
        (vmfleetmake_Round.f (nth (0 : Int) l x1.2.2) (3 : Int)).bind fun r1 =>
        let v1 := IntKind.wrap .u64 (x1.2.1 + (IntKind.wrap .u64 r1))
        if 0 ≤ x1.2.2 ∧ x1.2.2 < (l.length : Int) then
          (vmfleetmake_Round.f (IntKind.wrap .i64 (Int.tdiv (nth (0 : Int) l x1.2.2) (3 : Int))) (4 : Int)).bind fun r2 =>
          (bif decide ((IntKind.wrap .i64 (1 + r2)) = 1) then
            if 0 ≤ x1.2.2 ∧ x1.2.2 < (l.length : Int) then
              (vmfleetmake_Round.f (IntKind.wrap .i64 (Int.tdiv (nth (0 : Int) l x1.2.2) (12 : Int))) (26 : Int)).bind fun r3 =>
              some (.inl (IntKind.wrap .i64 (1 + r2), v1, (0 : Int), strOf ([(IntKind.wrap .u8 (IntKind.wrap .i64 (97 + r3)))] : List Int)))
            else none
          else
            bif decide ((IntKind.wrap .i64 (1 + r2)) = 2) then
              if 0 ≤ x1.2.2 ∧ x1.2.2 < (l.length : Int) then
                if 0 ≤ x1.2.2 ∧ x1.2.2 < (l.length : Int) then
                  (vmfleetmake_Round.f (nth (0 : Int) l x1.2.2) (20 : Int)).bind fun r4 =>
                  (vmfleetmake_Data.f (nth (0 : Int) l x1.2.2) (IntKind.wrap .i64 (1 + r4))).bind fun r5 =>
                  some (.inl (IntKind.wrap .i64 (1 + r2), v1, (0 : Int), r5))
                else none
              else none
            else
              some (.inl (IntKind.wrap .i64 (1 + r2), v1, (0 : Int), (⟨#[]⟩ : ByteArray))) : Option ((Int × Int × Int × ByteArray) ⊕ (((List (Int × Int × Int × ByteArray)) × Int × Int) ⊕ ((List (Int × Int × Int × ByteArray)) ⊕ (List (Int × Int × Int × ByteArray)))))).bind fun o => match o with
          | .inl y2 =>
            if (x1.1.length + ([y2] : List (Int × Int × Int × ByteArray)).length) * 40 ≤ 70368744177664 then
              some (.inl ((x1.1 ++ ([y2] : List (Int × Int × Int × ByteArray))), v1, IntKind.wrap .i64 (x1.2.2 + 1)))
            else none
          | .inr r => some r
        else none
      else none
    else
      some (.inr (.inl x1.1)))) (I := fun x : List OutT × Int × Int => 0 ≤ x.2.2 ∧ x.2.2 ≤ l.length ∧ (x.1.length : Int) = x.2.2 ∧ Ordered x.1 ∧ 1 ≤ x.2.1 ∧ x.2.1 ≤ 1 + 2 * x.2.2 ∧ (∀ o ∈ x.1, 1 ≤ o.2.1 ∧ o.2.1 ≤ x.2.1) ∧ ∀ o ∈ x.1, gateB o = true → okO o = true)
    (Q := fun y : (List (Int × Int × Int × ByteArray)) ⊕ (List (Int × Int × Int × ByteArray)) => ∃ out, y = .inl out ∧ Outs out l.length) (fun x => ((l.length : Int) - x.2.2).toNat) (x := ([], (1 : Int), (0 : Int))) ⟨Int.le_refl 0, by simp only; omega, rfl, List.Pairwise.nil, Int.le_refl 1, by simp only; omega, by simp, by simp⟩ ?h
  · obtain ⟨y, h1, out, rfl, h2⟩ := key
    exact ⟨out, bind25 h1 rfl, h2⟩
  case h =>
    rintro ⟨out, at_, i⟩ ⟨i1, i2, i3, i4, i5, i6, i7, i8⟩
    dsimp only at i1 i2 i3 i4 i5 i6 i7 i8 ⊢
    by_cases hi : i < (l.length : Int)
    · left
      have hb : 0 ≤ i ∧ i < (l.length : Int) := ⟨i1, hi⟩
      obtain ⟨r1, e1, p1, q1⟩ := round_ok (nth (0 : Int) l i) 3 (by decide) (by decide)
      obtain ⟨r2, e2, p2, q2⟩ := round_ok (IntKind.wrap .i64 (Int.tdiv (nth (0 : Int) l i) (3 : Int))) 4 (by decide) (by decide)
      obtain ⟨r3, e3, p3, q3⟩ := round_ok (IntKind.wrap .i64 (Int.tdiv (nth (0 : Int) l i) (12 : Int))) 26 (by decide) (by decide)
      obtain ⟨r4, e4, p4, q4⟩ := round_ok (nth (0 : Int) l i) 20 (by decide) (by decide)
      obtain ⟨t4, rfl⟩ := Int.eq_ofNat_of_zero_le p4
      have w4 : IntKind.wrap .i64 (1 + (t4 : Int)) = ((t4 + 1 : Nat) : Int) := by rw [wrap_i64 (by omega) (by omega)]; omega
      obtain ⟨s5, e5, z5⟩ := data25_ok (nth (0 : Int) l i) (t4 + 1) (by omega)
      have w1 : IntKind.wrap .u64 (at_ + IntKind.wrap .u64 r1) = at_ + r1 := by rw [wrap_u64 (n := r1) (by omega) (by omega), wrap_u64 (by omega) (by omega)]
      have w2 : IntKind.wrap .i64 (1 + r2) = 1 + r2 := wrap_i64 (by omega) (by omega)
      have wi : IntKind.wrap .i64 (i + 1) = i + 1 := wrap_i64 (by omega) (by omega)
      rw [decide_eq_true hi, cond_true, if_pos hb, e1, Option.bind_some]
      try dsimp only
      rw [if_pos hb, e2, Option.bind_some]
      try dsimp only
      rw [w1, w2, wi]
      -- one output more
      have fin : ∀ d : ByteArray, (1 + r2 = 1 → d.size = 1) → (1 + r2 = 2 → d.size ≤ 128) →
          ∃ x', (if (out.length + ([(1 + r2, at_ + r1, (0 : Int), d)] : List OutT).length) * 40 ≤ 70368744177664 then some (.inl ((out ++ ([(1 + r2, at_ + r1, (0 : Int), d)] : List OutT)), at_ + r1, i + 1)) else none : Option ((List OutT × Int × Int) ⊕ ((List (Int × Int × Int × ByteArray)) ⊕ (List (Int × Int × Int × ByteArray))))) = some (.inl x') ∧
            (0 ≤ x'.2.2 ∧ x'.2.2 ≤ l.length ∧ (x'.1.length : Int) = x'.2.2 ∧ Ordered x'.1 ∧ 1 ≤ x'.2.1 ∧ x'.2.1 ≤ 1 + 2 * x'.2.2 ∧ (∀ o ∈ x'.1, 1 ≤ o.2.1 ∧ o.2.1 ≤ x'.2.1) ∧ ∀ o ∈ x'.1, gateB o = true → okO o = true) ∧ ((l.length : Int) - x'.2.2).toNat < ((l.length : Int) - i).toNat := by
        intro d h1 h2
        rw [if_pos (by simp; omega)]
        refine ⟨_, rfl, ⟨by simp only; omega, by simp only; omega, by simp only [List.length_append, List.length_singleton]; omega, ?_, by simp only; omega, by simp only; omega, ?_, ?_⟩, by simp only; omega⟩
        · refine List.pairwise_append.2 ⟨i4, List.pairwise_singleton _ _, fun a ha b hb => ?_⟩
          rw [List.mem_singleton] at hb
          subst hb
          have := i7 a ha
          dsimp only
          omega
        · intro o ho
          rcases List.mem_append.1 ho with ho | ho
          · have := i7 o ho
            dsimp only; omega
          · rw [List.mem_singleton] at ho
            subst ho
            dsimp only; omega
        · intro o ho hg
          rcases List.mem_append.1 ho with ho | ho
          · exact i8 o ho hg
          · rw [List.mem_singleton] at ho
            subst ho
            unfold okO
            dsimp only
            by_cases c1 : 1 + r2 = 1
            · rw [if_pos c1, decide_eq_true (h1 c1)]; rfl
            · by_cases c2 : 1 + r2 = 2
              · rw [if_neg c1, if_pos c2, decide_eq_true (h2 c2)]; rfl
              · unfold gateB at hg
                dsimp only at hg
                rw [decide_eq_false c1, decide_eq_false c2] at hg
                cases hg
      by_cases c1 : 1 + r2 = 1
      · rw [decide_eq_true c1, cond_true, if_pos hb, e3, Option.bind_some, Option.bind_some]
        exact fin _ (fun _ => by rw [strOf_size]; rfl) (fun h => by omega)
      · rw [decide_eq_false c1, cond_false]
        by_cases c2 : 1 + r2 = 2
        · rw [decide_eq_true c2, cond_true, if_pos hb, if_pos hb, e4, Option.bind_some, w4, e5, Option.bind_some, Option.bind_some]
          exact fin _ (fun h => absurd h c1) (fun _ => by omega)
        · rw [decide_eq_false c2, cond_false, Option.bind_some]
          exact fin _ (fun h => absurd h c1) (fun h => absurd h c2)
    · right
      rw [decide_eq_false hi]
      exact ⟨_, rfl, out, rfl, ⟨by omega, i4, fun o ho => by have := i7 o ho; omega, i8⟩⟩

theorem sameGate_self (a : Gate) (hl : a.1.length ≤ 1000) : vmfleetref24_SameGate.f a a = some true := by
  unfold vmfleetref24_SameGate.f
  rw [decide_eq_true rfl, cond_true, decide_eq_true rfl, cond_true, same25 _ hl]
  rfl

/-- Holding the outputs at a fresh gate. -/
theorem hold0 {out : List OutT} {n : Nat} (h : Outs out n) (hn : n ≤ 1000) (a : Int) :
    holdC ([], a, 0) out = ((out.filter (fun o => gateB o && decide (a ≤ o.2.1)), a, (((out.filter (fun o => is1 o && decide (o.2.1 < a))).length : Nat) : Int)), true) := by
  unfold holdC
  have hlen := h.len
  rw [if_pos (show validL a [] = true from rfl), holdFold out [] a 0 (Int.le_refl 0) (by omega), List.nil_append, Int.zero_add]
  have hv : validL a (out.filter (fun o => gateB o && decide (a ≤ o.2.1))) = true := by
    refine valid_of _ a (List.Pairwise.filter _ h.ord) (fun o ho => ?_) (fun o ho => ?_)
    · obtain ⟨h1, h2⟩ := List.mem_filter.1 ho
      rw [Bool.and_eq_true] at h2
      exact h.ok o h1 h2.1
    · obtain ⟨h1, h2⟩ := List.mem_filter.1 ho
      rw [Bool.and_eq_true] at h2
      exact of_decide_eq_true h2.2
  dsimp only
  rw [if_pos hv]

theorem is1_gate {o : OutT} (h : is1 o = true) : gateB o = true := by
  unfold is1 at h
  unfold gateB
  rw [h]; rfl

theorem fil_zero {out : List OutT} {n : Nat} (h : Outs out n) : out.filter (fun o => gateB o && decide ((0 : Int) ≤ o.2.1)) = out.filter gateB := by
  refine List.filter_congr fun o ho => ?_
  have := h.at1 o ho
  rw [decide_eq_true (by omega), Bool.and_true]

theorem cnt_zero {out : List OutT} {n : Nat} (h : Outs out n) : out.filter (fun o => is1 o && decide (o.2.1 < (0 : Int))) = [] := by
  rw [List.filter_eq_nil_iff]
  intro o ho
  have := h.at1 o ho
  rw [decide_eq_false (by omega), Bool.and_false]
  decide

theorem hold00 {out : List OutT} {n : Nat} (h : Outs out n) (hn : n ≤ 1000) : holdC ([], 0, 0) out = ((out.filter gateB, 0, 0), true) := by
  rw [hold0 h hn 0, fil_zero h, cnt_zero h]
  rfl

theorem fil_valid {out : List OutT} {n : Nat} (h : Outs out n) {a : Int} (ha : a ≤ 1) : validL a (out.filter gateB) = true := by
  refine valid_of _ a (List.Pairwise.filter _ h.ord) (fun o ho => ?_) (fun o ho => ?_)
  · obtain ⟨h1, h2⟩ := List.mem_filter.1 ho
    exact h.ok o h1 h2
  · obtain ⟨h1, h2⟩ := List.mem_filter.1 ho
    have := h.at1 o h1
    omega

end Go.Proofs.Ytapngmfecjhlfaa.Fn
