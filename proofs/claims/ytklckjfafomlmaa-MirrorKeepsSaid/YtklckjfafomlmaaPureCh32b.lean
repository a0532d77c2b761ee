/- The mirror in its laws (chapter 32), in plain Lean. -/
import Derived.Test.YtklckjfafomlmaaPureCh32
set_option linter.unusedVariables false
set_option linter.unusedSimpArgs false
namespace Go.Proofs.Ytklckjfafomlmaa.Fn
open Go Lift

theorem round_ok (n k : Int) (hk : 0 < k) (hk2 : k < 9223372036854775807) : ∃ r, vmfleetmake_Round.f n k = some r ∧ 0 ≤ r ∧ r < k := by
  unfold vmfleetmake_Round.f
  have h0 : ¬ k = 0 := by omega
  simp only [h0, if_false]
  have h1 := Int.tmod_lt_of_pos n hk
  have h2 : -k < Int.tmod n k := by have := Int.lt_tmod_of_pos n hk; omega
  by_cases h : Int.tmod n k < 0
  · simp only [h, decide_true, cond_true, Option.some.injEq, exists_eq_left']
    rw [wrap_i64 (by omega) (by omega)]
    omega
  · simp only [h, decide_false, cond_false, Option.some.injEq, exists_eq_left']
    omega

theorem mix_ok (n k : Int) : ∃ r, vmfleetmake_Mix.f n k = some r := by
  unfold vmfleetmake_Mix.f vmfleetref1_Next.f
  exact ⟨_, rfl⟩

theorem data32_ok (n : Int) (k : Nat) (hk : k ≤ 1000000) : ∃ s, vmfleetmake_Data.f n k = some s ∧ s.size = k := by
  unfold vmfleetmake_Data.f
  have hl : ∃ y : List Int ⊕ ByteArray, loop (Y := List Int ⊕ ByteArray) (fun (x1 : List Int × Int) =>
      bif decide (x1.2 < (k : Int)) then
        (vmfleetmake_Mix.f n (IntKind.wrap .i64 (Int.tdiv x1.2 (9 : Int)))).bind fun r1 =>
        if (x1.1.length + ([IntKind.wrap .u8 r1] : List Int).length) * 1 ≤ 70368744177664 then
          some (.inl ((x1.1 ++ ([IntKind.wrap .u8 r1] : List Int)), IntKind.wrap .i64 (x1.2 + 1)))
        else none
      else
        some (.inr (.inl x1.1))) ([], (0 : Int)) = some y ∧ ∃ l, y = .inl l ∧ l.length = k := by
    refine loop_ind (I := fun x => 0 ≤ x.2 ∧ x.2 ≤ (k : Int) ∧ (x.1.length : Int) = x.2) (fun x => ((k : Int) - x.2).toNat) ⟨by decide, by simp, by simp⟩ fun x hI => ?_
    obtain ⟨l, i⟩ := x
    obtain ⟨i1, i2, i3⟩ := hI
    simp only at i1 i2 i3 ⊢
    by_cases hi : i < k
    · left
      obtain ⟨r, hr⟩ := mix_ok n (IntKind.wrap .i64 (Int.tdiv i 9))
      have hs : (l.length + ([IntKind.wrap .u8 r] : List Int).length) * 1 ≤ 70368744177664 := by simp; omega
      simp only [hi, decide_true, cond_true, hr, Option.bind_some, hs, if_true]
      rw [wrap_i64 (by omega) (by omega)]
      exact ⟨_, rfl, ⟨by simp only; omega, by simp only; omega, by simp; omega⟩, by simp only; omega⟩
    · right
      exact ⟨.inl l, by simp only [hi, decide_false, cond_false], l, rfl, by omega⟩
  obtain ⟨y, hy, l, rfl, hlen⟩ := hl
  rw [hy]
  exact ⟨strOf l, rfl, by rw [strOf_size]; exact hlen⟩

theorem plan_blocks (n : Int) : ∃ s, vmfleetplan_Blocks.f n = some s ∧ Blk s ∧ s.length = 4 := by
  unfold vmfleetplan_Blocks.f
  have key := loop_ind (step := (fun (x1 : List ByteArray × Int) =>
    bif decide (x1.2 < 4) then
      (vmfleetmake_Data.f (IntKind.wrap .i64 (n + x1.2)) (128 : Int)).bind fun r1 =>
      if (x1.1.length + ([r1] : List ByteArray).length) * 16 ≤ 70368744177664 then
        some (.inl (x1.1 ++ ([r1] : List ByteArray), IntKind.wrap .i64 (x1.2 + 1)))
      else none
    else
      some (.inr (.inl x1.1)))) (I := fun x : List ByteArray × Int => 0 ≤ x.2 ∧ x.2 ≤ 4 ∧ (x.1.length : Int) = x.2 ∧ ∀ s ∈ x.1, s.size = 128) (Q := fun y : List ByteArray ⊕ List ByteArray => ∃ s, y = .inl s ∧ Blk s ∧ s.length = 4)
    (fun x => (4 - x.2).toNat) (x := ([], (0 : Int))) ⟨Int.le_refl 0, by simp only; omega, rfl, by simp⟩ (fun x hI => by
      obtain ⟨l, i⟩ := x
      obtain ⟨i1, i2, i3, i4⟩ := hI
      dsimp only at i1 i2 i3 i4 ⊢
      by_cases hi : i < 4
      · left
        obtain ⟨s, es, zs⟩ := data32_ok (IntKind.wrap .i64 (n + i)) 128 (by decide)
        have es : vmfleetmake_Data.f (IntKind.wrap .i64 (n + i)) (128 : Int) = some s := es
        rw [decide_eq_true hi, cond_true, es, Option.bind_some, if_pos (by simp; omega), wrap_i64 (by omega) (by omega)]
        refine ⟨_, rfl, ⟨by simp only; omega, by simp only; omega, by simp only [List.length_append, List.length_singleton]; omega, fun t ht => ?_⟩, by simp only; omega⟩
        rcases List.mem_append.1 ht with ht | ht
        · exact i4 t ht
        · rw [List.mem_singleton] at ht; subst ht; exact zs
      · right
        rw [decide_eq_false hi]
        exact ⟨_, rfl, l, rfl, ⟨by omega, by omega, i4⟩, by omega⟩)
  obtain ⟨y, h1, s, rfl, h2, h3⟩ := key
  exact ⟨s, bind32 h1 rfl, h2, h3⟩

theorem copyN_len (m : Mir) (k : Nat) : (copyN m k).1.length = m.1.length := rfl
theorem copyN_cur (m : Mir) (k : Nat) : (copyN m k).2.2 = m.2.2 + k := rfl

theorem copyN_add {m : Mir} (h : MOk m) {a b : Nat} (hk : m.2.2 + (a : Int) ≤ m.1.length) : copyN (copyN m a) b = copyN m (a + b) := by
  have hl := h.len
  have c0 := h.c0
  have c1 := h.c1
  unfold copyN
  dsimp only
  have e : (m.2.2 + (a : Int)).toNat + b = m.2.2.toNat + (a + b) := by omega
  have e2 : m.2.2 + (a : Int) + (b : Int) = m.2.2 + ((a + b : Nat) : Int) := by omega
  have ht : (m.1.take (m.2.2.toNat + a)).length = m.2.2.toNat + a := by rw [List.length_take]; omega
  rw [e, e2, List.drop_append, ht, List.drop_eq_nil_of_le (by omega), List.nil_append, List.drop_drop]
  rw [show m.2.2.toNat + a + (m.2.2.toNat + (a + b) - (m.2.2.toNat + a)) = m.2.2.toNat + (a + b) by omega]

end Go.Proofs.Ytklckjfafomlmaa.Fn
