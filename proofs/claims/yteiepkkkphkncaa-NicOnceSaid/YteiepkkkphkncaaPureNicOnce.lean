/- The law NicOnce, in plain Lean: at every list and number of pages its function is true. No condition but the arguments' ranges. -/
import Derived.Test.YteiepkkkphkncaaPureNicKeeps
set_option linter.unusedVariables false
set_option linter.unusedSimpArgs false
namespace Go.Proofs.Yteiepkkkphkncaa.Fn
open Go Lift

/-- The card as the law sees it: what is posted, what is there. -/
def card (p h : Bool) (z : Int) : Nic := (0, 0, p, 0, h, z)

theorem card_ok (p h : Bool) (z : Int) : NicOk (card p h z) := ⟨Int.le_refl 0, (by show (0 : Int) ≤ 4294967295; decide), Int.le_refl 0, Int.le_refl 0, (by show (0 : Int) ≤ 4294967295; decide)⟩

theorem card_post {m : List Int} {k : Nat} (h1 : 1 ≤ k) (p h : Bool) (z : Int) : (nicOut (card p h z) m k 9 2 0).1 = card (p || !h) h z := by
  have h2 : (0 : Int) < k := by omega
  have h3 : 0 < k := by omega
  cases p <;> cases h <;> simp [nicOut, card, h2, h3]

theorem card_ack {m : List Int} {k : Nat} (p h : Bool) (z : Int) : (nicOut (card p h z) m k 9 0 0).1 = card p false 0 := by
  simp [nicOut, card]

theorem card_in (p h : Bool) (z : Int) : nic_In.f (card p h z) 9 = some (IntKind.wrap .u32 ((if p = true then 1 else 0) + IntKind.wrap .u32 (2 * (if h = true then 1 else 0)))) := by
  cases p <;> cases h <;> rfl

theorem bit_eq (b : Bool) : vmfleetlaw10_bit.f b = some (if b = true then 1 else 0) := by cases b <;> rfl

theorem nicOnce (a : List Int) (p : Int) : vmfleetlaw10_NicOnce.f a p = some true := by
  unfold vmfleetlaw10_NicOnce.f
  rw [vmfleetlaw10_awake.ok]
  by_cases hl : (a.length : Int) > 60
  · simp [hl]
  simp only [hl, decide_false, cond_false]
  obtain ⟨m0, k, e2, q1, q2, hm0, hu0⟩ := words10_ok p p
  rw [e2]
  simp only [Option.bind_some]
  refine Option.bind_eq_some_iff.2 ?_
  refine loop_ind (I := fun x => 0 ≤ x.2.2.2.2 ∧ x.2.2.2.2 ≤ (a.length : Int) ∧ x.1.length = 32 * k ∧ (∃ z, x.2.1 = card x.2.2.1 x.2.2.2.1 z) ∧ (x.2.2.1 && x.2.2.2.1) = false) (fun x => ((a.length : Int) - x.2.2.2.2).toNat) ⟨Int.le_refl 0, by simp, hm0, ⟨0, rfl⟩, rfl⟩ fun x hI => ?_
  obtain ⟨m, n, P, H, i⟩ := x
  obtain ⟨i1, i2, hm, ⟨z, hn⟩, hPH⟩ := hI
  simp only at i1 i2 hm hn hPH ⊢
  subst hn
  by_cases hi : i < (a.length : Int)
  · left
    have hb : 0 ≤ i ∧ i < (a.length : Int) := ⟨i1, hi⟩
    have hwi : IntKind.wrap .i64 (i + 1) = i + 1 := wrap_i64 (by omega) (by omega)
    obtain ⟨r, er, hr1, hr2⟩ := round_ok (nth (0 : Int) a i) 3 (by decide) (by decide)
    simp only [hi, decide_true, cond_true, hb, and_self, if_true, er, Option.bind_some, hwi]
    -- what follows each step
    have tail : ∀ (m' : List Int) (P' H' : Bool) (z' : Int), m'.length = 32 * k → (P' && H') = false → ∃ x', ((nic_Pending.f (card P' H' z')).bind fun r8 =>
        bif !(r8 == H') then (some (.inr (.inr false)) : Option ((List Int × Nic × Bool × Bool × Int) ⊕ (Unit ⊕ Bool))) else
          (nic_In.f (card P' H' z') 9).bind fun r9 => (vmfleetlaw10_bit.f P').bind fun r10 => (vmfleetlaw10_bit.f H').bind fun r11 =>
            bif !decide (r9 = (IntKind.wrap .u32 (r10 + (IntKind.wrap .u32 (2 * r11))))) then some (.inr (.inr false))
            else some (.inl (m', card P' H' z', P', H', i + 1))) = some (.inl x') ∧
          (0 ≤ x'.2.2.2.2 ∧ x'.2.2.2.2 ≤ (a.length : Int) ∧ x'.1.length = 32 * k ∧ (∃ z, x'.2.1 = card x'.2.2.1 x'.2.2.2.1 z) ∧ (x'.2.2.1 && x'.2.2.2.1) = false) ∧ ((a.length : Int) - x'.2.2.2.2).toNat < ((a.length : Int) - i).toNat := by
      intro m' P' H' z' hm' hPH'
      have ep : nic_Pending.f (card P' H' z') = some H' := rfl
      rw [ep, card_in, bit_eq, bit_eq]
      simp only [Option.bind_some, beq_self_eq_true, Bool.not_true, cond_false, decide_true]
      exact ⟨_, rfl, ⟨by simp only; omega, by simp only; omega, hm', ⟨z', rfl⟩, hPH'⟩, by simp only; omega⟩
    by_cases r0 : r = 0
    · simp only [r0, decide_true, cond_true]
      rw [nicOut_eqA hm (by omega) _ (card_ok P H z)]
      simp only [Option.bind_some, card_post q1]
      cases P with
      | true =>
        simp only [cond_true, Option.bind_some, Bool.true_or]
        exact tail m true H z hm hPH
      | false =>
        simp only [cond_false, Option.bind_some, Bool.false_or]
        exact tail m (!H) H z hm (by cases H <;> rfl)
    · by_cases r1 : r = 1
      · simp only [r1, show ¬ (1 : Int) = 0 by decide, decide_true, decide_false, cond_true, cond_false]
        obtain ⟨d, ed, hd⟩ := data_ok (nth (0 : Int) a i) 5 (by decide)
        have ed : vmfleetmake_Data.f (nth (0 : Int) a i) (5 : Int) = some d := ed
        simp only [ed, Option.bind_some]
        rw [nicReceive_eq hm (by omega) _ (card_ok P H z)]
        cases P with
        | true =>
          have hH : H = false := by simpa using hPH
          subst hH
          have hk : (0 : Int) < k := by omega
          have e : nicReceive (card true false z) m k d = (card false true 5, setP m 0 (d ++ cut (pageOf m 0) d.size 128), true) := by
            unfold nicReceive
            rw [if_pos ⟨rfl, by omega, by omega, hk⟩]
            simp [card, hd]
          rw [e]
          simp only [Option.bind_some, cond_true, Bool.not_false, beq_self_eq_true, Bool.not_true, cond_false]
          exact tail _ false true 5 (by rw [setP_len]; exact hm) rfl
        | false =>
          have e : nicReceive (card false H z) m k d = (card false H z, m, false) := by
            unfold nicReceive
            rw [if_neg fun h => by simp [card] at h]
          rw [e]
          simp only [Option.bind_some, cond_false, beq_self_eq_true, Bool.not_true]
          exact tail m false H z hm hPH
      · have r2 : r = 2 := by omega
        simp only [r2, show ¬ (2 : Int) = 0 by decide, show ¬ (2 : Int) = 1 by decide, decide_true, decide_false, cond_true, cond_false]
        rw [nicOut_eqA hm (by omega) _ (card_ok P H z)]
        simp only [Option.bind_some, card_ack]
        exact tail m P false 0 hm (by cases P <;> rfl)
  · right
    exact ⟨.inl (), by simp only [hi, decide_false, cond_false], rfl⟩

theorem vmfleetlaw10_NicOnce.pure (x : (tup vmfleetlaw10_NicOnce.sp.args).den) (h : WfL vmfleetlaw10_NicOnce.sp.args x) : vmfleetlaw10_NicOnce.sp.f x = some true := nicOnce x.1 x.2

end Go.Proofs.Yteiepkkkphkncaa.Fn
