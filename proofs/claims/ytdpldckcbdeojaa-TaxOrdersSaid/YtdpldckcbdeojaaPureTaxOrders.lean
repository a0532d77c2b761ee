/- The law TaxOrders, in plain Lean: at every input its function is true. -/
import Derived.Test.YtdpldckcbdeojaaPureCh37c
set_option linter.unusedVariables false
set_option linter.unusedSimpArgs false
namespace Go.Proofs.Ytdpldckcbdeojaa.Fn
open Go Lift

theorem poor_lazy {c : Clm} {t : Int} (hc : okC c) (ht : okT t) : poor (c.1, c.2.1, c.2.2.1, c.2.2.2.1, (0 : Int)) (c.1, c.2.1, c.2.2.1, c.2.2.2.1, (1000 : Int)) t = (decide (c.2.2.2.1 > 0) && decide (t > 0)) := by
  obtain ⟨h1, h2, h3, h4, h5, h6, h7, h8, h9⟩ := hc
  have k1 : okC (c.1, c.2.1, c.2.2.1, c.2.2.2.1, (0 : Int)) := ⟨h1, h2, h3, h4, h5, h6, h7, Int.le_refl 0, (by show (0 : Int) ≤ 1000; decide)⟩
  have k2 : okC (c.1, c.2.1, c.2.2.1, c.2.2.2.1, (1000 : Int)) := ⟨h1, h2, h3, h4, h5, h6, h7, (by show (0 : Int) ≤ 1000; decide), Int.le_refl 1000⟩
  have hi := poor_iff k1 k2 ht
  unfold rle costOf price at hi
  dsimp only at hi
  generalize hs : c.2.2.1 = s at *
  generalize hp : c.2.2.2.1 = p at *
  by_cases c1 : p > 0
  · by_cases c2 : t > 0
    · rw [decide_eq_true c1, decide_eq_true c2]
      refine hi.2 fun hle => ?_
      have g1 : p * (100000 - 1000 * t) < p * (100000 - 0 * t) := Int.mul_lt_mul_of_pos_left (by omega) c1
      have g2 := Int.mul_lt_mul_of_pos_right g1 (show 0 < s by omega)
      omega
    · have : t = 0 := by have := ht.1; omega
      subst this
      rw [decide_eq_true c1, decide_eq_false c2]
      cases hq : poor (c.1, c.2.1, s, p, (0 : Int)) (c.1, c.2.1, s, p, (1000 : Int)) 0 with
      | false => rfl
      | true => exact absurd (Int.le_refl _) (hi.1 hq)
  · have : p = 0 := by omega
    subst this
    rw [decide_eq_false c1, Bool.false_and]
    cases hq : poor (c.1, c.2.1, s, (0 : Int), (0 : Int)) (c.1, c.2.1, s, (0 : Int), (1000 : Int)) t with
    | false => rfl
    | true => exact absurd (by simp) (hi.1 hq)

theorem taxOrders (x y z tax : Int) : vmfleetlaw37_TaxOrders.f x y z tax = some true := by
  unfold vmfleetlaw37_TaxOrders.f
  rw [vmfleetlaw37_awake.ok]
  obtain ⟨a, ea, ha⟩ := claim_ok x
  obtain ⟨b, eb, hb⟩ := claim_ok y
  obtain ⟨c, ec, hc⟩ := claim_ok z
  obtain ⟨t, e4, t0, t1⟩ := round_ok tax 100 (by decide) (by decide)
  have ht : okT t := ⟨t0, by omega⟩
  rw [ea, Option.bind_some, eb, Option.bind_some, ec, Option.bind_some, e4, Option.bind_some]
  simp only [poorer_eq, Option.bind_some]
  rw [poor_lazy ha ht]
  have p1 : poor a a t = false := by
    cases h : poor a a t with
    | false => rfl
    | true => exact absurd (rle_refl t a) ((poor_iff ha ha ht).1 h)
  have p2 : poor a b t = true → poor b a t = false := by
    intro h
    cases h2 : poor b a t with
    | false => rfl
    | true => exact absurd ((rle_total t a b).resolve_left ((poor_iff ha hb ht).1 h)) ((poor_iff hb ha ht).1 h2)
  have p3 : poor a b t = true → poor b c t = true → poor a c t = true := by
    intro h1 h2
    refine (poor_iff ha hc ht).2 fun h3 => ?_
    have h4 := (rle_total t a b).resolve_left ((poor_iff ha hb ht).1 h1)
    exact (poor_iff hb hc ht).1 h2 (rle_trans hb ha hc h4 h3)
  rw [p1, cond_false]
  generalize decide (t > 0) = q
  cases h1 : poor a b t with
  | false =>
    cases decide (a.2.2.2.1 > 0) <;> cases decide (b.2.2.2.1 > 0) <;> cases decide (c.2.2.2.1 > 0) <;> cases q <;> rfl
  | true =>
    rw [p2 h1]
    cases h2 : poor b c t with
    | false => cases decide (a.2.2.2.1 > 0) <;> cases decide (b.2.2.2.1 > 0) <;> cases decide (c.2.2.2.1 > 0) <;> cases q <;> rfl
    | true =>
      rw [p3 h1 h2]
      cases decide (a.2.2.2.1 > 0) <;> cases decide (b.2.2.2.1 > 0) <;> cases decide (c.2.2.2.1 > 0) <;> cases q <;> rfl

theorem vmfleetlaw37_TaxOrders.pure (x : (tup vmfleetlaw37_TaxOrders.sp.args).den) (h : WfL vmfleetlaw37_TaxOrders.sp.args x) : vmfleetlaw37_TaxOrders.sp.f x = some true :=
  taxOrders x.1 x.2.1 x.2.2.1 x.2.2.2

end Go.Proofs.Ytdpldckcbdeojaa.Fn
