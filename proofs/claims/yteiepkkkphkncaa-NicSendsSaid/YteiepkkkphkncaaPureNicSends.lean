/- The law NicSends, in plain Lean: at every input its function is true. No condition but the arguments' ranges. -/
import Derived.Test.YteiepkkkphkncaaPureCh10
set_option linter.unusedVariables false
set_option linter.unusedSimpArgs false
namespace Go.Proofs.Yteiepkkkphkncaa.Fn
open Go Lift

theorem nicSends (k pages frame length : Int) (hf : 0 ≤ frame) (hl : 0 ≤ length) : vmfleetlaw10_NicSends.f k pages frame length = some true := by
  unfold vmfleetlaw10_NicSends.f
  rw [vmfleetlaw10_awake.ok]
  obtain ⟨m, q, e2, q1, q2, hm, hu⟩ := words10_ok k pages
  rw [e2]
  simp only [Option.bind_some]
  have t1 : 0 ≤ Int.tmod frame 8 ∧ Int.tmod frame 8 < 8 := by rw [Int.tmod_eq_emod_of_nonneg hf]; omega
  have t2 : 0 ≤ Int.tmod length 140 ∧ Int.tmod length 140 < 140 := by rw [Int.tmod_eq_emod_of_nonneg hl]; omega
  generalize Int.tmod frame 8 = f at t1 ⊢
  generalize Int.tmod length 140 = n at t2 ⊢
  obtain ⟨g, rfl⟩ := Int.eq_ofNat_of_zero_le t1.1
  have hok : NicOk ((g : Int), n, false, 0, false, 0) := ⟨by simp only; omega, by simp only; omega, t2.1, Int.le_refl 0, (by show (0 : Int) ≤ 4294967295; decide)⟩
  rw [nicOut_eqA hm (by omega) _ hok, wrap_i64 (by omega) (by omega), pageR_eq hm (by omega)]
  have hgk : ((g : Int) < (q : Int)) ↔ g < q := by omega
  by_cases h1 : g < q
  · have hsz := pageOf_size hm (by omega) h1
    by_cases h2 : 1 ≤ n
    · have g2 : ¬ n < 1 := by omega
      by_cases h3 : n ≤ 128
      · have g3 : ¬ n > 128 := by omega
        have e : nicOut ((g : Int), n, false, 0, false, 0) m q 9 1 9 = (((g : Int), n, false, 0, false, 0), [(2, 9, 0, cut (pageOf m g) 0 n)]) := by
          simp [nicOut, hgk, h1, h2, h3]
        rw [e]
        have hs : 0 ≤ n ∧ n ≤ ((pageOf m g).size : Int) := by omega
        have e9 : nth ((0 : Int), (0 : Int), (0 : Int), (⟨#[]⟩ : ByteArray)) [(2, 9, 0, cut (pageOf m g) 0 n)] 0 = (2, 9, 0, cut (pageOf m g) 0 n) := rfl
        simp only [Option.bind_some, h1, if_true, Bool.not_true, cond_false, g2, g3, decide_false, decide_true, cond_true, List.length_singleton, hs, and_self, e9]
        simp
      · have g3 : n > 128 := by omega
        have e : nicOut ((g : Int), n, false, 0, false, 0) m q 9 1 9 = (((g : Int), n, false, 0, false, 0), []) := by
          simp [nicOut, h3]
        rw [e]
        simp [h1, g2, g3]
    · have g2 : n < 1 := by omega
      have e : nicOut ((g : Int), n, false, 0, false, 0) m q 9 1 9 = (((g : Int), n, false, 0, false, 0), []) := by
        simp [nicOut, h2]
      rw [e]
      simp [h1, g2]
  · have e : nicOut ((g : Int), n, false, 0, false, 0) m q 9 1 9 = (((g : Int), n, false, 0, false, 0), []) := by
      simp [nicOut, hgk, h1]
    rw [e]
    simp [h1]

theorem vmfleetlaw10_NicSends.pure (x : (tup vmfleetlaw10_NicSends.sp.args).den) (h : WfL vmfleetlaw10_NicSends.sp.args x) : vmfleetlaw10_NicSends.sp.f x = some true :=
  nicSends x.1 x.2.1 x.2.2.1 x.2.2.2 h.2.2.1.1 h.2.2.2.1

end Go.Proofs.Yteiepkkkphkncaa.Fn
