/- The law AdmitAdds, in plain Lean: at every input its function is true. No condition but the arguments' ranges. -/
import Derived.Test.YtacmfiddaklkiaaPureCh39
set_option linter.unusedVariables false
set_option linter.unusedSimpArgs false
namespace Go.Proofs.Ytacmfiddaklkiaa.Fn
open Go Lift

theorem admitAdds (l : List Int) (n m c : Int) : vmfleetlaw39_AdmitAdds.f l n m c = some true := by
  unfold vmfleetlaw39_AdmitAdds.f
  rw [admit_awake]
  by_cases hl : (l.length : Int) > 12
  · simp [hl]
  simp only [hl, decide_false, cond_false]
  obtain ⟨r2, e2, _⟩ := round_some m 60 (by decide) (by decide)
  obtain ⟨r3, e3, _⟩ := round_some c 60 (by decide) (by decide)
  obtain ⟨ds, e4, h4, _⟩ := demands_some l (by omega)
  obtain ⟨d, e5⟩ := demand_some n
  rw [e2, e3, e4, e5]
  simp only [Option.bind_some]
  rw [fits_eq _ _ (by omega)]
  simp only [Option.bind_some, admit_eq]
  cases hf : fitsOf (r2, r3, true) ds with
  | false => simp
  | true =>
    have hs : (ds.length + ([d] : List Dem).length) * 32 ≤ 70368744177664 := by simp; omega
    simp only [Bool.not_true, cond_false, hs, if_true]
    rw [fits_eq _ _ (by simp; omega), fitsOf_snoc, hf]
    simp

theorem vmfleetlaw39_AdmitAdds.pure (x : (tup vmfleetlaw39_AdmitAdds.sp.args).den) (h : WfL vmfleetlaw39_AdmitAdds.sp.args x) : vmfleetlaw39_AdmitAdds.sp.f x = some true := admitAdds x.1 x.2.1 x.2.2.1 x.2.2.2

end Go.Proofs.Ytacmfiddaklkiaa.Fn
