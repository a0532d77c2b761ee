/- The law DiskPorts, in plain Lean: at every input its function is true. No condition but the arguments' ranges. -/
import Derived.Test.YteiepkkkphkncaaPureCh9
set_option linter.unusedVariables false
set_option linter.unusedSimpArgs false
namespace Go.Proofs.Yteiepkkkphkncaa.Fn
open Go Lift

theorem diskPorts (d : Dsk) (raw : Bool) (n pages port v : Int) (small : Bool) (at_ : Int) (hd : DskOk d) : vmfleetlaw9_DiskPorts.f d raw n pages port v small at_ = some true := by
  unfold vmfleetlaw9_DiskPorts.f
  rw [vmfleetlaw9_awake.ok]
  obtain ⟨r1, e1, hr⟩ := shaped9_ok d raw n hd
  obtain ⟨m, q, e2, q1, q2, hm, hu⟩ := words9_ok n pages
  rw [e1, e2]
  simp only [Option.bind_some]
  have hi : ∀ p : Int, ∃ x, disk_In.f r1 p = some x := by
    intro p
    unfold disk_In.f
    by_cases h4 : p = 4
    · exact ⟨_, by simp only [h4, decide_true, cond_true]; rfl⟩
    · by_cases h5 : p = 5
      · exact ⟨_, by simp only [h5, decide_true, decide_false, cond_true, cond_false, show ¬ (5 : Int) = 4 by decide]; rfl⟩
      · by_cases h6 : p = 6
        · exact ⟨_, by simp only [h6, decide_true, decide_false, cond_true, cond_false, show ¬ (6 : Int) = 4 by decide, show ¬ (6 : Int) = 5 by decide]; rfl⟩
        · exact ⟨_, by simp only [h4, h5, h6, decide_false, cond_false]; rfl⟩
  have e : ∀ p : Int, vmfleetref7_DiskIn.f r1 p = disk_In.f r1 p := fun p => rfl
  cases small with
  | false =>
    simp only [cond_false, Option.bind_some]
    obtain ⟨x, hx⟩ := hi port
    rw [dskOut_eqA hm (by omega) r1 hr, dskOut_eqR hm (by omega) r1 hr, req_eq, reqR_eq, e, hx]
    simp only [Option.bind_some, decide_true, cond_true, eqD_self]
    rw [sameOutputs9 _ (dskOut_len _ _ _ _ _ _)]
    simp
  | true =>
    obtain ⟨p, ep, _⟩ := round_ok port 5 (by decide) (by decide)
    simp only [cond_true, ep, Option.bind_some]
    obtain ⟨x, hx⟩ := hi (IntKind.wrap .i64 (3 + p))
    rw [dskOut_eqA hm (by omega) r1 hr, dskOut_eqR hm (by omega) r1 hr, req_eq, reqR_eq, e, hx]
    simp only [Option.bind_some, decide_true, cond_true, eqD_self]
    rw [sameOutputs9 _ (dskOut_len _ _ _ _ _ _)]
    simp

theorem vmfleetlaw9_DiskPorts.pure (x : (tup vmfleetlaw9_DiskPorts.sp.args).den) (h : WfL vmfleetlaw9_DiskPorts.sp.args x) : vmfleetlaw9_DiskPorts.sp.f x = some true :=
  diskPorts x.1 x.2.1 x.2.2.1 x.2.2.2.1 x.2.2.2.2.1 x.2.2.2.2.2.1 x.2.2.2.2.2.2.1 x.2.2.2.2.2.2.2 ⟨h.1.2.2.1.1, h.1.2.2.1.2, h.1.2.2.2.2.2.2.1.1, h.1.2.2.2.2.2.2.1.2⟩

end Go.Proofs.Yteiepkkkphkncaa.Fn
