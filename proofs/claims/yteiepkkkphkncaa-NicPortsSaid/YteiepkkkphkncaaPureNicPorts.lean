/- The law NicPorts, in plain Lean: at every input its function is true. No condition but the arguments' ranges. -/
import Derived.Test.YteiepkkkphkncaaPureCh10
set_option linter.unusedVariables false
set_option linter.unusedSimpArgs false
namespace Go.Proofs.Yteiepkkkphkncaa.Fn
open Go Lift

theorem nicOut_len (n : Nic) (m : List Int) (k : Nat) (port v at_ : Int) : (nicOut n m k port v at_).2.length ≤ 1000000 := by
  unfold nicOut
  repeat' split
  all_goals simp

theorem nicPorts (n : Nic) (raw : Bool) (k pages port v : Int) (small : Bool) (at_ : Int) (hn : NicOk n) : vmfleetlaw10_NicPorts.f n raw k pages port v small at_ = some true := by
  unfold vmfleetlaw10_NicPorts.f
  rw [vmfleetlaw10_awake.ok]
  obtain ⟨r1, e1, hr⟩ := shaped10_ok n raw k hn
  obtain ⟨m, q, e2, q1, q2, hm, hu⟩ := words10_ok k pages
  rw [e1, e2]
  simp only [Option.bind_some]
  have key : ∀ y : Int × Int, ((nic_Out.f r1 m y.1 y.2 at_).bind fun r4 => (vmfleetref7_NicOut.f r1 m y.1 y.2 at_).bind fun r5 => (nic_In.f r1 y.1).bind fun r6 => (vmfleetref7_NicIn.f r1 y.1).bind fun r7 =>
      bif decide (r6 = r7) then bif decide (r4.1 = r5.1) then (vmfleetref7_SameOutputs.f r4.2 r5.2).bind fun r8 => bif r8 then (some true).bind fun r9 => some r9 else some false else some false else some false) = some true := by
    intro y
    rw [nicOut_eqA hm (by omega) r1 hr, nicOut_eqR hm (by omega) r1 hr]
    have e : vmfleetref7_NicIn.f r1 y.1 = nic_In.f r1 y.1 := rfl
    rw [e]
    have hi : ∃ x, nic_In.f r1 y.1 = some x := by
      unfold nic_In.f
      by_cases h7 : y.1 = 7
      · exact ⟨_, by simp only [h7, decide_true, cond_true]; rfl⟩
      · by_cases h8 : y.1 = 8
        · exact ⟨_, by simp only [h8, decide_true, decide_false, cond_true, cond_false, show ¬ (8 : Int) = 7 by decide]; rfl⟩
        · by_cases h9 : y.1 = 9
          · simp only [h9, decide_true, decide_false, cond_true, cond_false, show ¬ (9 : Int) = 7 by decide, show ¬ (9 : Int) = 8 by decide]
            cases r1.2.2.1 <;> cases r1.2.2.2.2.1 <;> exact ⟨_, rfl⟩
          · exact ⟨_, by simp only [h7, h8, h9, decide_false, cond_false]; rfl⟩
    obtain ⟨x, hx⟩ := hi
    rw [hx]
    simp only [Option.bind_some, decide_true, cond_true]
    rw [sameOutputs_refl _ (nicOut_len _ _ _ _ _ _)]
    simp
  cases small with
  | false => simp only [cond_false, Option.bind_some]; exact key (port, v)
  | true =>
    obtain ⟨p, ep, _⟩ := round_ok port 5 (by decide) (by decide)
    simp only [cond_true, ep, Option.bind_some]
    exact key (IntKind.wrap .i64 (6 + p), Int.tmod v 5)

theorem vmfleetlaw10_NicPorts.pure (x : (tup vmfleetlaw10_NicPorts.sp.args).den) (h : WfL vmfleetlaw10_NicPorts.sp.args x) : vmfleetlaw10_NicPorts.sp.f x = some true :=
  nicPorts x.1 x.2.1 x.2.2.1 x.2.2.2.1 x.2.2.2.2.1 x.2.2.2.2.2.1 x.2.2.2.2.2.2.1 x.2.2.2.2.2.2.2 ⟨h.1.1.1, h.1.1.2, h.1.2.1.1, h.1.2.2.2.1.1, h.1.2.2.2.1.2⟩

end Go.Proofs.Yteiepkkkphkncaa.Fn
