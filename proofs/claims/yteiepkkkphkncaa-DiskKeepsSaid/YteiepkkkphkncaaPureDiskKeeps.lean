/- The law DiskKeeps, in plain Lean: at every input its function is true. No condition but the arguments' ranges. -/
import Derived.Test.YteiepkkkphkncaaPureCh9b
set_option linter.unusedVariables false
set_option linter.unusedSimpArgs false
namespace Go.Proofs.Yteiepkkkphkncaa.Fn
open Go Lift

theorem diskKeeps (d : Dsk) (raw : Bool) (n pages port v : Int) (hd : DskOk d) (hv : 0 ≤ v) : vmfleetlaw9_DiskKeeps.f d raw n pages port v = some true := by
  unfold vmfleetlaw9_DiskKeeps.f
  rw [vmfleetlaw9_awake.ok]
  obtain ⟨r1, e1, hr⟩ := shaped9_ok d raw n hd
  obtain ⟨m, q, e2, q1, q2, hm, hu⟩ := words9_ok n pages
  obtain ⟨b, e3, hb⟩ := may_iff r1 hr q
  rw [e1, e2, Option.bind_some, Option.bind_some, pagesR_eq hm (by omega), Option.bind_some, e3, Option.bind_some]
  cases b with
  | false => rfl
  | true =>
    have hmay := hb.1 rfl
    obtain ⟨p, ep, _⟩ := round_ok port 5 (by decide) (by decide)
    obtain ⟨ev, ee⟩ := event_some n
    have hv2 : 0 ≤ Int.tmod v 9 ∧ Int.tmod v 9 ≤ 4294967295 := by
      rw [Int.tmod_eq_emod_of_nonneg hv]; omega
    obtain ⟨a1, a2⟩ := out_may hm (by omega) hr hmay (port := IntKind.wrap .i64 (3 + p)) (at_ := 0) hv2
    obtain ⟨c1, c2, c3⟩ := complete_may (m := m) hr hmay ev
    obtain ⟨b2, e4, hb2⟩ := may_iff _ a2 q
    obtain ⟨b3, e5, hb3⟩ := may_iff _ c2 q
    have t2 := hb2.2 a1
    have t3 := hb3.2 c1
    subst t2; subst t3
    rw [Bool.not_true, cond_false, ep, Option.bind_some, dskOut_eqA hm (by omega) r1 hr, Option.bind_some, ee, Option.bind_some, complete_eq hm (by omega) r1 hr, Option.bind_some, e4, Option.bind_some, cond_true, e5, Option.bind_some, cond_true, c3]
    simp

theorem vmfleetlaw9_DiskKeeps.pure (x : (tup vmfleetlaw9_DiskKeeps.sp.args).den) (h : WfL vmfleetlaw9_DiskKeeps.sp.args x) : vmfleetlaw9_DiskKeeps.sp.f x = some true :=
  diskKeeps x.1 x.2.1 x.2.2.1 x.2.2.2.1 x.2.2.2.2.1 x.2.2.2.2.2 ⟨h.1.2.2.1.1, h.1.2.2.1.2, h.1.2.2.2.2.2.2.1.1, h.1.2.2.2.2.2.2.1.2⟩ h.2.2.2.2.2.1

end Go.Proofs.Yteiepkkkphkncaa.Fn
