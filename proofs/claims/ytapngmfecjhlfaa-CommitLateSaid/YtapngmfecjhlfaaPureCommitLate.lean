/- The law CommitLate, in plain Lean: at every input its function is true. -/
import Derived.Test.YtapngmfecjhlfaaPureCh25b
set_option linter.unusedVariables false
set_option linter.unusedSimpArgs false
namespace Go.Proofs.Ytapngmfecjhlfaa.Fn
open Go Lift

theorem commitLate (l : List Int) (mark : Int) (hm : 0 ≤ mark) : vmfleetlaw25_CommitLate.f l mark = some true := by
  unfold vmfleetlaw25_CommitLate.f
  rw [vmfleetlaw25_awake.ok]
  by_cases c1 : (l.length : Int) > 40
  · rw [decide_eq_true c1]; rfl
  by_cases c2 : mark > 1000
  · rw [decide_eq_false c1, decide_eq_true c2]; rfl
  rw [decide_eq_false c1, decide_eq_false c2, cond_false, cond_false]
  obtain ⟨out, e, h⟩ := outs_ok l (by omega)
  have hlen := h.len
  have hF : (out.filter gateB).length ≤ 40 := Nat.le_trans (List.length_filter_le _ _) (by omega)
  have hO : Ordered (out.filter gateB) := List.Pairwise.filter _ h.ord
  rw [e, Option.bind_some, hold_eq _ _ (by simp) (by omega), Option.bind_some, hold00 h (by omega)]
  dsimp only
  rw [rel_eq _ _ (by simp only; omega), Option.bind_some, rel_eq _ _ (by simp), Option.bind_some]
  have e2 : (relC ([], 0, 0) mark).1 = ([], mark, 0) := by
    by_cases c : 0 < mark
    · rw [relC_eq ([], 0, 0) mark rfl c (Int.le_refl 0) (by simp)]
      rfl
    · have : mark = 0 := by omega
      subst this
      rw [relC_no _ _ (Int.le_refl 0)]
  have e1 : (relC (out.filter gateB, 0, 0) mark).1 = (holdC ([], mark, 0) out).1 := by
    rw [hold0 h (by omega)]
    by_cases c : 0 < mark
    · rw [relC_eq (out.filter gateB, 0, 0) mark (fil_valid h (a := 0) (by decide)) c (Int.le_refl 0) (by simp only; omega)]
      dsimp only
      rw [dw_filter _ _ hO, tw_filter _ _ hO, List.filter_filter]
      have a1 : out.filter (fun o => decide (mark ≤ o.2.1) && gateB o) = out.filter (fun o => gateB o && decide (mark ≤ o.2.1)) := List.filter_congr fun o _ => Bool.and_comm _ _
      have a2 : n1 ((out.filter gateB).filter fun o => decide (o.2.1 < mark)) = (out.filter (fun o => is1 o && decide (o.2.1 < mark))).length := by
        unfold n1
        rw [List.filter_filter, List.filter_filter]
        congr 1
        refine List.filter_congr fun o _ => ?_
        cases hi : is1 o with
        | false => rfl
        | true => rw [is1_gate hi]; cases decide (o.2.1 < mark) <;> rfl
      rw [a1, a2, Int.zero_add]
    · have : mark = 0 := by omega
      subst this
      rw [relC_no _ _ (Int.le_refl 0), fil_zero h, cnt_zero h]
      rfl
  rw [e2, hold_eq _ _ (by simp) (by omega), Option.bind_some, e1]
  have e3 : (holdC ([], mark, 0) out).2 = true := by rw [hold0 h (by omega)]
  have e4 : (holdC ([], mark, 0) out).1.1.length ≤ 1000 := by
    rw [hold0 h (by omega)]
    exact Nat.le_trans (List.length_filter_le _ _) (by omega)
  rw [e3, cond_true, cond_true, sameGate_self _ e4]
  rfl

theorem vmfleetlaw25_CommitLate.pure (x : (tup vmfleetlaw25_CommitLate.sp.args).den) (h : WfL vmfleetlaw25_CommitLate.sp.args x) : vmfleetlaw25_CommitLate.sp.f x = some true :=
  commitLate x.1 x.2 h.2.1

end Go.Proofs.Ytapngmfecjhlfaa.Fn
