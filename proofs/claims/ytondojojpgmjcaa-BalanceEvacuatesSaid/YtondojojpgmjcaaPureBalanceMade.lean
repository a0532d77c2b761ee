/- The law BalanceMade, in plain Lean: at every input its function is true. -/
import Derived.Test.YtondojojpgmjcaaPureBalanceTells
set_option linter.unusedVariables false
set_option linter.unusedSimpArgs false
namespace Go.Proofs.Ytondojojpgmjcaa.Fn
open Go Lift

noncomputable def capOf (n : Int) : Cap := match vmfleetmake_Mix.f n 61 with
  | some r1 => (IntKind.wrap .i64 (6 + (andI .i64 r1 (15 : Int))), IntKind.wrap .i64 (6 + andI .i64 (shrI .i64 r1 (4 : Int)) (15 : Int)), !decide (andI .i64 (shrI .i64 r1 (8 : Int)) (7 : Int) = 0))
  | none => (0, 0, false)
noncomputable def demOf (n : Int) : Dem := match vmfleetmake_Mix.f n 62 with
  | some r2 => (IntKind.wrap .i64 (1 + (andI .i64 r2 (3 : Int))), IntKind.wrap .i64 (IntKind.wrap .i64 (1 + (andI .i64 r2 (3 : Int))) + andI .i64 (shrI .i64 r2 (7 : Int)) (3 : Int)), andI .i64 (shrI .i64 r2 (2 : Int)) (3 : Int), max (0 : Int) (IntKind.wrap .i64 ((andI .i64 (shrI .i64 r2 (4 : Int)) (7 : Int)) - 4)))
  | none => (0, 0, 0, 0)

theorem mix_some (n k : Int) : ∃ r, vmfleetmake_Mix.f n k = some r := by
  unfold vmfleetmake_Mix.f vmfleetref1_Next.f
  exact ⟨_, rfl⟩

theorem foldE_snoc {α β Z : Type} (g : α → β) (fin : List β → Z) : ∀ (l : List α) (s : List β), foldE (fun s x => .inl (s ++ [g x])) fin s l = fin (s ++ l.map g)
  | [], s => by simp [foldE]
  | x :: l, s => by
    simp only [foldE, List.map_cons]
    rw [foldE_snoc g fin l]
    simp

theorem problem_eq (hosts l : List Int) (h1 : hosts.length ≤ 1000) (h2 : l.length ≤ 1000) : vmfleetlaw40_problem.f hosts l = some (hosts.map capOf, l.map demOf) := by
  unfold vmfleetlaw40_problem.f
  refine bindE (loop_list (fun (s : List Cap) i => (s, i)) hosts (fun s x => .inl (s ++ [capOf x])) (fun s => .inl s) [] (fun s i => s.length ≤ i) (Nat.le_refl _) (fun i x s hx hI => ⟨?_, fun s' hs' => ?_⟩) (fun s _ => ?_)) ?_
  rotate_left 3
  · rw [foldE_snoc]
    dsimp only
    refine bindE (loop_list (fun (s : List Dem) i => (s, i)) l (fun s x => .inl (s ++ [demOf x])) (fun s => .inl s) [] (fun s i => s.length ≤ i) (Nat.le_refl _) (fun i x s hx hI => ⟨?_, fun s' hs' => ?_⟩) (fun s _ => ?_)) ?_
    rotate_left 3
    · rw [foldE_snoc]
      rfl
    · have hi := idx_lt hx
      have hb : 0 ≤ (i : Int) ∧ (i : Int) < l.length := ⟨by omega, hi⟩
      obtain ⟨r, hr⟩ := mix_some x 62
      simp only [hi, decide_true, cond_true, hb, and_self, if_true, nth_some hx, hr, Option.bind_some]
      rw [wrap_i64 (n := (i : Int) + 1) (by omega) (by omega), if_pos (by simp only [List.length_singleton]; omega)]
      simp only [demOf, hr]
    · cases hs'
      simp
      omega
    · simp only [Int.lt_irrefl, decide_false, cond_false]
  · have hi := idx_lt hx
    have hb : 0 ≤ (i : Int) ∧ (i : Int) < hosts.length := ⟨by omega, hi⟩
    obtain ⟨r, hr⟩ := mix_some x 61
    simp only [hi, decide_true, cond_true, hb, and_self, if_true, nth_some hx, hr, Option.bind_some]
    rw [wrap_i64 (n := (i : Int) + 1) (by omega) (by omega), if_pos (by simp only [List.length_singleton]; omega)]
    simp only [capOf, hr]
  · cases hs'
    simp
    omega
  · simp only [Int.lt_irrefl, decide_false, cond_false]

theorem balanceMade (hosts l : List Int) (n most host : Int) : vmfleetlaw40_BalanceMade.f hosts l n most host = some true := by
  unfold vmfleetlaw40_BalanceMade.f
  rw [vmfleetlaw40_awake.ok]
  by_cases h1 : (hosts.length : Int) < 1
  · simp [h1]
  by_cases h2 : (hosts.length : Int) > 4
  · simp [h1, h2]
  by_cases h3 : (l.length : Int) > 6
  · simp [h1, h2, h3]
  simp only [h1, h2, h3, decide_false, cond_false]
  obtain ⟨r1, e1, _⟩ := round_some n 5 (by decide) (by decide)
  obtain ⟨r2, e2, _⟩ := round_some most 12 (by decide) (by decide)
  obtain ⟨r3, e3, _⟩ := round_some host 5 (by decide) (by decide)
  rw [problem_eq _ _ (by omega) (by omega), Option.bind_some, rassign_eq, Option.bind_some, problem_eq _ _ (by simp) (by simp), Option.bind_some, if_pos (by simp), e1, e2, e3, Option.bind_some, Option.bind_some, Option.bind_some,
    tells_eq _ _ _ _ _ _ _ (by simp; omega) (by simp)]
  rfl

theorem vmfleetlaw40_BalanceMade.pure (x : (tup vmfleetlaw40_BalanceMade.sp.args).den) (h : WfL vmfleetlaw40_BalanceMade.sp.args x) : vmfleetlaw40_BalanceMade.sp.f x = some true := balanceMade x.1 x.2.1 x.2.2.1 x.2.2.2.1 x.2.2.2.2

end Go.Proofs.Ytondojojpgmjcaa.Fn
