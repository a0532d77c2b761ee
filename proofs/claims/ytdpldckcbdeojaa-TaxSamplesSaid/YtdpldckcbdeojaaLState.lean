/- 'Lift': the states of the cuts. -/
import Derived.Test.YtdpldckcbdeojaaLCut
set_option linter.unusedVariables false
set_option linter.unusedSimpArgs false
namespace Go.Proofs.Ytdpldckcbdeojaa.Lift
open Go Go.RowKit

section
variable {P : Program} {S : Nat → Prop} {w0 w : World} {ι : Inj} {T : Tab} {a : Act} {N : Nat → Prop} {n : Nat} {σ σ' : St}

theorem lk_filter {α : Type} (f : Nat → Bool) : ∀ (l : List (Nat × α)) (m : Nat), lk (l.filter fun p => f p.1) m = if f m then lk l m else none
  | [], m => by simp [lk]
  | (k, x) :: l, m => by
    have ih := lk_filter f l m
    by_cases hk : f k = true
    · rw [List.filter_cons_of_pos (by simpa using hk)]
      simp only [lk]
      cases hb : Nat.beq k m
      · exact ih
      · rw [← Nat.eq_of_beq_eq_true hb]; simp [hk]
    · rw [List.filter_cons_of_neg (by simpa using hk)]
      rw [ih]
      simp only [lk]
      cases hb : Nat.beq k m
      · rfl
      · rw [← Nat.eq_of_beq_eq_true hb]; simp [hk]

theorem has_iff {l : List Nat} {m : Nat} : has l m = true ↔ m ∈ l := by
  unfold has
  rw [List.any_eq_true]
  constructor
  · rintro ⟨x, hx, hb⟩; rw [Nat.eq_of_beq_eq_true hb]; exact hx
  · intro h; exact ⟨m, h, Nat.beq_refl m⟩

/-- Whether an entry may be written does not matter to the invariant. -/
theorem SimF.flag {τ : Nat → Val} {T2 : Tab} (h : SimF S w0 N n τ T a w ι) (k : ∀ m, (T2 m).map (·.2) = (T m).map (·.2)) : SimF S w0 N n τ T2 a w ι := by
  have at2 : ∀ m p, T2 m = some p → ∃ fl, T m = some (fl, p.2) := fun m p hp => by
    have := k m
    rw [hp] at this
    cases hT : T m with
    | none => rw [hT] at this; cases this
    | some q =>
      rw [hT] at this
      simp only [Option.map_some, Option.some.injEq] at this
      exact ⟨q.1, by rw [this]⟩
  refine ⟨⟨h.inv.below, h.inv.low, h.inv.fresh, h.inv.inj, fun m p hp => ?_, fun m l hm => ?_⟩, h.tmp, h.size, h.defers, h.vals, fun m p hp => ?_⟩
  · obtain ⟨fl, hT⟩ := at2 m p hp
    exact h.inv.ent m (fl, p.2) hT
  · have := h.inv.dom m l hm
    have := k m
    cases hT : T m with
    | none => rename_i h1; rw [hT] at h1; cases h1
    | some q =>
      rw [hT] at this
      cases hT2 : T2 m with
      | none => rw [hT2] at this; cases this
      | some q2 => rfl
  · obtain ⟨fl, hT⟩ := at2 m p hp
    exact h.tabs m (fl, p.2) hT

theorem tmp_eq {tm kt : List (Nat × Val)} {tab ktab : List (Nat × Option Entry)} {nx : Nat} (t : Nat) : St.tmp ⟨tm, kt, tab, ktab, nx⟩ t = match lk tm t with | some x => x | none => match lk kt t with | some x => x | none => .v false [.undef] := rfl

theorem part_tmp (c : Cut) : (σ.part c).tmp = σ.tmp := by
  funext t
  have e1 := lk_filter (fun k => !has c.keep k) σ.tmps t
  have e2 := lk_filter (fun k => has c.keep k) σ.tmps t
  simp only [St.tmp, St.part, lk_append, e1, e2]
  cases has c.keep t
  · simp only [Bool.not_false, if_true]
    cases lk σ.tmps t <;> simp
  · simp only [Bool.not_true, if_true]
    cases lk σ.tmps t <;> simp

theorem part_ent (c : Cut) (m : Nat) : ((σ.part c).ent m).map (·.2) = (σ.ent m).map (·.2) := by
  have e1 := lk_filter (fun k => has (lvNames σ c.live) k) σ.tab m
  have e2 := lk_filter (fun k => !has (lvNames σ c.live) k) σ.tab m
  simp only [St.ent, St.part, lk_append, e1, e2]
  cases has (lvNames σ c.live) m
  · simp only [Bool.not_false, if_true]
    cases lk σ.tab m with
    | none => rfl
    | some p => cases p <;> rfl
  · simp only [Bool.not_true, if_true]
    cases lk σ.tab m with
    | none => rfl
    | some p => cases p <;> rfl

theorem part_sim (c : Cut) (h : Sim S w0 N n σ a w ι) : Sim S w0 N n (σ.part c) a w ι := by
  refine ⟨?_, h.lt, fun p hp q hq => ?_, fun p hp => ?_, fun p hp => h.tb p (List.mem_filter.1 hp).1⟩
  · rw [part_tmp]
    exact h.core.flag (part_ent c)
  · simp only [St.part] at hp hq
    obtain ⟨hq1, hq2⟩ := List.mem_filter.1 hq
    rcases List.mem_append.1 hp with hp | hp
    · obtain ⟨hp1, hp2⟩ := List.mem_filter.1 hp
      intro e
      rw [e] at hp2
      rw [hq2] at hp2
      cases hp2
    · exact h.disj p hp q hq1
  · simp only [St.part] at hp
    rcases List.mem_append.1 hp with hp | hp
    · exact h.tb p (List.mem_filter.1 hp).1
    · exact h.kb p hp

end
end Go.Proofs.Ytdpldckcbdeojaa.Lift
