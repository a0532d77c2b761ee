/- 'Lift': the states of the cuts. -/
import Derived.Test.YtacmfiddaklkiabLCut
set_option linter.unusedVariables false
set_option linter.unusedSimpArgs false
namespace Go.Proofs.Ytacmfiddaklkiab.Lift
open Go Go.RowKit

section
variable {P : Program} {S : Nat → Prop} {w0 w : World} {ι : Inj} {T : Tab} {a : Act} {N : Nat → Prop} {n : Nat} {σ σ' : St}

theorem lk_filter {α : Type} (f : Nat → Bool) : ∀ (l : List (Nat × α)) (m : Nat), lk (l.filter fun p => f p.1) m = if f m then lk l m else none
  | [], m => by simp [lk]
  | (k, x) :: l, m => by
    have ih := lk_filter f l m
    by_cases hk : f k = true
    · rw [List.filter_cons_of_pos (by simpa using hk)]
      simp only [lk]
      cases hb : Nat.beq k m
      · exact ih
      · rw [← Nat.eq_of_beq_eq_true hb]; simp [hk]
    · rw [List.filter_cons_of_neg (by simpa using hk)]
      rw [ih]
      simp only [lk]
      cases hb : Nat.beq k m
      · rfl
      · rw [← Nat.eq_of_beq_eq_true hb]; simp [hk]

theorem has_iff {l : List Nat} {m : Nat} : has l m = true ↔ m ∈ l := by
  unfold has
  rw [List.any_eq_true]
  constructor
  · rintro ⟨x, hx, hb⟩; rw [Nat.eq_of_beq_eq_true hb]; exact hx
  · intro h; exact ⟨m, h, Nat.beq_refl m⟩

/-- Whether an entry may be written does not matter to the invariant. -/
theorem SimF.flag {τ : Nat → Val} {T2 : Tab} (h : SimF S w0 N n τ T a w ι) (k : ∀ m, (T2 m).map (·.2) = (T m).map (·.2)) : SimF S w0 N n τ T2 a w ι := by
  have at2 : ∀ m p, T2 m = some p → ∃ fl, T m = some (fl, p.2) := fun m p hp => by
    have := k m
    rw [hp] at this
    cases hT : T m with
    | none => rw [hT] at this; cases this
    | some q =>
      rw [hT] at this
      simp only [Option.map_some, Option.some.injEq] at this
      exact ⟨q.1, by rw [this]⟩
  refine ⟨⟨h.inv.below, h.inv.low, h.inv.fresh, h.inv.inj, fun m p hp => ?_, fun m l hm => ?_⟩, h.tmp, h.size, h.defers, h.vals, fun m p hp => ?_⟩
  · obtain ⟨fl, hT⟩ := at2 m p hp
    exact h.inv.ent m (fl, p.2) hT
  · have := h.inv.dom m l hm
    have := k m
    cases hT : T m with
    | none => rename_i h1; rw [hT] at h1; cases h1
    | some q =>
      rw [hT] at this
      cases hT2 : T2 m with
      | none => rw [hT2] at this; cases this
      | some q2 => rfl
  · obtain ⟨fl, hT⟩ := at2 m p hp
    exact h.tabs m (fl, p.2) hT

theorem tmp_eq {tm kt : List (Nat × Val)} {tab ktab : List (Nat × Option Entry)} {nx : Nat} (t : Nat) : St.tmp ⟨tm, kt, tab, ktab, nx⟩ t = match lk tm t with | some x => x | none => match lk kt t with | some x => x | none => .v false [.undef] := rfl

theorem part_tmp (c : Cut) : (σ.part c).tmp = σ.tmp := by
  funext t
  have e1 := lk_filter (fun k => !has c.keep k) σ.tmps t
  have e2 := lk_filter (fun k => has c.keep k) σ.tmps t
  simp only [St.tmp, St.part, lk_append, e1, e2]
  cases has c.keep t
  · simp only [Bool.not_false, if_true]
    cases lk σ.tmps t <;> simp
  · simp only [Bool.not_true, if_true]
    cases lk σ.tmps t <;> simp

theorem part_ent (c : Cut) (m : Nat) : ((σ.part c).ent m).map (·.2) = (σ.ent m).map (·.2) := by
  have e1 := lk_filter (fun k => has (lvNames σ c.live) k) σ.tab m
  have e2 := lk_filter (fun k => !has (lvNames σ c.live) k) σ.tab m
  simp only [St.ent, St.part, lk_append, e1, e2]
  cases has (lvNames σ c.live) m
  · simp only [Bool.not_false, if_true]
    cases lk σ.tab m with
    | none => rfl
    | some p => cases p <;> rfl
  · simp only [Bool.not_true, if_true]
    cases lk σ.tab m with
    | none => rfl
    | some p => cases p <;> rfl

theorem part_sim (c : Cut) (h : Sim S w0 N n σ a w ι) : Sim S w0 N n (σ.part c) a w ι := by
  refine ⟨?_, h.lt, fun p hp q hq => ?_, fun p hp => ?_, fun p hp => h.tb p (List.mem_filter.1 hp).1⟩
  · rw [part_tmp]
    exact h.core.flag (part_ent c)
  · simp only [St.part] at hp hq
    obtain ⟨hq1, hq2⟩ := List.mem_filter.1 hq
    rcases List.mem_append.1 hp with hp | hp
    · obtain ⟨hp1, hp2⟩ := List.mem_filter.1 hp
      intro e
      rw [e] at hp2
      rw [hq2] at hp2
      cases hp2
    · exact h.disj p hp q hq1
  · simp only [St.part] at hp
    rcases List.mem_append.1 hp with hp | hp
    · exact h.tb p (List.mem_filter.1 hp).1
    · exact h.kb p hp

/-! ### A row that stays under its name -/
theorem pinRow_lk {m : Nat} {e : Ty} {z : List e.den} (h : σ.pinRow m e = some z) : lk σ.tab m = some (some (.arr e z)) := by
  unfold St.pinRow at h
  split at h
  · rename_i e' xs hl
    obtain ⟨rfl, rfl⟩ := castL_some h
    exact hl
  · cases h

theorem pinRow_ent {m : Nat} {e : Ty} {z : List e.den} (h : σ.pinRow m e = some z) : σ.ent m = some (true, .arr e z) := by
  have := pinRow_lk h
  simp only [St.ent, this]

theorem pinAt_spec {c : Cut} {p : Pin} (h : σ.pinAt c = some p) : ∀ q, p = some q → ∃ z, σ.pinRow q.1 q.2 = some z := by
  intro q hq
  subst hq
  unfold St.pinAt at h
  split at h
  · cases h
  · split at h
    · split at h
      · rename_i z hz
        cases h
        exact ⟨z, hz⟩
      · cases h
    · cases h

theorem get_proj {p : Pin} {l : List LV} {x : (pinTy p (liveTy l)).den} (h : σ.get p l = some x) : ∃ y, proj σ l = some y := by
  cases p with
  | none => exact ⟨x, h⟩
  | some q =>
    unfold St.get at h
    simp only at h
    split at h
    · cases h
    · obtain ⟨y, hy, _⟩ := Option.bind_eq_some_iff.1 h
      exact ⟨y, hy⟩

theorem get_some {q : Nat × Ty} {l : List LV} {x : (pinTy (some q) (liveTy l)).den} (h : σ.get (some q) l = some x) : proj σ l = some x.1 ∧ σ.pinRow q.1 q.2 = some x.2 ∧ q.1 ∉ lvNames σ l := by
  unfold St.get at h
  simp only at h
  split at h
  · cases h
  · rename_i hh
    obtain ⟨y, hy, h⟩ := Option.bind_eq_some_iff.1 h
    obtain ⟨z, hz, h⟩ := Option.bind_eq_some_iff.1 h
    cases h
    refine ⟨hy, hz, fun hm => ?_⟩
    rw [has_iff.2 hm] at hh; cases hh

theorem lk_but (k : Nat) (l : List (Nat × Option Entry)) (m : Nat) : lk (l.filter fun q => !(Nat.beq q.1 k)) m = if (!Nat.beq m k) = true then lk l m else none := lk_filter (fun j => !(Nat.beq j k)) l m

theorem beq_false {a b : Nat} (h : a ≠ b) : Nat.beq a b = false := by
  cases hb : Nat.beq a b with
  | false => rfl
  | true => exact absurd (Nat.eq_of_beq_eq_true hb) h

theorem lk_but_ne {k m : Nat} (l : List (Nat × Option Entry)) (h : m ≠ k) : lk (l.filter fun q => !(Nat.beq q.1 k)) m = lk l m := by
  rw [lk_but, beq_false h]; rfl

theorem lk_but_some {k m : Nat} {l : List (Nat × Option Entry)} {x : Option Entry} (h : lk (l.filter fun q => !(Nat.beq q.1 k)) m = some x) : m ≠ k ∧ lk l m = some x := by
  rw [lk_but] at h
  split at h
  · rename_i hb
    refine ⟨fun e => ?_, h⟩
    rw [e, Nat.beq_refl] at hb; cases hb
  · cases h

theorem lk_cons (k m : Nat) (x : Option Entry) (l : List (Nat × Option Entry)) : lk ((k, x) :: l) m = if m = k then some x else lk l m := by
  simp only [lk]
  by_cases h : m = k
  · subst h; rw [Nat.beq_refl, if_pos rfl]
  · rw [beq_false (fun e => h e.symm), if_neg h]

/-- The kept table of a loop's head. -/
def ktabP (σ : St) (c : Cut) (p : Pin) : List (Nat × Option Entry) :=
  match p with
  | none => (σ.tab ++ σ.ktab).filter fun r => !(has (lvNames σ c.live) r.1)
  | some q => ((σ.tab ++ σ.ktab).filter fun r => !(has (lvNames σ c.live) r.1)).filter fun r => !(Nat.beq r.1 q.1)

theorem enterP_kt (σ : St) (c : Cut) (p : Pin) (x) : (σ.enterP c p x).kt = (σ.tmps.filter fun r => has c.keep r.1) ++ σ.kt := by
  cases p <;> rfl
theorem enterP_ktab (σ : St) (c : Cut) (p : Pin) (x) : (σ.enterP c p x).ktab = ktabP σ c p := by
  cases p <;> rfl

theorem ktabP_lk {c : Cut} {p : Pin} {m : Nat} {x : Option Entry} (h : lk (ktabP σ c p) m = some x) : lk ((σ.tab ++ σ.ktab).filter fun r => !(has (lvNames σ c.live) r.1)) m = some x ∧ ∀ q, p = some q → m ≠ q.1 := by
  cases p with
  | none => exact ⟨h, fun q hq => by cases hq⟩
  | some q => exact ⟨(lk_but_some h).2, fun r hr => by cases hr; exact (lk_but_some h).1⟩

theorem ktabP_of {c : Cut} {p : Pin} {m : Nat} {x : Option Entry} (h : lk ((σ.tab ++ σ.ktab).filter fun r => !(has (lvNames σ c.live) r.1)) m = some x) (hm : ∀ q, p = some q → m ≠ q.1) : lk (ktabP σ c p) m = some x := by
  cases p with
  | none => exact h
  | some q =>
    unfold ktabP
    simp only
    rw [lk_but_ne _ (hm q rfl)]
    exact h

theorem partP_kt (σ : St) (c : Cut) (p : Pin) : (σ.partP c p).kt = σ.tmps.filter (fun r => has c.keep r.1) ++ σ.kt := by
  cases p with
  | none => rfl
  | some q =>
    unfold St.partP
    simp only
    split <;> rfl
theorem partP_next (σ : St) (c : Cut) (p : Pin) : (σ.partP c p).next = σ.next := by
  cases p with
  | none => rfl
  | some q =>
    unfold St.partP
    simp only
    split <;> rfl
theorem partP_lk (σ : St) (c : Cut) (p : Pin) {m : Nat} (hm : ∀ q, p = some q → m ≠ q.1) : lk (σ.partP c p).ktab m = lk (σ.tab.filter (fun r => !(has (lvNames σ c.live) r.1)) ++ σ.ktab) m := by
  cases p with
  | none => rfl
  | some q =>
    unfold St.partP
    simp only
    split
    · exact lk_but_ne _ (hm q rfl)
    · rfl

theorem partP_sim (c : Cut) {p : Pin} (h : Sim S w0 N n σ a w ι) : Sim S w0 N n (σ.partP c p) a w ι := by
  cases p with
  | none => exact part_sim c h
  | some q =>
    unfold St.partP
    simp only
    split
    case h_2 => exact part_sim c h
    rename_i e hl
    have hp := part_sim c h
    refine ⟨?_, hp.lt, fun r hr s hs => ?_, fun r hr => hp.kb r (List.mem_filter.1 hr).1, fun r hr => ?_⟩
    · refine hp.core.flag fun m => ?_
      have hq : (σ.ent q.1).map (·.2) = some e := by simp only [St.ent, hl]; rfl
      have hq2 := part_ent (σ := σ) c q.1
      rw [hq] at hq2
      by_cases hm : m = q.1
      · subst hm
        have e1 : ((σ.part c).hold q.1 e).ent q.1 = some (true, e) := by simp only [St.ent, St.hold, lk_cons, if_true]
        rw [e1, hq2]
        rfl
      · simp only [St.ent, St.hold, lk_cons, if_neg hm, lk_but_ne _ hm]
    · simp only [St.hold] at hr hs
      obtain ⟨hr1, hr2⟩ := List.mem_filter.1 hr
      rcases List.mem_cons.1 hs with hs | hs
      · subst hs
        intro e2
        simp only at e2
        rw [e2, Nat.beq_refl] at hr2; cases hr2
      · exact hp.disj r hr1 s hs
    · simp only [St.hold] at hr
      rcases List.mem_cons.1 hr with hr | hr
      · subst hr
        exact h.tb _ (lk_of_mem hl)
      · exact hp.tb r hr

end
end Go.Proofs.Ytacmfiddaklkiab.Lift
