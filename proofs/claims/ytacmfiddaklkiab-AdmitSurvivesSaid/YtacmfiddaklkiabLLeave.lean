/- 'Lift': an exit out of a cut. -/
import Derived.Test.YtacmfiddaklkiabLEnter
set_option linter.unusedVariables false
set_option linter.unusedSimpArgs false
namespace Go.Proofs.Ytacmfiddaklkiab.Lift
open Go Go.RowKit

section
variable {P : Program} {S : Nat → Prop} {w0 w w1 : World} {ι ι1 : Inj} {a a1 : Act} {N N' : Nat → Prop} {n : Nat} {σ σ' : St}

theorem leave_sim (h0 : Sim S w0 N n σ a1 w1 ι1) (hs : Sim S w0 N' n σ' a w ι) (hN : ∀ m, N' m → Post N σ σ' m) (hnx : σ.next ≤ σ'.next)
    (HK : ∀ t, lk σ'.kt t = none → lk σ.kt t = none) (HT : ∀ m q, lk σ.ktab m = some q → lk σ'.ktab m = some q) (hev : Ev S σ.next w1 ι1 w ι) :
    Done S w0 N n σ w1 ι1 (σ.leave σ') a w ι := by
  have hlv : (σ.leave σ').tab = σ'.tab ++ σ'.ktab.filter (fun p => !(lk σ.ktab p.1).isSome) := by
    simp only [St.leave]
    congr 1
    refine List.filter_congr fun p _ => ?_
    cases lk σ.ktab p.1 <;> rfl
  have hfil : ∀ m, lk (σ'.ktab.filter fun p => !(lk σ.ktab p.1).isSome) m = bif (lk σ.ktab m).isSome then none else lk σ'.ktab m := by
    intro m
    have := lk_filter (fun k => !(lk σ.ktab k).isSome) σ'.ktab m
    rw [this]
    cases lk σ.ktab m <;> simp
  have htmp : (σ.leave σ').tmp = σ'.tmp := by
    funext t
    simp only [St.tmp, St.leave, lk_append]
    cases h1 : lk σ'.tmps t with
    | some v => rfl
    | none =>
      cases h2 : lk σ'.kt t with
      | some v => rfl
      | none => simp only [HK t h2]
  have hent : ∀ m, ((σ.leave σ').ent m).map (·.2) = (σ'.ent m).map (·.2) := by
    intro m
    have hk : (σ.leave σ').ktab = σ.ktab := rfl
    simp only [St.ent, hlv, hk, lk_append, hfil]
    cases h1 : lk σ'.tab m with
    | some p => cases p <;> rfl
    | none =>
      cases h2 : lk σ.ktab m with
      | none =>
        cases h3 : lk σ'.ktab m with
        | none => rfl
        | some q => cases q <;> rfl
      | some q =>
        rw [HT m q h2]
        cases q <;> rfl
  refine ⟨⟨?_, fun m hm => ?_, fun p hp q hq => ?_, fun p hp => ?_, fun q hq => ?_⟩, hev, ⟨rfl, rfl, hnx⟩⟩
  · rw [htmp]
    exact (hs.core.flag hent).weaken hN
  · rcases hm with hm | hm
    · exact Nat.lt_of_lt_of_le (h0.lt m hm) hnx
    · exact hm.2
  · have hp : p ∈ σ.ktab := hp
    have hk : ∃ x, lk σ.ktab p.1 = some x := lk_isSome (List.mem_map_of_mem hp)
    obtain ⟨x, hx⟩ := hk
    rw [hlv] at hq
    rcases List.mem_append.1 hq with hq | hq
    · exact hs.disj (p.1, x) (lk_of_mem (HT _ _ hx)) q hq
    · obtain ⟨_, hq2⟩ := List.mem_filter.1 hq
      intro e
      rw [← e, hx] at hq2
      cases hq2
  · exact Nat.lt_of_lt_of_le (h0.kb p hp) hnx
  · rw [hlv] at hq
    rcases List.mem_append.1 hq with hq | hq
    · exact hs.tb q hq
    · exact hs.kb q (List.mem_filter.1 hq).1

end
end Go.Proofs.Ytacmfiddaklkiab.Lift
