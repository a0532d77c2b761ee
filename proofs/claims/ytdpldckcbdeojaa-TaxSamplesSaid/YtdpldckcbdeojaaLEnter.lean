/- 'Lift': a loop's head. -/
import Derived.Test.YtdpldckcbdeojaaLState
set_option linter.unusedVariables false
set_option linter.unusedSimpArgs false
namespace Go.Proofs.Ytdpldckcbdeojaa.Lift
open Go Go.RowKit

section
variable {P : Program} {S : Nat → Prop} {w0 w w1 : World} {ι ι1 : Inj} {a a1 : Act} {N N' : Nat → Prop} {n : Nat} {σ σ' : St}

theorem enter_sim {c : Cut} {x : (liveTy c.live).den} (h0 : Sim S w0 N n σ a1 w1 ι1) (hs : SimF S w0 N' n σ'.tmp σ'.ent a w ι) (hp : proj σ' c.live = some x)
    (HK : ∀ t v, lk ((σ.tmps.filter fun p => has c.keep p.1) ++ σ.kt) t = some v → σ.tmp t = v ∧ σ'.tmp t = v)
    (HE : ∀ m e, lk ((σ.tab ++ σ.ktab).filter fun p => !(has (lvNames σ c.live) p.1)) m = some (some e) → (∃ fl, σ.ent m = some (fl, e)) ∧ (∃ fl, σ'.ent m = some (fl, e)) ∧ m ∉ lvNames σ' c.live) :
    ∃ ι', Sim S w0 (Post N σ (σ.enter c x)) n (σ.enter c x) a w ι' ∧ Ev S σ.next w ι w ι' ∧ σ.next ≤ (σ.enter c x).next := by
  cases he : embed c.live x σ.next with
  | mk tu nx =>
    obtain ⟨ts, u⟩ := tu
    have e : σ.enter c x = ⟨ts, (σ.tmps.filter fun p => has c.keep p.1) ++ σ.kt, u, (σ.tab ++ σ.ktab).filter fun p => !(has (lvNames σ c.live) p.1), nx⟩ := by
      unfold St.enter; rw [he]
    have hu : ∀ p ∈ u, ∃ q, p.2 = some q := by have := embed_some (l := c.live) (x := x) (c := σ.next); rw [he] at this; exact this
    rw [e]
    obtain ⟨ι', k1, k2, k3, k4, k5⟩ := cut_sim (N0 := N) (c0 := σ.next) (τ2 := St.tmp ⟨ts, (σ.tmps.filter fun p => has c.keep p.1) ++ σ.kt, u, (σ.tab ++ σ.ktab).filter fun p => !(has (lvNames σ c.live) p.1), nx⟩)
      (T2 := St.ent ⟨ts, (σ.tmps.filter fun p => has c.keep p.1) ++ σ.kt, u, (σ.tab ++ σ.ktab).filter fun p => !(has (lvNames σ c.live) p.1), nx⟩) hs h0.lt hp he (fun t => by
        simp only [St.tmp]
        split
        · rename_i v hl; exact .inl (lk_of_mem hl)
        · split
          · rename_i v hl
            obtain ⟨q1, q2⟩ := HK t v hl
            exact .inr (.inl ⟨q2.symm, fun q hq => h0.core.vals t q (by rw [q1]; exact hq)⟩)
          · exact .inr (.inr rfl)) (fun m p hm => by
        simp only [St.ent] at hm
        split at hm
        · rename_i q hl; cases hm; exact .inl ⟨q, lk_of_mem hl, rfl⟩
        · cases hm
        · rename_i hl
          split at hm
          · rename_i q hl2
            cases hm
            obtain ⟨⟨fl0, q0⟩, ⟨fl, q1⟩, q2⟩ := HE m q hl2
            obtain ⟨r1, r2⟩ := h0.core.tabs m _ q0
            exact .inr ⟨lk_none hl, q2, r1, r2, fl, q1⟩
          · cases hm) (fun m hm => by
        obtain ⟨p, hp'⟩ := lk_isSome hm
        obtain ⟨q, hq⟩ := hu _ (lk_of_mem hp')
        simp only at hq
        subst hq
        simp only [St.ent, hp']
        rfl)
    have hkey : ∀ q ∈ u, σ.next ≤ q.1 ∧ q.1 < nx := fun q hq => by
      have : q.1 ∈ u.map (·.1) := List.mem_map_of_mem hq
      rw [k5, List.mem_range'_1] at this
      omega
    have hkt : ∀ p ∈ (σ.tab ++ σ.ktab).filter fun p => !(has (lvNames σ c.live) p.1), p.1 < σ.next := fun p hp' => by
      rcases List.mem_append.1 (List.mem_filter.1 hp').1 with h | h
      · exact h0.tb p h
      · exact h0.kb p h
    refine ⟨ι', ⟨k1, fun m hm => ?_, fun p hp' q hq => ?_, fun p hp' => ?_, fun q hq => (hkey q hq).2⟩, k2, k3⟩
    · rcases hm with hm | hm
      · exact Nat.lt_of_lt_of_le (h0.lt m hm) k3
      · exact hm.2
    · have := hkt p hp'; have := (hkey q hq).1; omega
    · exact Nat.lt_of_lt_of_le (hkt p hp') k3

theorem after_sim {c : Cut} {names : List Nat} {y : (liveTy c.out).den} (h0 : Sim S w0 N n σ a1 w1 ι1) (hs : SimF S w0 N' n σ'.tmp σ'.ent a w ι) (hp : proj σ' c.out = some y)
    (HK : ∀ t v, lk ((σ.tmps.filter fun p => has c.keep p.1) ++ σ.kt) t = some v → σ.tmp t = v ∧ σ'.tmp t = v)
    (HE : ∀ m e, lk ((σ.tab.filter fun p => !(has names p.1)) ++ σ.ktab) m = some (some e) → (∃ fl, σ.ent m = some (fl, e)) ∧ (∃ fl, σ'.ent m = some (fl, e)) ∧ m ∉ lvNames σ' c.out) :
    ∃ ι', Sim S w0 (Post N σ (σ.after c names y)) n (σ.after c names y) a w ι' ∧ Ev S σ.next w ι w ι' ∧ Out σ (σ.after c names y) := by
  cases he : embed c.out y σ.next with
  | mk tu nx =>
    obtain ⟨ts, u⟩ := tu
    have e : σ.after c names y = ⟨ts ++ σ.tmps.filter fun p => has c.keep p.1, σ.kt, u ++ σ.tab.filter fun p => !(has names p.1), σ.ktab, nx⟩ := by
      unfold St.after; rw [he]
    have hu : ∀ p ∈ u, ∃ q, p.2 = some q := by have := embed_some (l := c.out) (x := y) (c := σ.next); rw [he] at this; exact this
    rw [e]
    obtain ⟨ι', k1, k2, k3, k4, k5⟩ := cut_sim (N0 := N) (c0 := σ.next) (τ2 := St.tmp ⟨ts ++ σ.tmps.filter fun p => has c.keep p.1, σ.kt, u ++ σ.tab.filter fun p => !(has names p.1), σ.ktab, nx⟩)
      (T2 := St.ent ⟨ts ++ σ.tmps.filter fun p => has c.keep p.1, σ.kt, u ++ σ.tab.filter fun p => !(has names p.1), σ.ktab, nx⟩) hs h0.lt hp he (fun t => by
        have hkv := HK t
        simp only [lk_append] at hkv
        simp only [St.tmp, lk_append]
        cases h1 : lk ts t with
        | some v => exact .inl (lk_of_mem h1)
        | none =>
          cases h2 : lk (σ.tmps.filter fun p => has c.keep p.1) t with
          | some v =>
            obtain ⟨q1, q2⟩ := hkv v (by rw [h2])
            exact .inr (.inl ⟨q2.symm, fun q hq => h0.core.vals t q (by rw [q1]; exact hq)⟩)
          | none =>
            cases h3 : lk σ.kt t with
            | some v =>
              obtain ⟨q1, q2⟩ := hkv v (by rw [h2]; exact h3)
              exact .inr (.inl ⟨q2.symm, fun q hq => h0.core.vals t q (by rw [q1]; exact hq)⟩)
            | none => exact .inr (.inr rfl)) (fun m p hm => by
        have hev := HE m
        simp only [lk_append] at hev
        simp only [St.ent, lk_append] at hm
        cases h1 : lk u m with
        | some q =>
          rw [h1] at hm
          cases q with
          | none => cases hm
          | some q => cases hm; exact .inl ⟨q, lk_of_mem h1, rfl⟩
        | none =>
          have fin : ∀ q fl, p = (fl, q) → ((∃ fl, σ.ent m = some (fl, q)) ∧ (∃ fl, σ'.ent m = some (fl, q)) ∧ m ∉ lvNames σ' c.out) → (∃ e, (m, some e) ∈ u ∧ p = (true, e)) ∨ (m ∉ u.map (·.1) ∧ m ∉ lvNames σ' c.out ∧ N m ∧ (∀ q ∈ entNames p.2, N q) ∧ ∃ fl, σ'.ent m = some (fl, p.2)) := by
            rintro q fl rfl ⟨⟨fl0, q0⟩, ⟨fl1, q1⟩, q2⟩
            obtain ⟨r1, r2⟩ := h0.core.tabs m _ q0
            exact .inr ⟨lk_none h1, q2, r1, r2, fl1, q1⟩
          rw [h1] at hm
          cases h2 : lk (σ.tab.filter fun p => !(has names p.1)) m with
          | some q =>
            rw [h2] at hm
            cases q with
            | none => cases hm
            | some q => cases hm; exact fin q true rfl (hev q (by rw [h2]))
          | none =>
            rw [h2] at hm
            cases h3 : lk σ.ktab m with
            | none => rw [h3] at hm; cases hm
            | some q =>
              rw [h3] at hm
              cases q with
              | none => cases hm
              | some q => cases hm; exact fin q false rfl (hev q (by rw [h2]; exact h3))) (fun m hm => by
        obtain ⟨p, hp'⟩ := lk_isSome hm
        obtain ⟨q, hq⟩ := hu _ (lk_of_mem hp')
        simp only at hq
        subst hq
        simp only [St.ent, lk_append, hp']
        rfl)
    have hkey : ∀ q ∈ u, σ.next ≤ q.1 ∧ q.1 < nx := fun q hq => by
      have : q.1 ∈ u.map (·.1) := List.mem_map_of_mem hq
      rw [k5, List.mem_range'_1] at this
      omega
    refine ⟨ι', ⟨k1, fun m hm => ?_, fun p hp' q hq => ?_, fun p hp' => Nat.lt_of_lt_of_le (h0.kb p hp') k3, fun q hq => ?_⟩, k2, ⟨rfl, rfl, k3⟩⟩
    · rcases hm with hm | hm
      · exact Nat.lt_of_lt_of_le (h0.lt m hm) k3
      · exact hm.2
    · rcases List.mem_append.1 hq with hq | hq
      · have := h0.kb p hp'; have := (hkey q hq).1; omega
      · exact h0.disj p hp' q (List.mem_filter.1 hq).1
    · rcases List.mem_append.1 hq with hq | hq
      · exact (hkey q hq).2
      · exact Nat.lt_of_lt_of_le (h0.tb q (List.mem_filter.1 hq).1) k3

end
end Go.Proofs.Ytdpldckcbdeojaa.Lift
