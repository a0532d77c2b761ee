/- 'Lift': regions. -/
import Derived.Test.YtacmfiddaklkiabLMask
set_option linter.unusedVariables false
set_option linter.unusedSimpArgs false
namespace Go.Proofs.Ytacmfiddaklkiab.Lift
open Go Go.RowKit

section
variable {P : Program} {S : Nat → Prop} {w0 w : World} {ι : Inj} {T : Tab} {nm : Nat} {a : Act} {N : Nat → Prop} {ρ : Type} {r : ρ} {E : Env} {inl : Inl}

theorem SimF.drew {n : Nat} {τ : Nat → Val} (h : SimF S w0 N n τ T a w ι) : SimF S w0 N n τ T a { w with drawn := w.drawn + 1 } ι ∧ Turn w { w with drawn := w.drawn + 1 } (Av S ι) (Av S ι) := by
  have ht : Turn w { w with drawn := w.drawn + 1 } (Av S ι) (Av S ι) := ⟨Nat.le_refl _, fun _ _ _ => rfl, fun _ _ h => h⟩
  refine ⟨⟨?_, fun t => (h.tmp t).turn ht fun _ _ => .inl rfl, h.size, h.defers, h.vals, h.tabs⟩, ht⟩
  exact h.inv.step ⟨rfl, rfl, rfl, Nat.le_refl _, fun _ _ => rfl⟩ ht h.inv.fresh h.inv.inj (fun m p hp => .inl ⟨p, hp, rfl, rfl, fun _ _ => .inl rfl, fun _ _ _ _ => rfl⟩) h.inv.dom

theorem reg_sound (hE : EnvOk P E) (hI : InlSound P E inl) {id n : Nat} {ops : Array Oper} {d : Bool} {σ : St} {K : Ex → St → Option ρ} (hb : belowC n (.region id ops d) = true) (h : evalC E inl (.region id ops d) σ K = some r) (hs : Sim S w0 N n σ a w ι)
    {Q : Exit → Act → World → Prop} (hQ : ∀ σ' a' w' ι', K .normal σ' = some r → Done S w0 N n σ w ι σ' a' w' ι' → Q .normal a' w') : (Code.region id ops d).wp P Q a w := by
  have hbelow : ∀ o ∈ ops.toList, ∀ t, o.dst = some t → t < n := fun o ho t ht => by
    simp only [belowC, List.all_eq_true] at hb
    have := hb o ho
    rw [ht] at this
    exact blt_iff.1 this
  simp only [evalC] at h
  cases d with
  | false =>
    simp only at h
    refine wp_region ?_
    rw [List.range_eq_range']
    have := opsK_sound (S := S) (w0 := w0) (Q := Q) hE hI (n := n) hbelow (base := σ.next) (N := N) hs.lt ops.toList 0 _ _ a w ι (Nat.zero_le _) rfl h (hs.core.weaken fun m hm => .inl hm) (Nat.le_refl _) hs.disj hs.kb (fun p hp => by have := hs.tb p hp; show p.1 < σ.next + 16 * ops.size; omega)
      (fun σ' a' w' ι' hK hs' hev hout hd htb => hQ σ' a' w' ι' hK ⟨⟨hs'.weaken fun m hm => ?_, fun m hm => ?_, hd, fun p hp => ?_, htb⟩, hev, ⟨hout.kt, hout.ktab, ?_⟩⟩)
    · rw [Array.length_toList] at this
      exact this
    · have hn : σ.next + 16 * ops.size ≤ σ'.next := hout.next
      rcases hm with hm | hm | hm
      · exact .inl hm
      · exact .inr ⟨hm.1, by omega⟩
      · exact .inr ⟨by omega, hm.2⟩
    · have hn : σ.next + 16 * ops.size ≤ σ'.next := hout.next
      rcases hm with hm | hm
      · have := hs.lt m hm; omega
      · exact hm.2
    · have hn : σ.next + 16 * ops.size ≤ σ'.next := hout.next
      rw [hout.ktab] at hp
      have := hs.kb p hp
      omega
    · have hn : σ.next + 16 * ops.size ≤ σ'.next := hout.next
      omega
  | true =>
    simp only at h
    split at h
    case h_1 => cases h
    rename_i hback
    obtain ⟨σ', tr, hK, hT, e1, e2, htab, hout, hnx⟩ := opsD_trace (E := E) (base := σ.next) (τ0 := σ.tmp) (T0 := σ.ent) (σ0 := { σ with next := σ.next + 16 * ops.size }) rfl rfl hback ops.toList 0 { σ with next := σ.next + 16 * ops.size } [] [] (fun _ => ⟨false, .v false [.skp], []⟩) (Nat.zero_le _) rfl rfl rfl
      ⟨fun i hi => by omega, fun i hi => by omega⟩ (fun j hj => by omega) (fun j m hm => by cases hm) (fun q hq => .inl hq) (Out.refl _) rfl h
    obtain ⟨hs1, ht⟩ := hs.core.drew
    have hD0 : (fun j => (Array.replicate ops.size false).getD j false) = fun _ => false := by
      funext j
      simp only [Array.getD_eq_getD_getElem?, Array.getElem?_replicate]
      split <;> rfl
    have hafter : ∀ k, after (dstAt ops) tr σ.tmp σ.ent (fun _ => false) k = (σ.tmp, σ.ent) := by
      intro k
      induction k with
      | zero => rfl
      | succ k ih => simp only [after, ih]
    refine wp_region_any hE.mixed (wpAny_trace (S := S) (w0 := w0) (N := N) hE hT hbelow hback hs.lt (KO := fun m => (∃ q ∈ σ.tab, q.1 = m) ∨ (σ.next ≤ m ∧ m < σ.next + 16 * ops.size)) (fun m e he => .inl (ent_true he)) (fun m hm hm2 => .inr ⟨hm, hm2⟩) ops.size _ a _ ι ?_ (by simp) ?_ ?_ ?_ ?_)
    · rw [hD0]; intro i o hi; cases hi
    · exact Nat.le_trans List.countP_le_length (by simp)
    · intro j hj
      have h0 : (Array.replicate ops.size false).getD j false = false := congrFun hD0 j
      rw [h0] at hj; cases hj
    · rw [hD0]
      have : StD ops tr σ.tmp σ.ent (fun _ => false) = (σ.tmp, σ.ent) := hafter _
      rw [this]
      exact hs1.weaken fun m hm => .inl hm
    · intro a' w' ι' hs' hev hk
      rw [← e1, ← e2] at hs'
      have hn : σ'.next = σ.next + 16 * ops.size := hnx
      refine hQ σ' a' w' ι' hK ⟨⟨hs'.weaken fun m hm => ?_, fun m hm => ?_, fun p hp q hq => ?_, fun p hp => ?_, fun q hq => ?_⟩, ⟨ht.trans hev.turn, hev.keep⟩, ⟨hout.kt, hout.ktab, by omega⟩⟩
      · rcases hm with hm | hm
        · exact .inl hm
        · exact .inr ⟨hm.1, by omega⟩
      · rcases hm with hm | hm
        · have := hs.lt m hm; omega
        · exact hm.2
      · have hp' : p ∈ σ.ktab := by have := hout.ktab; rw [this] at hp; exact hp
        rcases htab q hq with hq | ⟨j, hj, hq⟩
        · exact hs.disj p hp' q hq
        · rcases hk j hj q.1 hq with ⟨q', hq', e⟩ | hge
          · rw [← e]; exact hs.disj p hp' q' hq'
          · have := hs.kb p hp'
            omega
      · have hp' : p ∈ σ.ktab := by have := hout.ktab; rw [this] at hp; exact hp
        have := hs.kb p hp'
        omega
      · rcases htab q hq with hq | ⟨j, hj, hq⟩
        · have := hs.tb q hq; omega
        · rcases hk j hj q.1 hq with ⟨q', hq', e⟩ | hge
          · have := hs.tb q' hq'; omega
          · omega

end
end Go.Proofs.Ytacmfiddaklkiab.Lift
