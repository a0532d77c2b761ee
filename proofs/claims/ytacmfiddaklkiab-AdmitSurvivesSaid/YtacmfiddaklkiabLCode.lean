/- 'Lift': code. -/
import Derived.Test.YtacmfiddaklkiabLLeave
set_option linter.unusedVariables false
set_option linter.unusedSimpArgs false
namespace Go.Proofs.Ytacmfiddaklkiab.Lift
open Go Go.RowKit

def Ex.to : Ex → Exit
  | .normal => .normal
  | .exit id => .exit id
  | .ret => .ret

theorem both_some {ρ : Type} {a b : Option ρ} {r : ρ} (h : both a b = some r) : a = some r ∧ b = some r := by
  unfold both at h
  split at h
  · rename_i e; exact ⟨h, e ▸ h⟩
  · cases h

theorem loop_some {X Y : Type} {step : X → Option (X ⊕ Y)} {x : X} {y : Y} (h : loop step x = some y) : ∃ k, loopN step k x = some y := by
  unfold loop at h
  split at h
  · rename_i hx
    have h2 := Classical.choose_spec (Classical.choose_spec hx)
    refine ⟨Classical.choose hx, ?_⟩
    rw [h2]; exact h
  · cases h

section
variable {P : Program} {S : Nat → Prop} {w0 w w1 : World} {ι ι1 : Inj} {a a1 : Act} {N N' : Nat → Prop} {n : Nat} {σ σ' : St} {E : Env} {inl : Inl}

theorem kept_none {keep : List Nat} {t : Nat} (h : kept σ keep = true) (ht : t ∈ keep) : lk σ.tmps t = none := by
  simp only [kept, List.all_eq_true] at h
  have := h t ht
  split at this
  · cases this
  · assumption

theorem lk_key {α : Type} {l : List (Nat × α)} {m : Nat} {x : α} (h : lk l m = some x) : m ∈ l.map (·.1) := List.mem_map_of_mem (lk_of_mem h)

/-- What is kept is known from outside. -/
theorem keep_val {keep : List Nat} (hc : σ.clean = true) {t : Nat} {v : Val} (h : lk ((σ.tmps.filter fun p => has keep p.1) ++ σ.kt) t = some v) : σ.tmp t = v := by
  have e1 := lk_filter (fun k => has keep k) σ.tmps t
  rw [lk_append, e1] at h
  simp only [St.tmp]
  cases h1 : lk σ.tmps t with
  | some x =>
    cases hk : has keep t with
    | true => simp only [h1, hk, if_true] at h; cases h; rfl
    | false =>
      simp only [h1, hk, Bool.false_eq_true, if_false] at h
      have := kept_none hc (lk_key h)
      rw [h1] at this; cases this
  | none =>
    have h : lk σ.kt t = some v := by
      cases hk : has keep t <;> simpa [h1, hk] using h
    simp only [h]

/-- And still so later. -/
theorem still_val {keep : List Nat} (hst : σ.still σ' keep = true) (hkt : σ'.kt = (σ.tmps.filter fun p => has keep p.1) ++ σ.kt) {t : Nat} {v : Val}
    (h : lk ((σ.tmps.filter fun p => has keep p.1) ++ σ.kt) t = some v) : σ'.tmp t = v := by
  simp only [St.still, Bool.and_eq_true] at hst
  have hn : lk σ'.tmps t = none := by
    have hm := lk_key h
    rw [List.map_append, List.mem_append] at hm
    rcases hm with hm | hm
    · obtain ⟨p, hp, rfl⟩ := List.mem_map.1 hm
      exact kept_none hst.1 (has_iff.1 (List.mem_filter.1 hp).2)
    · exact kept_none hst.2 hm
  simp only [St.tmp, hn, hkt, h]

theorem proj_inTab {l : List LV} {x : (liveTy l).den} (h : proj σ l = some x) : ∀ m ∈ lvNames σ l, ∃ e, σ.ent m = some (true, e) := by
  unfold proj at h
  split at h
  · rename_i hc
    simp only [Bool.and_eq_true] at hc
    exact inTab_spec hc.2
  · cases h

theorem ent_ktab (hd : ∀ p ∈ σ.ktab, ∀ q ∈ σ.tab, p.1 ≠ q.1) {m : Nat} {e : Entry} (h : lk σ.ktab m = some (some e)) : σ.ent m = some (false, e) := by
  have : lk σ.tab m = none := by
    cases hl : lk σ.tab m with
    | none => rfl
    | some x => exact (hd _ (lk_of_mem h) _ (lk_of_mem hl) rfl).elim
  simp only [St.ent, this, h]

theorem ent_out {l : List LV} {x : (liveTy l).den} (hp : proj σ' l = some x) (hd : ∀ p ∈ σ'.ktab, ∀ q ∈ σ'.tab, p.1 ≠ q.1) {m : Nat} {e : Entry} (h : lk σ'.ktab m = some (some e)) :
    (∃ fl, σ'.ent m = some (fl, e)) ∧ m ∉ lvNames σ' l := by
  have he := ent_ktab hd h
  refine ⟨⟨_, he⟩, fun hm => ?_⟩
  obtain ⟨e', h'⟩ := proj_inTab hp m hm
  rw [he] at h'; cases h'

theorem evalC_sound (hE : EnvOk P E) (hI : InlSound P E inl) : ∀ (c : Code) {ρ : Type} {σ : St} {K : Ex → St → Option ρ} {r : ρ} {N : Nat → Prop} {a : Act} {w : World} {ι : Inj} {Q : Exit → Act → World → Prop},
    belowC n c = true → evalC E inl c σ K = some r → Sim S w0 N n σ a w ι → (∀ ex σ' a' w' ι', K ex σ' = some r → Done S w0 N n σ w ι σ' a' w' ι' → Q ex.to a' w') → c.wp P Q a w := by
  intro c
  induction c with
  | skip => intro ρ σ K r N a w ι Q hb h hs hQ; simp only [evalC] at h; exact wp_skip (hQ .normal σ a w ι h (Done.refl hs))
  | ret => intro ρ σ K r N a w ι Q hb h hs hQ; simp only [evalC] at h; exact wp_ret (hQ .ret σ a w ι h (Done.refl hs))
  | exit id => intro ρ σ K r N a w ι Q hb h hs hQ; simp only [evalC] at h; exact wp_exit (hQ (.exit id) σ a w ι h (Done.refl hs))
  | region id ops d => intro ρ σ K r N a w ι Q hb h hs hQ; exact reg_sound hE hI hb h hs (Q := Q) fun σ' a' w' ι' hK hD => hQ .normal σ' a' w' ι' hK hD
  | rangeFunc f ps x y => intro ρ σ K r N a w ι Q hb h hs hQ; simp only [evalC] at h; cases h
  | scope c => intro ρ σ K r N a w ι Q hb h hs hQ; simp only [evalC] at h; cases h
  | label l => intro ρ σ K r N a w ι Q hb h hs hQ; simp only [evalC] at h; cases h
  | goto l => intro ρ σ K r N a w ι Q hb h hs hQ; simp only [evalC] at h; cases h
  | refuse y => intro ρ σ K r N a w ι Q hb h hs hQ; simp only [evalC] at h; cases h
  | block id c ih =>
    intro ρ σ K r N a w ι Q hb h hs hQ
    simp only [evalC] at h
    refine wp_block (ih (by simpa [belowC] using hb) h hs fun ex σ' a' w' ι' hK hD => ?_)
    cases ex with
    | normal => exact hQ .normal σ' a' w' ι' hK hD
    | ret => exact hQ .ret σ' a' w' ι' hK hD
    | exit id' =>
      simp only [Ex.to, Exit.inBlock]
      simp only at hK
      split at hK
      · rename_i hbq
        rw [if_pos (Nat.eq_of_beq_eq_true hbq)]
        exact hQ .normal σ' a' w' ι' hK hD
      · rename_i hbq
        rw [if_neg (fun e => by rw [e, Nat.beq_refl] at hbq; cases hbq)]
        exact hQ (.exit id') σ' a' w' ι' hK hD
  | cond cnd x y ihx ihy =>
    intro ρ σ K r N a w ι Q hb h hs hQ
    simp only [belowC, Bool.and_eq_true] at hb
    simp only [evalC] at h
    split at h
    case h_3 => cases h
    case h_2 =>
      rename_i hev
      have hrel := hs.core.ev cnd
      rw [← ev_evF, hev] at hrel
      have hrel := RelC.leaf hrel
      simp only [RelL] at hrel
      obtain ⟨b, hb'⟩ := hrel
      have hbool := List.singleton_inj.1 hb'
      obtain ⟨h1, h2⟩ := both_some h
      cases b with
      | true => exact wp_cond_true hbool (ihx hb.1 h1 hs hQ)
      | false => exact wp_cond_false hbool (ihy hb.2 h2 hs hQ)
    rename_i b hev
    have hrel := hs.core.ev cnd
    rw [← ev_evF, hev] at hrel
    have hbool := rel_bool hrel
    have lit : ∀ {K' : St → Option ρ}, litK σ cnd b K' = some r → ∃ σ', K' σ' = some r ∧ σ'.tmp = σ.tmp ∧ σ'.tab = σ.tab ∧ σ'.ktab = σ.ktab ∧ σ'.kt = σ.kt ∧ σ'.next = σ.next := by
      intro K' hk
      cases cnd with
      | tmp t => exact litK_some hk hev
      | const x => exact ⟨σ, hk, rfl, rfl, rfl, rfl, rfl⟩
      | global x => exact ⟨σ, hk, rfl, rfl, rfl, rfl, rfl⟩
      | func x => exact ⟨σ, hk, rfl, rfl, rfl, rfl, rfl⟩
    have chg : ∀ {σ' : St}, σ'.tmp = σ.tmp → σ'.tab = σ.tab → σ'.ktab = σ.ktab → σ'.kt = σ.kt → σ'.next = σ.next → Done S w0 N n σ w ι σ' a w ι := by
      intro σ' e1 e2 e3 e4 e5
      refine ⟨⟨?_, fun m hm => ?_, by rw [e2, e3]; exact hs.disj, by rw [e3, e5]; exact hs.kb, by rw [e2, e5]; exact hs.tb⟩, Ev.refl, ⟨e4, e3, by rw [e5]; exact Nat.le_refl _⟩⟩
      · rw [e1, ent_eq e2 e3]; exact hs.core.weaken fun m hm => .inl hm
      · rw [e5]
        rcases hm with hm | hm
        · exact hs.lt m hm
        · rw [e5] at hm; exact hm.2
    cases b with
    | true =>
      simp only [cond_true] at h
      obtain ⟨σ', h', e1, e2, e3, e4, e5⟩ := lit h
      have hD := chg e1 e2 e3 e4 e5
      exact wp_cond_true hbool (ihx hb.1 h' hD.sim fun ex σ2 a' w' ι' hK hD2 => hQ ex σ2 a' w' ι' hK (hD.trans hD2))
    | false =>
      simp only [cond_false] at h
      obtain ⟨σ', h', e1, e2, e3, e4, e5⟩ := lit h
      have hD := chg e1 e2 e3 e4 e5
      exact wp_cond_false hbool (ihy hb.2 h' hD.sim fun ex σ2 a' w' ι' hK hD2 => hQ ex σ2 a' w' ι' hK (hD.trans hD2))
  | seq x y ihx ihy =>
    intro ρ σ K r N a w ι Q hb h hs hQ
    simp only [belowC, Bool.and_eq_true] at hb
    simp only [evalC] at h
    refine wp_seq ?_
    split at h
    · refine ihx hb.1 h hs fun ex σ' a' w' ι' hK hD => ?_
      cases ex with
      | normal => exact ihy hb.2 hK hD.sim fun ex σ2 a2 w2 ι2 hK2 hD2 => hQ ex σ2 a2 w2 ι2 hK2 (hD.trans hD2)
      | ret => exact hQ .ret σ' a' w' ι' hK hD
      | exit id => exact hQ (.exit id) σ' a' w' ι' hK hD
    · rename_i c hc
      split at h
      · cases h
      · cases h
      rename_i p hcl hpin0
      have hpin : ∀ q, p = some q → ∃ e, lk σ.tab q.1 = some (some e) := fun q hq => by
        obtain ⟨z, hz⟩ := pinAt_spec hpin0 q hq
        exact ⟨_, pinRow_lk hz⟩
      obtain ⟨o, h1, h2⟩ := Option.bind_eq_some_iff.1 h
      have hpk := partP_kt σ c p
      have hpn := partP_next σ c p
      have lv : ∀ (ex : Ex) (σ' : St) (a' : Act) (w' : World) (ι' : Inj), (K ex (σ.leave σ')).bind (fun r => some (Sum.inr r)) = some o → Done S w0 N n (σ.partP c p) w ι σ' a' w' ι' → Q ex.to a' w' := by
        intro ex σ' a' w' ι' hK hD
        obtain ⟨r', hK1, ho⟩ := Option.bind_eq_some_iff.1 hK
        cases ho
        simp only at h2
        cases h2
        have hnx := hD.out.next
        rw [hpn] at hnx
        have hev := hD.ev
        rw [hpn] at hev
        refine hQ ex (σ.leave σ') a' w' ι' hK1 (leave_sim hs hD.sim (fun m hm => by rcases hm with hm | hm; exact .inl hm; exact .inr (by rw [hpn] at hm; exact hm)) hnx (fun t ht => ?_) (fun m q hq => ?_) hev)
        · have := hD.out.kt
          rw [this, hpk] at ht
          simp only [lk_append] at ht
          split at ht
          · cases ht
          · exact ht
        · have htn : lk σ.tab m = none := by
            cases hl : lk σ.tab m with
            | none => rfl
            | some x => exact (hs.disj _ (lk_of_mem hq) _ (lk_of_mem hl) rfl).elim
          rw [hD.out.ktab, partP_lk σ c p (fun q' hq' e => by obtain ⟨e0, he0⟩ := hpin q' hq'; rw [e, he0] at htn; cases htn)]
          simp only [lk_append]
          have e1 := lk_filter (fun k => !has (lvNames σ c.live) k) σ.tab m
          rw [e1]
          simp only [htn, ite_self, hq]
      refine ihx hb.1 h1 (partP_sim c hs) fun ex σ' a' w' ι' hK hD => ?_
      cases ex with
      | ret => exact lv .ret σ' a' w' ι' hK hD
      | exit id => exact lv (.exit id) σ' a' w' ι' hK hD
      | normal =>
        simp only at hK
        split at hK
        case h_2 => cases hK
        rename_i hst
        obtain ⟨yv, hp, ho⟩ := Option.bind_eq_some_iff.1 hK
        cases ho
        simp only at h2
        obtain ⟨yp, hproj⟩ := get_proj hp
        have hkt' : σ'.kt = (σ.tmps.filter fun p => has c.keep p.1) ++ σ.kt := by rw [hD.out.kt]; exact hpk
        obtain ⟨ι2, s2, ev2, out2⟩ := afterP_sim (names := lvNames σ c.live) hs hD.sim.core hp hpin
          (fun t v hl => ⟨keep_val hcl hl, still_val hst hkt' hl⟩)
          (fun m e hne hl => by
            have hk' : lk σ'.ktab m = some (some e) := by rw [hD.out.ktab, partP_lk σ c p hne]; exact hl
            obtain ⟨k1, k2⟩ := ent_out hproj hD.sim.disj hk'
            refine ⟨?_, k1, k2⟩
            rw [lk_append] at hl
            have e1 := lk_filter (fun k => !has (lvNames σ c.live) k) σ.tab m
            rw [e1] at hl
            cases h3 : lk σ.tab m with
            | some q =>
              rw [h3] at hl
              cases h4 : has (lvNames σ c.live) m with
              | false => simp [h4] at hl; subst hl; exact ⟨true, by simp only [St.ent, h3]⟩
              | true =>
                simp [h4] at hl
                exact (hs.disj _ (lk_of_mem hl) _ (lk_of_mem h3) rfl).elim
            | none =>
              rw [h3] at hl
              simp at hl
              exact ⟨false, by simp only [St.ent, h3, hl]⟩)
        have hev := hD.ev
        rw [hpn] at hev
        have hD2 : Done S w0 N n σ w ι (σ.afterP c (lvNames σ c.live) p yv) a' w' ι2 := ⟨s2, hev.trans ev2 (Nat.le_refl _), out2⟩
        exact ihy hb.2 h2 hD2.sim fun ex σ3 a3 w3 ι3 hK3 hD3 => hQ ex σ3 a3 w3 ι3 hK3 (hD2.trans hD3)
  | loop body ih =>
    intro ρ σ K r N a w ι Q hb h hs hQ
    have hb' : belowC n body = true := by simpa [belowC] using hb
    simp only [evalC] at h
    split at h
    · cases h
    rename_i c hc
    split at h
    · cases h
    · cases h
    rename_i p hcl hpin0
    split at h
    · cases h
    rename_i x0 hg0
    obtain ⟨xp0, hp0⟩ := get_proj hg0
    have hpin : ∀ q, p = some q → ∃ e, lk σ.tab q.1 = some (some e) := fun q hq => by
      obtain ⟨z, hz⟩ := pinAt_spec hpin0 q hq
      exact ⟨_, pinRow_lk hz⟩
    obtain ⟨o, h1, h2⟩ := Option.bind_eq_some_iff.1 h
    obtain ⟨k0, hk0⟩ := loop_some h1
    have henter : ∀ x, (σ.enterP c p x).kt = (σ.tmps.filter fun p => has c.keep p.1) ++ σ.kt ∧ (σ.enterP c p x).ktab = ktabP σ c p := fun x => ⟨enterP_kt σ c p x, enterP_ktab σ c p x⟩
    have hent0 : ∀ m e, lk (σ.tab ++ σ.ktab) m = some (some e) → ∃ fl, σ.ent m = some (fl, e) := by
      intro m e hl
      rw [lk_append] at hl
      simp only [St.ent]
      cases h3 : lk σ.tab m with
      | some q => rw [h3] at hl; simp at hl; subst hl; exact ⟨true, rfl⟩
      | none => rw [h3] at hl; simp at hl; exact ⟨false, by simp only [hl]⟩
    have hfil : ∀ m, lk ((σ.tab ++ σ.ktab).filter fun p => !(has (lvNames σ c.live) p.1)) m = if (!has (lvNames σ c.live) m) = true then lk (σ.tab ++ σ.ktab) m else none := fun m => lk_filter (fun k => !has (lvNames σ c.live) k) (σ.tab ++ σ.ktab) m
    -- a key of the outer kept table is no live name
    have hnl : ∀ m q, lk σ.ktab m = some q → has (lvNames σ c.live) m = false := by
      intro m q hq
      cases hh : has (lvNames σ c.live) m with
      | false => rfl
      | true =>
        obtain ⟨e, he⟩ := proj_inTab hp0 m (has_iff.1 hh)
        obtain ⟨q', hq', e'⟩ := ent_true he
        exact (hs.disj _ (lk_of_mem hq) _ hq' e'.symm).elim
    have hktab : ∀ m q, lk σ.ktab m = some q → lk (ktabP σ c p) m = some q := by
      intro m q hq
      have htn : lk σ.tab m = none := by
        cases hl : lk σ.tab m with
        | none => rfl
        | some x => exact (hs.disj _ (lk_of_mem hq) _ (lk_of_mem hl) rfl).elim
      refine ktabP_of ?_ fun q' hq' e => by obtain ⟨e0, he0⟩ := hpin q' hq'; rw [e, he0] at htn; cases htn
      rw [hfil, hnl m q hq]
      simp only [Bool.not_false, if_true, lk_append]
      simp only [htn, hq]
    -- one round and all that follow
    have main : ∀ (k : Nat) (x : (pinTy p (liveTy c.live)).den) (a1 : Act) (w1 : World) (ι1 : Inj),
        loopN (fun x : (pinTy p (liveTy c.live)).den =>
          evalC E inl body (ρ := (pinTy p (liveTy c.live)).den ⊕ ((pinTy p (liveTy c.out)).den ⊕ ρ)) (σ.enterP c p x) fun ex σ' => match ex with
            | .normal => match σ.still σ' c.keep with
              | true => (σ'.get p c.live).bind fun y => some (.inl y)
              | false => none
            | .exit id => match Nat.beq id c.brk with
              | true => match σ.still σ' c.keep with
                | true => (σ'.get p c.out).bind fun y => some (.inr (.inl y))
                | false => none
              | false => (K (.exit id) (σ.leave σ')).bind fun r => some (.inr (.inr r))
            | .ret => (K .ret (σ.leave σ')).bind fun r => some (.inr (.inr r))) k x = some o →
        Sim S w0 (Post N σ (σ.enterP c p x)) n (σ.enterP c p x) a1 w1 ι1 → Ev S σ.next w ι w1 ι1 → σ.next ≤ (σ.enterP c p x).next → Code.rounds P body Q k a1 w1 := by
      intro k
      induction k with
      | zero => intro x a1 w1 ι1 hl; simp only [loopN] at hl; cases hl
      | succ k ihk =>
        intro x a1 w1 ι1 hl hs1 hev1 hnx1
        rw [rounds_succ]
        simp only [loopN] at hl
        have lv : ∀ (ex : Ex) (σ' : St) (a' : Act) (w' : World) (ι' : Inj) (o' : (pinTy p (liveTy c.live)).den ⊕ ((pinTy p (liveTy c.out)).den ⊕ ρ)), (K ex (σ.leave σ')).bind (fun r => some (Sum.inr (Sum.inr r))) = some o' → (∀ z, o' = .inr z → z = o) →
            Done S w0 (Post N σ (σ.enterP c p x)) n (σ.enterP c p x) w1 ι1 σ' a' w' ι' → Q ex.to a' w' := by
          intro ex σ' a' w' ι' o' hK ho' hD
          obtain ⟨r', hK1, ho⟩ := Option.bind_eq_some_iff.1 hK
          cases ho
          have := ho' _ rfl
          subst this
          simp only at h2
          cases h2
          refine hQ ex (σ.leave σ') a' w' ι' hK1 (leave_sim hs hD.sim (fun m hm => ?_) (Nat.le_trans hnx1 hD.out.next) (fun t ht => ?_) (fun m q hq => ?_) (hev1.trans hD.ev hnx1))
          · have := hD.out.next
            rcases hm with (hm | hm) | hm
            · exact .inl hm
            · exact .inr ⟨hm.1, by omega⟩
            · exact .inr ⟨by omega, hm.2⟩
          · rw [hD.out.kt, (henter x).1] at ht
            simp only [lk_append] at ht
            split at ht
            · cases ht
            · exact ht
          · rw [hD.out.ktab, (henter x).2]
            exact hktab m q hq
        split at hl
        · -- another round
          rename_i x' hstep
          refine ih hb' hstep hs1 fun ex σ' a' w' ι' hK hD => ?_
          cases ex with
          | ret =>
            simp only at hK
            obtain ⟨r', _, ho⟩ := Option.bind_eq_some_iff.1 hK
            cases ho
          | exit id =>
            simp only at hK
            split at hK
            · split at hK
              · obtain ⟨r', _, ho⟩ := Option.bind_eq_some_iff.1 hK
                cases ho
              · cases hK
            · obtain ⟨r', _, ho⟩ := Option.bind_eq_some_iff.1 hK
              cases ho
          | normal =>
            simp only at hK
            split at hK
            case h_2 => cases hK
            rename_i hst
            obtain ⟨yv, hp, ho⟩ := Option.bind_eq_some_iff.1 hK
            cases ho
            have hkt' : σ'.kt = (σ.tmps.filter fun p => has c.keep p.1) ++ σ.kt := by rw [hD.out.kt]; exact (henter x).1
            obtain ⟨yp, hproj⟩ := get_proj hp
            obtain ⟨ι2, s2, ev2, nx2⟩ := enterP_sim (x := x') hs hD.sim.core hp hpin
              (fun t v hl => ⟨keep_val hcl hl, still_val hst hkt' hl⟩)
              (fun m e hl => by
                have hk' : lk σ'.ktab m = some (some e) := by rw [hD.out.ktab, (henter x).2]; exact hl
                obtain ⟨k1, k2⟩ := ent_out hproj hD.sim.disj hk'
                refine ⟨?_, k1, k2⟩
                have hl := (ktabP_lk hl).1
                rw [hfil] at hl
                split at hl
                · exact hent0 m e hl
                · cases hl)
            exact ihk x' a' w' ι2 hl s2 ((hev1.trans hD.ev hnx1).trans ev2 (Nat.le_refl _)) nx2
        · -- the last one
          rename_i o' hstep
          cases hl
          refine ih hb' hstep hs1 fun ex σ' a' w' ι' hK hD => ?_
          cases ex with
          | ret => exact lv .ret σ' a' w' ι' _ hK (fun z hz => by cases hz; rfl) hD
          | normal =>
            simp only at hK
            split at hK
            · obtain ⟨r', _, ho⟩ := Option.bind_eq_some_iff.1 hK
              cases ho
            · cases hK
          | exit id =>
            simp only at hK
            split at hK
            · rename_i hid
              split at hK
              case h_2 => cases hK
              rename_i hst
              obtain ⟨yv, hp, ho⟩ := Option.bind_eq_some_iff.1 hK
              cases ho
              simp only at h2
              have hid' := Nat.eq_of_beq_eq_true hid
              subst hid'
              have hkt' : σ'.kt = (σ.tmps.filter fun p => has c.keep p.1) ++ σ.kt := by rw [hD.out.kt]; exact (henter x).1
              obtain ⟨yp, hproj⟩ := get_proj hp
              obtain ⟨ι2, s2, ev2, out2⟩ := afterP_sim (names := lvNames σ c.live) hs hD.sim.core hp hpin
                (fun t v hl => ⟨keep_val hcl hl, still_val hst hkt' hl⟩)
                (fun m e hne hl => by
                  have hl2 : lk ((σ.tab ++ σ.ktab).filter fun p => !(has (lvNames σ c.live) p.1)) m = some (some e) := by
                    rw [lk_append] at hl
                    have e1 := lk_filter (fun k => !has (lvNames σ c.live) k) σ.tab m
                    rw [e1] at hl
                    rw [hfil, lk_append]
                    cases h4 : has (lvNames σ c.live) m with
                    | false => simpa [h4] using hl
                    | true =>
                      simp [h4] at hl
                      have := hnl m _ hl
                      rw [h4] at this; cases this
                  have hk' : lk σ'.ktab m = some (some e) := by rw [hD.out.ktab, (henter x).2]; exact ktabP_of hl2 hne
                  obtain ⟨k1, k2⟩ := ent_out hproj hD.sim.disj hk'
                  refine ⟨?_, k1, k2⟩
                  rw [hfil] at hl2
                  split at hl2
                  · exact hent0 m e hl2
                  · cases hl2)
              exact hQ (.exit c.brk) _ a' w' ι2 h2 ⟨s2, (hev1.trans hD.ev hnx1).trans ev2 (Nat.le_refl _), out2⟩
            · exact lv (.exit id) σ' a' w' ι' _ hK (fun z hz => by cases hz; rfl) hD
        · cases hl
    obtain ⟨ι2, s2, ev2, nx2⟩ := enterP_sim (x := x0) hs hs.core hg0 hpin
      (fun t v hl => ⟨keep_val hcl hl, keep_val hcl hl⟩)
      (fun m e hl => by
        have hl := (ktabP_lk hl).1
        rw [hfil] at hl
        split at hl
        · rename_i hh
          refine ⟨hent0 m e hl, hent0 m e hl, fun hm => ?_⟩
          rw [has_iff.2 hm] at hh; cases hh
        · cases hl)
    exact wp_loop_rounds k0 (main k0 x0 a w ι2 hk0 s2 ev2 nx2)

end
end Go.Proofs.Ytacmfiddaklkiab.Lift
