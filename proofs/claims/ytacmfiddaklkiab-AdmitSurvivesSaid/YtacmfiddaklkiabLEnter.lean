/- 'Lift': a loop's head. -/
import Derived.Test.YtacmfiddaklkiabLState
set_option linter.unusedVariables false
set_option linter.unusedSimpArgs false
namespace Go.Proofs.Ytacmfiddaklkiab.Lift
open Go Go.RowKit

section
variable {P : Program} {S : Nat → Prop} {w0 w w1 : World} {ι ι1 : Inj} {a a1 : Act} {N N' : Nat → Prop} {n : Nat} {σ σ' : St}

theorem enter_sim {c : Cut} {x : (liveTy c.live).den} (h0 : Sim S w0 N n σ a1 w1 ι1) (hs : SimF S w0 N' n σ'.tmp σ'.ent a w ι) (hp : proj σ' c.live = some x)
    (HK : ∀ t v, lk ((σ.tmps.filter fun p => has c.keep p.1) ++ σ.kt) t = some v → σ.tmp t = v ∧ σ'.tmp t = v)
    (HE : ∀ m e, lk ((σ.tab ++ σ.ktab).filter fun p => !(has (lvNames σ c.live) p.1)) m = some (some e) → (∃ fl, σ.ent m = some (fl, e)) ∧ (∃ fl, σ'.ent m = some (fl, e)) ∧ m ∉ lvNames σ' c.live) :
    ∃ ι', Sim S w0 (Post N σ (σ.enter c x)) n (σ.enter c x) a w ι' ∧ Ev S σ.next w ι w ι' ∧ σ.next ≤ (σ.enter c x).next := by
  cases he : embed c.live x σ.next with
  | mk tu nx =>
    obtain ⟨ts, u⟩ := tu
    have e : σ.enter c x = ⟨ts, (σ.tmps.filter fun p => has c.keep p.1) ++ σ.kt, u, (σ.tab ++ σ.ktab).filter fun p => !(has (lvNames σ c.live) p.1), nx⟩ := by
      unfold St.enter; rw [he]
    have hu : ∀ p ∈ u, ∃ q, p.2 = some q := by have := embed_some (l := c.live) (x := x) (c := σ.next); rw [he] at this; exact this
    rw [e]
    obtain ⟨ι', k1, k2, k3, k4, k5⟩ := cut_sim (N0 := N) (c0 := σ.next) (τ2 := St.tmp ⟨ts, (σ.tmps.filter fun p => has c.keep p.1) ++ σ.kt, u, (σ.tab ++ σ.ktab).filter fun p => !(has (lvNames σ c.live) p.1), nx⟩)
      (T2 := St.ent ⟨ts, (σ.tmps.filter fun p => has c.keep p.1) ++ σ.kt, u, (σ.tab ++ σ.ktab).filter fun p => !(has (lvNames σ c.live) p.1), nx⟩) hs h0.lt hp he (fun t => by
        simp only [St.tmp]
        split
        · rename_i v hl; exact .inl (lk_of_mem hl)
        · split
          · rename_i v hl
            obtain ⟨q1, q2⟩ := HK t v hl
            exact .inr (.inl ⟨q2.symm, fun q hq => h0.core.vals t q (by rw [q1]; exact hq)⟩)
          · exact .inr (.inr rfl)) (fun m p hm => by
        simp only [St.ent] at hm
        split at hm
        · rename_i q hl; cases hm; exact .inl ⟨q, lk_of_mem hl, rfl⟩
        · cases hm
        · rename_i hl
          split at hm
          · rename_i q hl2
            cases hm
            obtain ⟨⟨fl0, q0⟩, ⟨fl, q1⟩, q2⟩ := HE m q hl2
            obtain ⟨r1, r2⟩ := h0.core.tabs m _ q0
            exact .inr ⟨lk_none hl, q2, r1, r2, fl, q1⟩
          · cases hm) (fun m hm => by
        obtain ⟨p, hp'⟩ := lk_isSome hm
        obtain ⟨q, hq⟩ := hu _ (lk_of_mem hp')
        simp only at hq
        subst hq
        simp only [St.ent, hp']
        rfl)
    have hkey : ∀ q ∈ u, σ.next ≤ q.1 ∧ q.1 < nx := fun q hq => by
      have : q.1 ∈ u.map (·.1) := List.mem_map_of_mem hq
      rw [k5, List.mem_range'_1] at this
      omega
    have hkt : ∀ p ∈ (σ.tab ++ σ.ktab).filter fun p => !(has (lvNames σ c.live) p.1), p.1 < σ.next := fun p hp' => by
      rcases List.mem_append.1 (List.mem_filter.1 hp').1 with h | h
      · exact h0.tb p h
      · exact h0.kb p h
    refine ⟨ι', ⟨k1, fun m hm => ?_, fun p hp' q hq => ?_, fun p hp' => ?_, fun q hq => (hkey q hq).2⟩, k2, k3⟩
    · rcases hm with hm | hm
      · exact Nat.lt_of_lt_of_le (h0.lt m hm) k3
      · exact hm.2
    · have := hkt p hp'; have := (hkey q hq).1; omega
    · exact Nat.lt_of_lt_of_le (hkt p hp') k3

theorem after_sim {c : Cut} {names : List Nat} {y : (liveTy c.out).den} (h0 : Sim S w0 N n σ a1 w1 ι1) (hs : SimF S w0 N' n σ'.tmp σ'.ent a w ι) (hp : proj σ' c.out = some y)
    (HK : ∀ t v, lk ((σ.tmps.filter fun p => has c.keep p.1) ++ σ.kt) t = some v → σ.tmp t = v ∧ σ'.tmp t = v)
    (HE : ∀ m e, lk ((σ.tab.filter fun p => !(has names p.1)) ++ σ.ktab) m = some (some e) → (∃ fl, σ.ent m = some (fl, e)) ∧ (∃ fl, σ'.ent m = some (fl, e)) ∧ m ∉ lvNames σ' c.out) :
    ∃ ι', Sim S w0 (Post N σ (σ.after c names y)) n (σ.after c names y) a w ι' ∧ Ev S σ.next w ι w ι' ∧ Out σ (σ.after c names y) := by
  cases he : embed c.out y σ.next with
  | mk tu nx =>
    obtain ⟨ts, u⟩ := tu
    have e : σ.after c names y = ⟨ts ++ σ.tmps.filter fun p => has c.keep p.1, σ.kt, u ++ σ.tab.filter fun p => !(has names p.1), σ.ktab, nx⟩ := by
      unfold St.after; rw [he]
    have hu : ∀ p ∈ u, ∃ q, p.2 = some q := by have := embed_some (l := c.out) (x := y) (c := σ.next); rw [he] at this; exact this
    rw [e]
    obtain ⟨ι', k1, k2, k3, k4, k5⟩ := cut_sim (N0 := N) (c0 := σ.next) (τ2 := St.tmp ⟨ts ++ σ.tmps.filter fun p => has c.keep p.1, σ.kt, u ++ σ.tab.filter fun p => !(has names p.1), σ.ktab, nx⟩)
      (T2 := St.ent ⟨ts ++ σ.tmps.filter fun p => has c.keep p.1, σ.kt, u ++ σ.tab.filter fun p => !(has names p.1), σ.ktab, nx⟩) hs h0.lt hp he (fun t => by
        have hkv := HK t
        simp only [lk_append] at hkv
        simp only [St.tmp, lk_append]
        cases h1 : lk ts t with
        | some v => exact .inl (lk_of_mem h1)
        | none =>
          cases h2 : lk (σ.tmps.filter fun p => has c.keep p.1) t with
          | some v =>
            obtain ⟨q1, q2⟩ := hkv v (by rw [h2])
            exact .inr (.inl ⟨q2.symm, fun q hq => h0.core.vals t q (by rw [q1]; exact hq)⟩)
          | none =>
            cases h3 : lk σ.kt t with
            | some v =>
              obtain ⟨q1, q2⟩ := hkv v (by rw [h2]; exact h3)
              exact .inr (.inl ⟨q2.symm, fun q hq => h0.core.vals t q (by rw [q1]; exact hq)⟩)
            | none => exact .inr (.inr rfl)) (fun m p hm => by
        have hev := HE m
        simp only [lk_append] at hev
        simp only [St.ent, lk_append] at hm
        cases h1 : lk u m with
        | some q =>
          rw [h1] at hm
          cases q with
          | none => cases hm
          | some q => cases hm; exact .inl ⟨q, lk_of_mem h1, rfl⟩
        | none =>
          have fin : ∀ q fl, p = (fl, q) → ((∃ fl, σ.ent m = some (fl, q)) ∧ (∃ fl, σ'.ent m = some (fl, q)) ∧ m ∉ lvNames σ' c.out) → (∃ e, (m, some e) ∈ u ∧ p = (true, e)) ∨ (m ∉ u.map (·.1) ∧ m ∉ lvNames σ' c.out ∧ N m ∧ (∀ q ∈ entNames p.2, N q) ∧ ∃ fl, σ'.ent m = some (fl, p.2)) := by
            rintro q fl rfl ⟨⟨fl0, q0⟩, ⟨fl1, q1⟩, q2⟩
            obtain ⟨r1, r2⟩ := h0.core.tabs m _ q0
            exact .inr ⟨lk_none h1, q2, r1, r2, fl1, q1⟩
          rw [h1] at hm
          cases h2 : lk (σ.tab.filter fun p => !(has names p.1)) m with
          | some q =>
            rw [h2] at hm
            cases q with
            | none => cases hm
            | some q => cases hm; exact fin q true rfl (hev q (by rw [h2]))
          | none =>
            rw [h2] at hm
            cases h3 : lk σ.ktab m with
            | none => rw [h3] at hm; cases hm
            | some q =>
              rw [h3] at hm
              cases q with
              | none => cases hm
              | some q => cases hm; exact fin q false rfl (hev q (by rw [h2]; exact h3))) (fun m hm => by
        obtain ⟨p, hp'⟩ := lk_isSome hm
        obtain ⟨q, hq⟩ := hu _ (lk_of_mem hp')
        simp only at hq
        subst hq
        simp only [St.ent, lk_append, hp']
        rfl)
    have hkey : ∀ q ∈ u, σ.next ≤ q.1 ∧ q.1 < nx := fun q hq => by
      have : q.1 ∈ u.map (·.1) := List.mem_map_of_mem hq
      rw [k5, List.mem_range'_1] at this
      omega
    refine ⟨ι', ⟨k1, fun m hm => ?_, fun p hp' q hq => ?_, fun p hp' => Nat.lt_of_lt_of_le (h0.kb p hp') k3, fun q hq => ?_⟩, k2, ⟨rfl, rfl, k3⟩⟩
    · rcases hm with hm | hm
      · exact Nat.lt_of_lt_of_le (h0.lt m hm) k3
      · exact hm.2
    · rcases List.mem_append.1 hq with hq | hq
      · have := h0.kb p hp'; have := (hkey q hq).1; omega
      · exact h0.disj p hp' q (List.mem_filter.1 hq).1
    · rcases List.mem_append.1 hq with hq | hq
      · exact (hkey q hq).2
      · exact Nat.lt_of_lt_of_le (h0.tb q (List.mem_filter.1 hq).1) k3

theorem embed_keys (hs : SimF S w0 N' n σ'.tmp σ'.ent a w ι) {l : List LV} {x : (liveTy l).den} (hp : proj σ' l = some x) {c0 : Nat} {ts : List (Nat × Val)} {u : List (Nat × Option Entry)} {nx : Nat} (he : embed l x c0 = ((ts, u), nx)) : ∀ m ∈ u.map (·.1), c0 ≤ m := by
  unfold proj at hp
  split at hp
  case h_2 => cases hp
  obtain ⟨lc, ns, ss, h1, h2, h3⟩ := proj_emb hs hp
  have hk0 := h3 (fun _ => False) (fun m => lc[m - c0]?) c0 (fun _ h => h.elim) (fun _ _ _ _ _ _ h => h) (fun j q hj => by simpa using hj)
  rw [he] at hk0
  have hkeys : u.map (·.1) = List.range' c0 lc.length := hk0.keys
  intro m hm
  rw [hkeys, List.mem_range'_1] at hm
  exact hm.1

theorem enterP_sim {c : Cut} {p : Pin} {x : (pinTy p (liveTy c.live)).den} (h0 : Sim S w0 N n σ a1 w1 ι1) (hs : SimF S w0 N' n σ'.tmp σ'.ent a w ι) (hp : σ'.get p c.live = some x)
    (hpin : ∀ q, p = some q → ∃ e, lk σ.tab q.1 = some (some e))
    (HK : ∀ t v, lk ((σ.tmps.filter fun p => has c.keep p.1) ++ σ.kt) t = some v → σ.tmp t = v ∧ σ'.tmp t = v)
    (HE : ∀ m e, lk (ktabP σ c p) m = some (some e) → (∃ fl, σ.ent m = some (fl, e)) ∧ (∃ fl, σ'.ent m = some (fl, e)) ∧ m ∉ lvNames σ' c.live) :
    ∃ ι', Sim S w0 (Post N σ (σ.enterP c p x)) n (σ.enterP c p x) a w ι' ∧ Ev S σ.next w ι w ι' ∧ σ.next ≤ (σ.enterP c p x).next := by
  cases p with
  | none => exact enter_sim h0 hs hp HK HE
  | some q =>
    obtain ⟨g1, g2, g3⟩ := get_some hp
    obtain ⟨eq0, hq0⟩ := hpin q rfl
    have hqent : σ.ent q.1 = some (true, eq0) := by simp only [St.ent, hq0]
    have hqN : N q.1 := (h0.core.tabs q.1 _ hqent).1
    have hqlt : q.1 < σ.next := h0.lt _ hqN
    cases he : embed c.live x.1 σ.next with
    | mk tu nx =>
      obtain ⟨ts, u⟩ := tu
      have e : σ.enterP c (some q) x = ⟨ts, (σ.tmps.filter fun p => has c.keep p.1) ++ σ.kt, (q.1, some (.arr q.2 x.2)) :: u, ktabP σ c (some q), nx⟩ := by
        unfold St.enterP St.hold St.enter ktabP; simp only [he]
      have hu : ∀ p ∈ u, ∃ q, p.2 = some q := by have := embed_some (l := c.live) (x := x.1) (c := σ.next); rw [he] at this; exact this
      have hk0 := embed_keys hs g1 he
      rw [e]
      obtain ⟨ι', k1, k2, k3, k4, k5⟩ := cut_sim (N0 := N) (c0 := σ.next) (τ2 := St.tmp ⟨ts, (σ.tmps.filter fun p => has c.keep p.1) ++ σ.kt, (q.1, some (.arr q.2 x.2)) :: u, ktabP σ c (some q), nx⟩)
        (T2 := St.ent ⟨ts, (σ.tmps.filter fun p => has c.keep p.1) ++ σ.kt, (q.1, some (.arr q.2 x.2)) :: u, ktabP σ c (some q), nx⟩) hs h0.lt g1 he (fun t => by
          simp only [St.tmp]
          split
          · rename_i v hl; exact .inl (lk_of_mem hl)
          · split
            · rename_i v hl
              obtain ⟨q1, q2⟩ := HK t v hl
              exact .inr (.inl ⟨q2.symm, fun q hq => h0.core.vals t q (by rw [q1]; exact hq)⟩)
            · exact .inr (.inr rfl)) (fun m p hm => by
          simp only [St.ent, lk_cons] at hm
          by_cases hmq : m = q.1
          · subst hmq
            rw [if_pos rfl] at hm
            simp only [Option.some.injEq] at hm
            subst hm
            exact .inr ⟨fun hh => by have := hk0 _ hh; omega, g3, hqN, fun r hr => by simp [entNames] at hr, true, pinRow_ent g2⟩
          · rw [if_neg hmq] at hm
            split at hm
            · rename_i q' hl; cases hm; exact .inl ⟨q', lk_of_mem hl, rfl⟩
            · cases hm
            · rename_i hl
              split at hm
              · rename_i q' hl2
                cases hm
                obtain ⟨⟨fl0, q0⟩, ⟨fl, q1⟩, q2⟩ := HE m q' hl2
                obtain ⟨r1, r2⟩ := h0.core.tabs m _ q0
                exact .inr ⟨lk_none hl, q2, r1, r2, fl, q1⟩
              · cases hm) (fun m hm => by
          obtain ⟨p, hp'⟩ := lk_isSome hm
          obtain ⟨q', hq⟩ := hu _ (lk_of_mem hp')
          simp only at hq
          subst hq
          simp only [St.ent, lk_cons]
          by_cases hmq : m = q.1
          · rw [if_pos hmq]; rfl
          · rw [if_neg hmq, hp']; rfl)
      have hkey : ∀ q ∈ u, σ.next ≤ q.1 ∧ q.1 < nx := fun q hq => by
        have : q.1 ∈ u.map (·.1) := List.mem_map_of_mem hq
        rw [k5, List.mem_range'_1] at this
        omega
      have hkt : ∀ p ∈ ktabP σ c (some q), p.1 < σ.next ∧ p.1 ≠ q.1 := fun p hp' => by
        unfold ktabP at hp'
        simp only at hp'
        obtain ⟨h1, h2⟩ := List.mem_filter.1 hp'
        refine ⟨?_, fun e2 => by rw [e2, Nat.beq_refl] at h2; cases h2⟩
        rcases List.mem_append.1 (List.mem_filter.1 h1).1 with h | h
        · exact h0.tb p h
        · exact h0.kb p h
      refine ⟨ι', ⟨k1, fun m hm => ?_, fun p hp' q' hq => ?_, fun p hp' => ?_, fun q' hq => ?_⟩, k2, k3⟩
      · rcases hm with hm | hm
        · exact Nat.lt_of_lt_of_le (h0.lt m hm) k3
        · exact hm.2
      · have h1 := hkt p hp'
        rcases List.mem_cons.1 hq with hq | hq
        · subst hq; exact h1.2
        · have := (hkey q' hq).1; omega
      · exact Nat.lt_of_lt_of_le (hkt p hp').1 k3
      · rcases List.mem_cons.1 hq with hq | hq
        · subst hq; exact Nat.lt_of_lt_of_le hqlt k3
        · exact (hkey q' hq).2

theorem afterP_sim {c : Cut} {names : List Nat} {p : Pin} {y : (pinTy p (liveTy c.out)).den} (h0 : Sim S w0 N n σ a1 w1 ι1) (hs : SimF S w0 N' n σ'.tmp σ'.ent a w ι) (hp : σ'.get p c.out = some y)
    (hpin : ∀ q, p = some q → ∃ e, lk σ.tab q.1 = some (some e))
    (HK : ∀ t v, lk ((σ.tmps.filter fun p => has c.keep p.1) ++ σ.kt) t = some v → σ.tmp t = v ∧ σ'.tmp t = v)
    (HE : ∀ m e, (∀ q, p = some q → m ≠ q.1) → lk ((σ.tab.filter fun p => !(has names p.1)) ++ σ.ktab) m = some (some e) → (∃ fl, σ.ent m = some (fl, e)) ∧ (∃ fl, σ'.ent m = some (fl, e)) ∧ m ∉ lvNames σ' c.out) :
    ∃ ι', Sim S w0 (Post N σ (σ.afterP c names p y)) n (σ.afterP c names p y) a w ι' ∧ Ev S σ.next w ι w ι' ∧ Out σ (σ.afterP c names p y) := by
  cases p with
  | none => exact after_sim h0 hs hp HK fun m e hl => HE m e (fun q hq => by cases hq) hl
  | some q =>
    obtain ⟨g1, g2, g3⟩ := get_some hp
    obtain ⟨eq0, hq0⟩ := hpin q rfl
    have hqent : σ.ent q.1 = some (true, eq0) := by simp only [St.ent, hq0]
    have hqN : N q.1 := (h0.core.tabs q.1 _ hqent).1
    have hqlt : q.1 < σ.next := h0.lt _ hqN
    cases he : embed c.out y.1 σ.next with
    | mk tu nx =>
      obtain ⟨ts, u⟩ := tu
      have e : σ.afterP c names (some q) y = ⟨ts ++ σ.tmps.filter fun p => has c.keep p.1, σ.kt, (q.1, some (.arr q.2 y.2)) :: (u ++ σ.tab.filter fun p => !(has names p.1)), σ.ktab, nx⟩ := by
        unfold St.afterP St.after; simp only [he]
      have hu : ∀ p ∈ u, ∃ q, p.2 = some q := by have := embed_some (l := c.out) (x := y.1) (c := σ.next); rw [he] at this; exact this
      have hk0 := embed_keys hs g1 he
      rw [e]
      obtain ⟨ι', k1, k2, k3, k4, k5⟩ := cut_sim (N0 := N) (c0 := σ.next) (τ2 := St.tmp ⟨ts ++ σ.tmps.filter fun p => has c.keep p.1, σ.kt, (q.1, some (.arr q.2 y.2)) :: (u ++ σ.tab.filter fun p => !(has names p.1)), σ.ktab, nx⟩)
        (T2 := St.ent ⟨ts ++ σ.tmps.filter fun p => has c.keep p.1, σ.kt, (q.1, some (.arr q.2 y.2)) :: (u ++ σ.tab.filter fun p => !(has names p.1)), σ.ktab, nx⟩) hs h0.lt g1 he (fun t => by
          have hkv := HK t
          simp only [lk_append] at hkv
          simp only [St.tmp, lk_append]
          cases h1 : lk ts t with
          | some v => exact .inl (lk_of_mem h1)
          | none =>
            cases h2 : lk (σ.tmps.filter fun p => has c.keep p.1) t with
            | some v =>
              obtain ⟨q1, q2⟩ := hkv v (by rw [h2])
              exact .inr (.inl ⟨q2.symm, fun q hq => h0.core.vals t q (by rw [q1]; exact hq)⟩)
            | none =>
              cases h3 : lk σ.kt t with
              | some v =>
                obtain ⟨q1, q2⟩ := hkv v (by rw [h2]; exact h3)
                exact .inr (.inl ⟨q2.symm, fun q hq => h0.core.vals t q (by rw [q1]; exact hq)⟩)
              | none => exact .inr (.inr rfl)) (fun m p hm => by
          simp only [St.ent, lk_cons, lk_append] at hm
          by_cases hmq : m = q.1
          · subst hmq
            rw [if_pos rfl] at hm
            simp only [Option.some.injEq] at hm
            subst hm
            exact .inr ⟨fun hh => by have := hk0 _ hh; omega, g3, hqN, fun r hr => by simp [entNames] at hr, true, pinRow_ent g2⟩
          · rw [if_neg hmq] at hm
            have hev := HE m
            simp only [lk_append] at hev
            have hne : ∀ r, some q = some r → m ≠ r.1 := fun r hr => by cases hr; exact hmq
            cases h1 : lk u m with
            | some q' =>
              rw [h1] at hm
              cases q' with
              | none => cases hm
              | some q' => cases hm; exact .inl ⟨q', lk_of_mem h1, rfl⟩
            | none =>
              have fin : ∀ q' fl, p = (fl, q') → ((∃ fl, σ.ent m = some (fl, q')) ∧ (∃ fl, σ'.ent m = some (fl, q')) ∧ m ∉ lvNames σ' c.out) → (∃ e, (m, some e) ∈ u ∧ p = (true, e)) ∨ (m ∉ u.map (·.1) ∧ m ∉ lvNames σ' c.out ∧ N m ∧ (∀ q ∈ entNames p.2, N q) ∧ ∃ fl, σ'.ent m = some (fl, p.2)) := by
                rintro q' fl rfl ⟨⟨fl0, q0⟩, ⟨fl1, q1⟩, q2⟩
                obtain ⟨r1, r2⟩ := h0.core.tabs m _ q0
                exact .inr ⟨lk_none h1, q2, r1, r2, fl1, q1⟩
              rw [h1] at hm
              cases h2 : lk (σ.tab.filter fun p => !(has names p.1)) m with
              | some q' =>
                rw [h2] at hm
                cases q' with
                | none => cases hm
                | some q' => cases hm; exact fin q' true rfl (hev q' hne (by rw [h2]))
              | none =>
                rw [h2] at hm
                cases h3 : lk σ.ktab m with
                | none => rw [h3] at hm; cases hm
                | some q' =>
                  rw [h3] at hm
                  cases q' with
                  | none => cases hm
                  | some q' => cases hm; exact fin q' false rfl (hev q' hne (by rw [h2]; exact h3))) (fun m hm => by
          obtain ⟨p, hp'⟩ := lk_isSome hm
          obtain ⟨q', hq⟩ := hu _ (lk_of_mem hp')
          simp only at hq
          subst hq
          simp only [St.ent, lk_cons, lk_append]
          by_cases hmq : m = q.1
          · rw [if_pos hmq]; rfl
          · rw [if_neg hmq, hp']; rfl)
      have hkey : ∀ q ∈ u, σ.next ≤ q.1 ∧ q.1 < nx := fun q hq => by
        have : q.1 ∈ u.map (·.1) := List.mem_map_of_mem hq
        rw [k5, List.mem_range'_1] at this
        omega
      refine ⟨ι', ⟨k1, fun m hm => ?_, fun p hp' q' hq => ?_, fun p hp' => Nat.lt_of_lt_of_le (h0.kb p hp') k3, fun q' hq => ?_⟩, k2, ⟨rfl, rfl, k3⟩⟩
      · rcases hm with hm | hm
        · exact Nat.lt_of_lt_of_le (h0.lt m hm) k3
        · exact hm.2
      · rcases List.mem_cons.1 hq with hq | hq
        · subst hq; exact h0.disj p hp' (q.1, some eq0) (lk_of_mem hq0)
        rcases List.mem_append.1 hq with hq | hq
        · have := h0.kb p hp'; have := (hkey q' hq).1; omega
        · exact h0.disj p hp' q' (List.mem_filter.1 hq).1
      · rcases List.mem_cons.1 hq with hq | hq
        · subst hq; exact Nat.lt_of_lt_of_le hqlt k3
        rcases List.mem_append.1 hq with hq | hq
        · exact (hkey q' hq).2
        · exact Nat.lt_of_lt_of_le (h0.tb q' (List.mem_filter.1 hq).1) k3

end
end Go.Proofs.Ytacmfiddaklkiab.Lift
