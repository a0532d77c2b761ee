/- 'Lift': a region in the order of the text, with calls that are walked in place. -/
import Derived.Test.YtacmfiddaklkiabLFrz
set_option linter.unusedVariables false
set_option linter.unusedSimpArgs false
namespace Go.Proofs.Ytacmfiddaklkiab.Lift
open Go Go.RowKit

/-- A walk in place is sound: what the call leaves. -/
def InlSound (P : Program) (E : Env) (inl : Inl) : Prop :=
  ∀ {ρ : Type} (S : Nat → Prop) (w0 : World) (f : FuncId) (fn : Func) (vs : List Val) (σ : St) (K : Val → St → Option ρ) (r : ρ) (N : Nat → Prop) (vals : Array Value) (w : World) (ι : Inj),
    lk E.inls f = some fn → inl f fn vs σ K = some r → Inv S w0 ι σ.ent w → vs.length = vals.size → (∀ (i : Nat) v u, vs[i]? = some v → vals[i]? = some u → RelV w (Av S ι) ι v u) → (∀ v ∈ vs, ∀ m ∈ namesOf v, N m) →
    (∀ m p, σ.ent m = some p → N m ∧ ∀ q ∈ entNames p.2, N q) → (∀ m, N m → m < σ.next) → (∀ p ∈ σ.ktab, ∀ q ∈ σ.tab, p.1 ≠ q.1) → (∀ p ∈ σ.ktab, p.1 < σ.next) → (∀ p ∈ σ.tab, p.1 < σ.next) →
    Calls P f vals w fun e w' => ∃ u v σ' ι', e = .returned u ∧ K v σ' = some r ∧ σ'.tmps = σ.tmps ∧ Out σ σ' ∧ Inv S w0 ι' σ'.ent w' ∧ RelV w' (Av S ι') ι' v u ∧ Ev S σ.next w ι w' ι' ∧ (∀ m ∈ namesOf v, Post N σ σ' m) ∧
      (∀ m p, σ'.ent m = some p → Post N σ σ' m ∧ ∀ q ∈ entNames p.2, Post N σ σ' q) ∧ (∀ p ∈ σ'.ktab, ∀ q ∈ σ'.tab, p.1 ≠ q.1) ∧ ∀ p ∈ σ'.tab, p.1 < σ'.next

section
variable {P : Program} {S : Nat → Prop} {w0 w : World} {ι : Inj} {T : Tab} {nm : Nat} {o : Oper} {a : Act} {N : Nat → Prop} {ρ : Type} {r : ρ} {E : Env} {inl : Inl}

theorem run_enter {f : FuncId} {fn : Func} {c : Call} (hop : o.op = .call c) (hc : c.callee = .value (.func f)) (h1 : P.funcs[f]? = some fn) (h2 : (fn.name == "runtime.NumGoroutine") = false) (h3 : fn.body.isSome = true) :
    (execOp a.eval o).run P w = .ok (.enter f (c.args.map a.eval)) w := by
  have hb : ¬ fn.body = none := fun h => by rw [h] at h3; cases h3
  have hnn : ¬ fn.name = "runtime.NumGoroutine" := fun hh => by rw [hh] at h2; simp at h2
  simp only [execOp, hop, resolve, hc]
  simp [Act.eval, Deferred.ofValue, invoke, callFunc, go_sem, h1, hnn, hb]

theorem yielded_bool {ops : Array Oper} {g t : Nat} {b : Bool} (h : dstOf ops.toList g = some t) (ht : a.eval (.tmp t) = .bool b) : yielded ops a.tmps g = some b := by
  have h' : (ops[g]?).bind (·.dst) = some t := by
    unfold dstOf at h
    rw [Array.getElem?_toList] at h
    cases ho : ops[g]? with
    | none => rw [ho] at h; cases h
    | some q => rw [ho] at h; exact h
  have ht' : a.tmps[t]? = some (.bool b) := by
    simp only [Act.eval, Array.getD_eq_getD_getElem?] at ht
    cases hv : a.tmps[t]? with
    | none => rw [hv] at ht; simp [undef] at ht
    | some v => rw [hv] at ht; simpa using ht
  simp [yielded, h', ht']

theorem yielded_skp {ops : Array Oper} {g t : Nat} (h : dstOf ops.toList g = some t) (ht : a.eval (.tmp t) = undef) : yielded ops a.tmps g = none := by
  have h' : (ops[g]?).bind (·.dst) = some t := by
    unfold dstOf at h
    rw [Array.getElem?_toList] at h
    cases ho : ops[g]? with
    | none => rw [ho] at h; cases h
    | some q => rw [ho] at h; exact h
  simp only [yielded, h', Option.bind_some]
  simp only [Act.eval, Array.getD_eq_getD_getElem?] at ht
  cases hv : a.tmps[t]? with
  | none => rfl
  | some v =>
    rw [hv] at ht
    simp only [Option.getD_some] at ht
    rw [ht]; rfl

/-- The names in use within a region, before its operation i. -/
def Mid (N : Nat → Prop) (base size i next : Nat) : Nat → Prop := fun m => N m ∨ (base ≤ m ∧ m < base + 16 * i) ∨ (base + 16 * size ≤ m ∧ m < next)

theorem inlOf_some {ev : Operand → Val} {op : Op} {f : FuncId} {fn : Func} {vs : List Val} (h : inlOf E ev op = some (f, fn, vs)) : ∃ c, op = .call c ∧ lk E.inls f = some fn ∧
    ((c.callee = .value (.func f) ∧ vs = c.args.toList.map ev) ∨ ∃ t caps, c.callee = .value (.tmp t) ∧ ev (.tmp t) = .clo f caps ∧ vs = c.args.toList.map ev ++ caps.map fun p => .v p.1 p.2) := by
  unfold inlOf at h
  split at h
  · rename_i c
    split at h
    · rename_i f' hc
      split at h
      · rename_i fn' hl
        cases h
        exact ⟨c, rfl, hl, .inl ⟨hc, rfl⟩⟩
      · cases h
    · rename_i t hc
      split at h
      · rename_i f' caps hev
        split at h
        · rename_i fn' hl
          cases h
          exact ⟨c, rfl, hl, .inr ⟨t, caps, hc, hev, rfl⟩⟩
        · cases h
      · cases h
    · cases h
  · cases h

/-- What a call walked in place comes to. -/
theorem inl_enter {ev : Operand → Val} {A : Nat → Prop} {f : FuncId} {fn : Func} {vs : List Val} (hx : ∀ x, RelV w A ι (ev x) (a.eval x)) (hN : ∀ x, ∀ n ∈ namesOf (ev x), N n) (h : inlOf E ev o.op = some (f, fn, vs))
    (h1 : P.funcs[f]? = some fn) (h2 : (fn.name == "runtime.NumGoroutine") = false) (h3 : fn.body.isSome = true) :
    ∃ vals : Array Value, (execOp a.eval o).run P w = .ok (.enter f vals) w ∧ vs.length = vals.size ∧ (∀ (i : Nat) v u, vs[i]? = some v → vals[i]? = some u → RelV w A ι v u) ∧ ∀ v ∈ vs, ∀ m ∈ namesOf v, N m := by
  have hb : ¬ fn.body = none := fun h => by rw [h] at h3; cases h3
  have hnn : ¬ fn.name = "runtime.NumGoroutine" := fun hh => by rw [hh] at h2; simp at h2
  have hargs : ∀ (c : Call) (j : Nat) v u, (c.args.toList.map ev)[j]? = some v → (c.args.map a.eval)[j]? = some u → RelV w A ι v u := fun c j v u hv hu => by
    rw [List.getElem?_map] at hv
    rw [Array.getElem?_map] at hu
    obtain ⟨x, hx1, rfl⟩ := Option.map_eq_some_iff.1 hv
    obtain ⟨x', hx', rfl⟩ := Option.map_eq_some_iff.1 hu
    rw [Array.getElem?_toList, hx'] at hx1
    cases hx1
    exact hx x
  have hnames : ∀ (c : Call), ∀ v ∈ c.args.toList.map ev, ∀ m ∈ namesOf v, N m := fun c v hv m hm => by
    obtain ⟨x, _, rfl⟩ := List.mem_map.1 hv
    exact hN x m hm
  obtain ⟨c, hop, hl, ⟨hc, rfl⟩ | ⟨t, caps, hc, hev, rfl⟩⟩ := inlOf_some h
  · exact ⟨c.args.map a.eval, run_enter hop hc h1 h2 h3, by simp, hargs c, hnames c⟩
  · have hr := hx (.tmp t)
    rw [hev] at hr
    obtain ⟨cv, hcv, hcl, hcr⟩ := hr
    refine ⟨c.args.map a.eval ++ cv, ?_, by simp [hcl], fun i v u hv hu => ?_, fun v hv m hm => ?_⟩
    · have hres : resolve a.eval c o.type = pure { target := .fn (.func f) cv, args := c.args.map a.eval } := by
        simp only [resolve, hc, hcv, Deferred.ofValue, Array.empty_append]
      simp only [execOp, hop, hres]
      simp [invoke, callFunc, go_sem, h1, hnn, hb]
    · by_cases hi : i < c.args.size
      · rw [List.getElem?_append_left (by simpa using hi)] at hv
        rw [Array.getElem?_append_left (by simpa using hi)] at hu
        exact hargs c i v u hv hu
      · rw [List.getElem?_append_right (by simpa using hi)] at hv
        rw [Array.getElem?_append_right (by simpa using hi)] at hu
        simp only [List.length_map, Array.length_toList, List.getElem?_map] at hv
        simp only [Array.size_map] at hu
        obtain ⟨p, hp, rfl⟩ := Option.map_eq_some_iff.1 hv
        obtain ⟨u', q1, q2⟩ := hcr _ p.1 p.2 hp
        rw [q1] at hu
        cases hu
        exact q2
    · rcases List.mem_append.1 hv with hv | hv
      · exact hnames c v hv m hm
      · obtain ⟨p, hp, rfl⟩ := List.mem_map.1 hv
        obtain ⟨i, hi⟩ := List.mem_iff_getElem?.1 hp
        refine hN (.tmp t) m ?_
        rw [hev]
        exact namesT_mem (a := p.1) (cs := p.2) hi hm

theorem opsK_sound (hE : EnvOk P E) (hI : InlSound P E inl) {ops : Array Oper} {n base : Nat} {Q : Exit → Act → World → Prop} (hbelow : ∀ o ∈ ops.toList, ∀ t, o.dst = some t → t < n) (hNb : ∀ m, N m → m < base) :
    ∀ (rest : List Oper) (i : Nat) (σ : St) (K : St → Option ρ) (a : Act) (w : World) (ι : Inj), i ≤ ops.size → ops.toList.drop i = rest → opsK E inl base ops.toList rest i σ K = some r →
      SimF S w0 (Mid N base ops.size i σ.next) n σ.tmp σ.ent a w ι → base + 16 * ops.size ≤ σ.next → (∀ p ∈ σ.ktab, ∀ q ∈ σ.tab, p.1 ≠ q.1) → (∀ p ∈ σ.ktab, p.1 < base) → (∀ p ∈ σ.tab, p.1 < σ.next) →
      (∀ σ' a' w' ι', K σ' = some r → SimF S w0 (Mid N base ops.size ops.size σ'.next) n σ'.tmp σ'.ent a' w' ι' → Ev S base w ι w' ι' → Out σ σ' → (∀ p ∈ σ'.ktab, ∀ q ∈ σ'.tab, p.1 ≠ q.1) → (∀ p ∈ σ'.tab, p.1 < σ'.next) → Q .normal a' w') →
      wpOps P ops Q (List.range' i rest.length) a w := by
  intro rest
  induction rest with
  | nil =>
    intro i σ K a w ι hle hr h hs hnx hd hk htb hQ
    have hi : ops.size ≤ i := by
      have := List.drop_eq_nil_iff.1 hr
      simpa using this
    have hie : i = ops.size := by omega
    subst hie
    exact hQ σ a w ι h hs Ev.refl (Out.refl σ) hd htb
  | cons o rest ih =>
    intro i σ K a w ι hle hr h hs hnx hd hk htb hQ
    have hlt : i < ops.size := by
      rcases Nat.lt_or_ge i ops.size with h | h
      · exact h
      · rw [List.drop_eq_nil_of_le (by simpa using h)] at hr; cases hr
    have hoi : ops[i]? = some o := by
      have : (ops.toList.drop i)[0]? = some o := by rw [hr]; rfl
      rw [List.getElem?_drop] at this
      simpa using this
    have hr' : ops.toList.drop (i + 1) = rest := by
      have := congrArg List.tail hr
      rw [List.tail_drop] at this
      exact this
    have hdst : ∀ t, o.dst = some t → t < n := hbelow o (List.mem_of_mem_drop (i := i) (by rw [hr]; exact List.mem_cons_self))
    rw [List.length_cons, List.range'_succ]
    simp only [wpOps, hoi]
    -- going on behind the operation
    have go : ∀ (σ1 : St) (a1 : Act) (w1 : World) (ι1 : Inj), opsK E inl base ops.toList rest (i + 1) σ1 K = some r → SimF S w0 (Mid N base ops.size (i + 1) σ1.next) n σ1.tmp σ1.ent a1 w1 ι1 → Ev S base w ι w1 ι1 → Out σ σ1 →
        (∀ p ∈ σ1.ktab, ∀ q ∈ σ1.tab, p.1 ≠ q.1) → (∀ p ∈ σ1.tab, p.1 < σ1.next) → wpOps P ops Q (List.range' (i + 1) rest.length) a1 w1 := by
      intro σ1 a1 w1 ι1 h1 hs1 hev hout hd1 htb1
      refine ih (i + 1) σ1 K a1 w1 ι1 (by omega) hr' h1 hs1 (Nat.le_trans hnx hout.next) hd1 (by rw [hout.ktab]; exact hk) htb1 fun σ' a' w' ι' hK hs' hev' hout' hd' htb' => ?_
      exact hQ σ' a' w' ι' hK hs' (hev.trans hev' (Nat.le_refl _)) (hout.trans hout') hd' htb'
    have skip : ∀ σ0 : St, σ0.tmp = σ.tmp → σ0.tab = σ.tab → σ0.ktab = σ.ktab → σ0.kt = σ.kt → σ0.next = σ.next → opsK E inl base ops.toList rest (i + 1) (σ0.dst o.dst (.v false [.skp])) K = some r →
        wpOps P ops Q (List.range' (i + 1) rest.length) (a.put o.dst undef) w := by
      intro σ0 e1 e2 e3 e4 e5 h1
      have et : (σ0.dst o.dst (.v false [.skp])).tab = σ.tab := by cases o.dst <;> exact e2
      have ek : (σ0.dst o.dst (.v false [.skp])).ktab = σ.ktab := by cases o.dst <;> exact e3
      have ek' : (σ0.dst o.dst (.v false [.skp])).kt = σ.kt := by cases o.dst <;> exact e4
      have en : (σ0.dst o.dst (.v false [.skp])).next = σ.next := by cases o.dst <;> exact e5
      refine go _ _ w ι h1 ?_ Ev.refl ⟨ek', ek, by rw [en]; exact Nat.le_refl _⟩ (by rw [ek, et]; exact hd) (by rw [et, en]; exact htb)
      rw [tmp_dst, ent_eq et ek, en, e1]
      exact (hs.skip hdst).weaken fun m hm => by
        rcases hm with hm | hm | hm
        · exact .inl hm
        · exact .inr (.inl ⟨hm.1, by omega⟩)
        · exact .inr (.inr hm)
    have exec : ∀ σ0 : St, σ0.tmp = σ.tmp → σ0.tab = σ.tab → σ0.ktab = σ.ktab → σ0.kt = σ.kt → σ0.next = σ.next →
        (match inlOf E σ0.ev o.op with
        | some (f, fn, vs) => inl f fn vs σ0 fun v σ' => opsK E inl base ops.toList rest (i + 1) (σ'.dst o.dst v) K
        | none => opK E (frzOf E σ0 o.op).ent (base + 16 * i) (frzOf E σ0 o.op).ev o.op fun v u => opsK E inl base ops.toList rest (i + 1) (((frzOf E σ0 o.op).put u).dst o.dst v) K) = some r →
        o.wp P a w (wpOps P ops Q (List.range' (i + 1) rest.length)) Q := by
      intro σ0 e1 e2 e3 e4 e5 h1
      have eent : σ0.ent = σ.ent := ent_eq e2 e3
      have eev : σ0.ev = evF σ.tmp := by rw [ev_evF, e1]
      split at h1
      · -- a walk in place
        rename_i f fn vs hin
        rw [eev] at hin
        have hl : lk E.inls f = some fn := by obtain ⟨_, _, hl, _⟩ := inlOf_some hin; exact hl
        have hfn := hE.inls f fn hl
        obtain ⟨vals, hrun, hlen, hrel0, hnm0⟩ := inl_enter (P := P) (N := Mid N base ops.size i σ.next) hs.ev hs.evN hin hfn.here hfn.name hfn.body
        have hN0 : ∀ m, Mid N base ops.size i σ.next m → m < σ0.next := fun m hm => by
          rw [e5]
          rcases hm with hm | hm | hm
          · have := hNb m hm; omega
          · omega
          · omega
        have hcall := hI S w0 f fn vs σ0 _ r (Mid N base ops.size i σ.next) vals w ι hl h1 (by rw [eent]; exact hs.inv) hlen hrel0 hnm0
          (by rw [eent]; exact hs.tabs) hN0 (by rw [e2, e3]; exact hd) (fun p hp => by rw [e3] at hp; have := hk p hp; omega) (by rw [e2, e5]; exact htb)
        show o.upon P a _ Q ((execOp a.eval o).run P w)
        rw [hrun]
        refine Calls.mono hcall fun e w' he => ?_
        obtain ⟨u, v, σ', ι', rfl, hK, htm, hout, hinv, hrel, hev, hnv, htb2, hdj, htb3⟩ := he
        have htmp : σ'.tmp = σ.tmp := by
          rw [← e1]; funext t; simp only [St.tmp, htm, hout.kt]
        have et : (σ'.dst o.dst v).tab = σ'.tab := by cases o.dst <;> rfl
        have ek : (σ'.dst o.dst v).ktab = σ.ktab := by rw [← e3, ← hout.ktab]; cases o.dst <;> rfl
        have ek' : (σ'.dst o.dst v).kt = σ.kt := by rw [← e4, ← hout.kt]; cases o.dst <;> rfl
        have en : (σ'.dst o.dst v).next = σ'.next := by cases o.dst <;> rfl
        have hnx' : σ.next ≤ σ'.next := by rw [← e5]; exact hout.next
        have hpost : ∀ m, Post (Mid N base ops.size i σ.next) σ0 σ' m → Mid N base ops.size (i + 1) σ'.next m := fun m hm => by
          rcases hm with (hm | hm | hm) | hm
          · exact .inl hm
          · exact .inr (.inl ⟨hm.1, by omega⟩)
          · exact .inr (.inr ⟨hm.1, by omega⟩)
          · rw [e5] at hm; exact .inr (.inr ⟨by omega, hm.2⟩)
        refine go _ _ w' ι' hK ⟨by rw [ent_dst]; exact hinv, fun t => ?_, by rw [put_size]; exact hs.size, by rw [put_defers]; exact hs.defers, fun t m hm => ?_, fun m p hp => ?_⟩ ⟨hev.turn, fun m hm => hev.keep m (by rw [e5]; omega)⟩ ⟨ek', ek, by rw [en]; exact hnx'⟩ ?_ (by rw [et, en]; exact htb3)
        · rw [eval_put hs.size hdst, tmp_dst, htmp]
          unfold putF
          split
          · exact hrel
          · exact (hs.tmp t).turn hev.turn fun m hm => hev.keep m (hN0 m (hs.vals t m hm))
        · rw [en]
          rw [tmp_dst, htmp] at hm
          unfold putF at hm
          split at hm
          · exact hpost m (hnv m hm)
          · exact hpost m (.inl (hs.vals t m hm))
        · rw [en]
          rw [ent_dst] at hp
          exact ⟨hpost m (htb2 m p hp).1, fun q hq => hpost q ((htb2 m p hp).2 q hq)⟩
        · rw [ek, et]
          intro p hp q hq
          exact hdj p (by rw [hout.ktab, e3]; exact hp) q hq
      · have hs0 : SimF S w0 (Mid N base ops.size i σ.next) n σ0.tmp σ0.ent a w ι := by rw [e1, eent]; exact hs
        obtain ⟨ιf, hsf, hfr⟩ := frzOf_sim (E := E) σ0 o.op hs0
        generalize frzOf E σ0 o.op = σf at h1 hsf hfr
        rw [ev_evF, opK_bind] at h1
        obtain ⟨⟨v, u⟩, hk1, h1⟩ := Option.bind_eq_some_iff.1 h1
        refine hsf.step hE (nm := base + 16 * i) (fun m hm h16 => ?_) hdst hk1 fun a' w' ι' hs' ht hι hwr => ?_
        · obtain ⟨h3, h4⟩ := h16
          rcases hm with hm | hm | hm
          · have := hNb m hm; omega
          · omega
          · omega
        · have et : ((σf.put u).dst o.dst v).tab = u ++ σf.tab := by
            have : (σf.put u).tab = u ++ σf.tab := rfl
            cases o.dst <;> exact this
          have ek : ((σf.put u).dst o.dst v).ktab = σ.ktab := by rw [← e3, ← hfr.ktab]; cases o.dst <;> rfl
          have ek' : ((σf.put u).dst o.dst v).kt = σ.kt := by rw [← e4, ← hfr.kt]; cases o.dst <;> rfl
          have en : ((σf.put u).dst o.dst v).next = σ.next := by rw [← e5, ← hfr.next]; cases o.dst <;> rfl
          have htab : ∀ q ∈ σf.tab, ∃ q' ∈ σ.tab, q'.1 = q.1 := fun q hq => by
            obtain ⟨q', h1, h2⟩ := hfr.tab q hq
            exact ⟨q', by rw [← e2]; exact h1, h2⟩
          refine go _ a' w' ι' h1 ?_ ⟨hfr.turn.trans ht, fun m hm => ?_⟩ ⟨ek', ek, by rw [en]; exact Nat.le_refl _⟩ ?_ ?_
          · rw [tmp_dst, tmp_put, ent_dst, ent_put, en]
            refine hs'.weaken fun m hm => ?_
            rcases hm with (hm | hm | hm) | hm
            · exact .inl hm
            · exact .inr (.inl ⟨hm.1, by omega⟩)
            · exact .inr (.inr hm)
            · obtain ⟨h3, h4⟩ := hm
              exact .inr (.inl ⟨by omega, by omega⟩)
          · rcases hι m with e | e | e
            · rcases hfr.inj m with e' | e'
              · exact .inl (e.trans e')
              · exact .inr (e.trans e')
            · exact .inr e
            · obtain ⟨h3, h4⟩ := e; omega
          · rw [ek, et]
            intro p hp q hq
            rcases List.mem_append.1 hq with hq | hq
            · intro hpq
              rcases hwr q hq with h3 | ⟨e, h3⟩
              · have := hk p hp; obtain ⟨h3, h4⟩ := h3; omega
              · obtain ⟨q', hq', h4⟩ := ent_true h3
                obtain ⟨q2, hq2, h5⟩ := htab q' hq'
                exact hd p hp q2 hq2 (by rw [h5, h4, hpq])
            · obtain ⟨q2, hq2, h5⟩ := htab q hq
              rw [← h5]
              exact hd p hp q2 hq2
          · rw [et, en]
            intro q hq
            rcases List.mem_append.1 hq with hq | hq
            · rcases hwr q hq with ⟨h3, h4⟩ | ⟨e, h3⟩
              · omega
              · obtain ⟨q', hq', h4⟩ := ent_true h3
                obtain ⟨q2, hq2, h5⟩ := htab q' hq'
                rw [← h4, ← h5]; exact htb q2 hq2
            · obtain ⟨q2, hq2, h5⟩ := htab q hq
              rw [← h5]; exact htb q2 hq2
    unfold opsK at h
    simp only at h
    split at h
    · -- no guard
      rename_i hg
      have hw : Region.wanted o (yielded ops a.tmps) = true := by simp [Region.wanted, hg]
      rw [if_pos hw]
      exact .inl (exec σ rfl rfl rfl rfl rfl h)
    · rename_i g want hg
      split at h
      · cases h
      rename_i t ht
      have hrt := hs.tmp t
      split at h
      · rename_i b e
        rw [e] at hrt
        have hb := rel_bool hrt
        have hy := yielded_bool ht hb
        cases b
        · simp only [cond_false] at h
          obtain ⟨σ0, h0, e1, e2, e3, e4, e5⟩ := litK_some h e
          cases want
          · rw [if_pos (by simp [Region.wanted, hg, hy])]
            exact .inl (exec σ0 e1 e2 e3 e4 e5 h0)
          · rw [if_neg (by simp [Region.wanted, hg, hy])]
            exact skip σ0 e1 e2 e3 e4 e5 h0
        · simp only [cond_true] at h
          obtain ⟨σ0, h0, e1, e2, e3, e4, e5⟩ := litK_some h e
          cases want
          · rw [if_neg (by simp [Region.wanted, hg, hy])]
            exact skip σ0 e1 e2 e3 e4 e5 h0
          · rw [if_pos (by simp [Region.wanted, hg, hy])]
            exact .inl (exec σ0 e1 e2 e3 e4 e5 h0)
      · rename_i e
        rw [e] at hrt
        have hb := rel_skp hrt
        have hy := yielded_skp ht hb
        rw [if_neg (by simp [Region.wanted, hg, hy])]
        exact skip σ rfl rfl rfl rfl rfl h
      · cases h

end
end Go.Proofs.Ytacmfiddaklkiab.Lift
