/- 'Lift': functions. -/
import Derived.Test.YtacmfiddaklkiabLCode
set_option linter.unusedVariables false
set_option linter.unusedSimpArgs false
namespace Go.Proofs.Ytacmfiddaklkiab.Lift
open Go Go.RowKit

def rvRun (tmps : Array Value) : ResultVar → Sem Value
  | .tmp t => pure (tmps.getD t undef)
  | .cell a t => do loadVar t (← asAddr (tmps.getD a undef))

section
variable {P : Program} {S : Nat → Prop} {w0 w w1 : World} {ι ι1 : Inj} {T : Tab} {a a1 : Act} {N N' : Nat → Prop} {n : Nat} {σ σ' : St} {E : Env} {inl : Inl}

theorem sem_bind_pure {α : Type} (x : Sem α) : x.bind Sem.pure = x := by
  induction x with
  | frozen a k ih => simp only [Sem.bind]; rw [show (fun b => (k b).bind Sem.pure) = k from funext ih]
  | _ => simp only [Sem.bind] <;> simp_all

theorem sem_bind_assoc {α β γ : Type} (x : Sem α) (f : α → Sem β) (g : β → Sem γ) : (x.bind f).bind g = x.bind fun y => (f y).bind g := by
  induction x with
  | frozen a k ih => simp only [Sem.bind]; rw [show (fun b => ((k b).bind f).bind g) = fun b => (k b).bind fun y => (f y).bind g from funext ih]
  | _ => simp only [Sem.bind] <;> simp_all

theorem sem_lawful : LawfulMonad Sem := LawfulMonad.mk' Sem (id_map := fun x => sem_bind_pure x) (pure_bind := fun _ _ => rfl) (bind_assoc := fun x f g => sem_bind_assoc x f g)

theorem run_map {α β : Type} {f : β → Sem α} : ∀ {l : List β} {us : List α}, us.length = l.length → (∀ (i : Nat) x u, l[i]? = some x → us[i]? = some u → (f x).run P w = .ok u w) → (l.mapM f).run P w = .ok us w
  | [], us, hl, h => by
    have : us = [] := List.eq_nil_of_length_eq_zero hl
    subst this
    simp
  | x :: l, [], hl, h => by cases hl
  | x :: l, u :: us, hl, h => by
    have := sem_lawful
    rw [List.mapM_cons, Sem.run_bind, h 0 x u rfl rfl]
    simp only [Result.andThen_ok]
    rw [Sem.run_bind, run_map (l := l) (us := us) (by simpa using hl) (fun i y v h1 h2 => h (i + 1) y v (by simpa using h1) (by simpa using h2))]
    simp

theorem run_results {fn : Func} {us : List Value} (hl : us.length = fn.results.size) (h : ∀ (i : Nat) x u, fn.results[i]? = some x → us[i]? = some u → (rvRun a.tmps x).run P w = .ok u w) :
    (results fn a.tmps).run P w = .ok (retV us) w := by
  have e : results fn a.tmps = (do
      let vs ← fn.results.mapM (rvRun a.tmps)
      pure (if h : vs.size = 1 then vs[0] else .tuple vs)) := rfl
  rw [e, Sem.run_bind]
  have hm : (fn.results.mapM (rvRun a.tmps)).run P w = .ok us.toArray w := by
    have := sem_lawful
    rw [Array.mapM_eq_mapM_toList]
    have h2 := run_map (P := P) (w := w) (f := rvRun a.tmps) (l := fn.results.toList) (us := us) (by simpa using hl) (fun i x u h1 h2 => h i x u (by simpa using h1) h2)
    rw [map_eq_pure_bind, Sem.run_bind, h2]
    simp
  rw [hm]
  simp only [Result.andThen_ok, Sem.run_pure]
  match us with
  | [] => rfl
  | [v] => rfl
  | v1 :: v2 :: vs =>
    have : ¬ (v1 :: v2 :: vs).toArray.size = 1 := by simp
    rw [dif_neg this]
    rfl

theorem resCells_run (hE : EnvOk P E) (h : SimF S w0 N n σ.tmp σ.ent a w ι) {rv : ResultVar} {g : Bool} {cs : List Leaf} (e : resCells E σ rv = some (g, cs)) :
    ∃ u, (rvRun a.tmps rv).run P w = .ok u w ∧ RelV1 w (Av S ι) ι g cs u ∧ ∀ m ∈ namesV cs, N m := by
  cases rv with
  | tmp t =>
    simp only [resCells] at e
    have ht := h.tmp t
    have hn := h.vals t
    split at e
    · rename_i g' cs' htm
      cases e
      rw [htm] at ht hn
      exact ⟨a.eval (.tmp t), by simp [rvRun, Act.eval], ht, hn⟩
    · cases e
  | cell x t =>
    simp only [resCells] at e
    split at e
    case h_2 => cases e
    rename_i τ m off hτ htm
    split at e
    case h_2 => cases e
    rename_i fl cs0 hent
    obtain ⟨cs', hg, e⟩ := Option.map_eq_some_iff.1 e
    cases e
    have ht := h.tmp x
    rw [htm] at ht
    have hp := RelC.leaf ht
    simp only [RelL] at hp
    obtain ⟨l, b, vs, el, fz, hl, hb, hh, hf, hc⟩ := h.inv.ent m _ hent
    obtain ⟨b2, hb2, hp⟩ := hp.2.2 l hl
    rw [hb] at hb2; cases hb2
    have hx := List.singleton_inj.1 hp
    have hty := hE.tys.at hτ
    have hr := hc.get hg
    have hlen : ((vs.toList.drop off).take τ.size).length = τ.size := by rw [hr.length, getC_widths hg]
    refine ⟨mkV τ ((vs.toList.drop off).take τ.size), ?_, ?_, fun q hq => (h.tabs m _ hent).2 q (names_get hg q hq)⟩
    · simp only [Act.eval] at hx
      simp only [rvRun, Sem.run_bind, hx]
      have := run_loadVar (P := P) hty (cells_of_heap hh off τ.size) hlen
      simp [asAddr, this]
    · exact rel_mkV hty hr hlen

theorem resCellsL_run (hE : EnvOk P E) (h : SimF S w0 N n σ.tmp σ.ent a w ι) : ∀ {l : List ResultVar} {rs : List (Bool × List Leaf)}, resCellsL E σ l = some rs →
    ∃ us : List Value, us.length = l.length ∧ rs.length = l.length ∧ (∀ (i : Nat) x u, l[i]? = some x → us[i]? = some u → (rvRun a.tmps x).run P w = .ok u w) ∧
      ∀ (i : Nat) g cs u, rs[i]? = some (g, cs) → us[i]? = some u → RelV1 w (Av S ι) ι g cs u ∧ ∀ m ∈ namesV cs, N m
  | [], rs, e => by
    simp only [resCellsL] at e
    cases e
    exact ⟨[], rfl, rfl, fun i x u h => (by cases h), fun i g cs u h => (by cases h)⟩
  | rv :: l, rs, e => by
    simp only [resCellsL] at e
    obtain ⟨⟨g, cs⟩, h1, e⟩ := Option.bind_eq_some_iff.1 e
    obtain ⟨rs', h2, e⟩ := Option.bind_eq_some_iff.1 e
    cases e
    obtain ⟨u, k1, k2, k3⟩ := resCells_run hE h h1
    obtain ⟨us, q1, q2, q3, q4⟩ := resCellsL_run hE h h2
    refine ⟨u :: us, by simp [q1], by simp [q2], fun i x v hx hv => ?_, fun i g' cs' v hx hv => ?_⟩
    · cases i with
      | zero => cases hx; cases hv; exact k1
      | succ i => exact q3 i x v (by simpa using hx) (by simpa using hv)
    · cases i with
      | zero => cases hx; cases hv; exact ⟨k2, k3⟩
      | succ i => exact q4 i g' cs' v (by simpa using hx) (by simpa using hv)

theorem rel_resV {A : Nat → Prop} {rs : List (Bool × List Leaf)} {us : List Value} (hl : us.length = rs.length) (h : ∀ (i : Nat) g cs u, rs[i]? = some (g, cs) → us[i]? = some u → RelV1 w A ι g cs u) :
    RelV w A ι (resV rs) (retV us) := by
  match rs, us, hl, h with
  | [], [], _, _ => exact ⟨#[], rfl, fun i g cs hi => by cases hi⟩
  | [(g, cs)], [v], _, h => exact h 0 g cs v rfl rfl
  | p :: q :: rs, v1 :: v2 :: us, hl, h =>
    have h2 : retV (v1 :: v2 :: us) = .tuple (v1 :: v2 :: us).toArray := rfl
    have h3 : resV (p :: q :: rs) = .tup (p :: q :: rs) := by obtain ⟨g, cs⟩ := p; rfl
    rw [h2, h3]
    refine ⟨_, rfl, fun i g cs hi => ?_⟩
    have hlt : i < (v1 :: v2 :: us).length := by rw [hl]; exact (List.getElem?_eq_some_iff.1 hi).1
    exact ⟨(v1 :: v2 :: us)[i], by simp, h i g cs _ hi (List.getElem?_eq_getElem hlt)⟩

theorem names_resV {rs : List (Bool × List Leaf)} (h : ∀ (i : Nat) g cs, rs[i]? = some (g, cs) → ∀ m ∈ namesV cs, N m) : ∀ m ∈ namesOf (resV rs), N m := by
  have key : ∀ l : List (Bool × List Leaf), (∀ (i : Nat) g cs, l[i]? = some (g, cs) → ∀ m ∈ namesV cs, N m) → ∀ m ∈ namesT l, N m := by
    intro l
    induction l with
    | nil => intro _ m hm; cases hm
    | cons p l ih =>
      intro hl m hm
      simp only [namesT] at hm
      rcases List.mem_append.1 hm with hm | hm
      · exact hl 0 p.1 p.2 rfl m hm
      · exact ih (fun i g cs hi => hl (i + 1) g cs (by simpa using hi)) m hm
  match rs, h with
  | [], h => exact fun m hm => by cases hm
  | [(g, cs)], h => exact h 0 g cs rfl
  | p :: q :: rs, h =>
    have h3 : resV (p :: q :: rs) = .tup (p :: q :: rs) := by obtain ⟨g, cs⟩ := p; rfl
    rw [h3]
    exact key _ h

theorem lk_zip {α : Type} : ∀ (l : List α) (s t : Nat), lk ((List.range' s l.length).zip l) (s + t) = l[t]?
  | [], s, t => by simp [lk]
  | x :: l, s, t => by
    simp only [List.length_cons, List.range'_succ, List.zip_cons_cons, lk]
    cases t with
    | zero => rw [Nat.add_zero, Nat.beq_refl]; rfl
    | succ t =>
      have : Nat.beq s (s + (t + 1)) = false := by
        cases hb : Nat.beq s (s + (t + 1)) with
        | false => rfl
        | true => have := Nat.eq_of_beq_eq_true hb; omega
      rw [this]
      have ih := lk_zip l (s + 1) t
      rw [show s + 1 + t = s + (t + 1) by omega] at ih
      simpa using ih

theorem eval_args {vals : Array Value} {k t : Nat} {v : Value} (h : vals[t]? = some v) : Act.eval { tmps := vals ++ Array.replicate k undef, defers := [] } (.tmp t) = v := by
  have hlt := (Array.getElem?_eq_some_iff.1 h).1
  simp only [Act.eval, Array.getD_eq_getD_getElem?]
  rw [Array.getElem?_append_left hlt, h]
  rfl

theorem EnvOk.at (hE : EnvOk P E) (f : FuncId) : EnvOk P (E.at f) := by
  unfold Env.at
  split
  · exact ⟨⟨hE.tys.ty, hE.tys.bytes⟩, hE.specs, hE.nils, hE.inls, hE.mixed⟩
  · exact ⟨⟨hE.tys.ty, hE.tys.bytes⟩, hE.specs, hE.nils, hE.inls, hE.mixed⟩

theorem InlSound.at {inl : Inl} (h : InlSound P E inl) (f : FuncId) : InlSound P (E.at f) inl := by
  have e : (E.at f).inls = E.inls := by unfold Env.at; split <;> rfl
  intro ρ S w0 g fn vs σ K r N vals w ι hl
  rw [e] at hl
  exact h S w0 g fn vs σ K r N vals w ι hl

theorem inl_sound (hE : EnvOk P E) : ∀ d, InlSound P E (inlK E d) := by
  intro d
  induction d with
  | zero =>
    intro ρ S w0 f fn vs σ K r N vals w ι hl h
    simp only [inlK] at h
    cases h
  | succ d ih =>
    intro ρ S w0 f fn vs σ K r N vals w ι hl h hinv hlen hrel hnames htabs hlt hdisj hkb htb
    have hfn := hE.inls f fn hl
    simp only [inlK] at h
    split at h
    · cases h
    rename_i c hc
    refine calls_of_wp hfn.here hc ?_
    have htmp : ∀ t, St.tmp ⟨(List.range vs.length).zip vs, [], σ.tab, σ.ktab, σ.next⟩ t = match vs[t]? with | some v => v | none => .v false [.undef] := by
      intro t
      have := lk_zip vs 0 t
      rw [Nat.zero_add, ← List.range_eq_range'] at this
      rw [tmp_eq, this]
      cases vs[t]? <;> rfl
    refine evalC_sound (hE.at f) (ih.at f) c (n := fn.ntmps) (N := N) (ι := ι) (S := S) (w0 := w0) (hfn.below c hc) h ⟨⟨hinv, fun t => ?_, ?_, rfl, fun t m hm => ?_, htabs⟩, hlt, hdisj, hkb, htb⟩ fun ex σ' a' w' ι' hK hD => ?_
    · rw [htmp]
      cases hv : vs[t]? with
      | none => exact rel_undef
      | some v =>
        have hlt' : t < vals.size := by rw [← hlen]; exact (List.getElem?_eq_some_iff.1 hv).1
        rw [eval_args (Array.getElem?_eq_getElem hlt')]
        exact hrel t v _ hv (Array.getElem?_eq_getElem hlt')
    · simp; omega
    · rw [htmp] at hm
      cases hv : vs[t]? with
      | none => rw [hv] at hm; cases hm
      | some v => rw [hv] at hm; exact hnames v (List.mem_of_getElem? hv) m hm
    · have fin : (match resCellsL E σ' fn.results.toList with | none => none | some rs => K (resV rs) { σ with tab := σ'.tab, next := σ'.next }) = some r →
          a'.defers = [] ∧ ∃ v, (results fn a'.tmps).run P w' = .ok v w' ∧ ∃ u v2 σ2 ι2, Ending.returned v = .returned u ∧ K v2 σ2 = some r ∧ σ2.tmps = σ.tmps ∧ Out σ σ2 ∧ Inv S w0 ι2 σ2.ent w' ∧ RelV w' (Av S ι2) ι2 v2 u ∧ Ev S σ.next w ι w' ι2 ∧ (∀ m ∈ namesOf v2, Post N σ σ2 m) ∧
            (∀ m p, σ2.ent m = some p → Post N σ σ2 m ∧ ∀ q ∈ entNames p.2, Post N σ σ2 q) ∧ (∀ p ∈ σ2.ktab, ∀ q ∈ σ2.tab, p.1 ≠ q.1) ∧ ∀ p ∈ σ2.tab, p.1 < σ2.next := by
        intro hK
        split at hK
        · cases hK
        rename_i rs hrs
        obtain ⟨us, q1, q2, q3, q4⟩ := resCellsL_run hE hD.sim.core hrs
        have hrun := run_results (a := a') (P := P) (w := w') (fn := fn) (us := us) (by rw [q1]; simp) (fun i x u hx hu => q3 i x u (by simpa using hx) hu)
        have hkt : σ'.ktab = σ.ktab := hD.out.ktab
        have hent : St.ent { σ with tab := σ'.tab, next := σ'.next } = σ'.ent := ent_eq rfl hkt.symm
        refine ⟨hD.sim.core.defers, _, hrun, retV us, resV rs, { σ with tab := σ'.tab, next := σ'.next }, ι', rfl, hK, rfl, ⟨rfl, rfl, hD.out.next⟩, by rw [hent]; exact hD.sim.core.inv,
          rel_resV (by rw [q1, q2]) (fun i g cs u h1 h2 => (q4 i g cs u h1 h2).1), hD.ev, ?_, ?_, ?_, hD.sim.tb⟩
        · refine names_resV fun i g cs hi m hm => ?_
          have hlt' : i < us.length := by rw [q1, ← q2]; exact (List.getElem?_eq_some_iff.1 hi).1
          exact (q4 i g cs _ hi (List.getElem?_eq_getElem hlt')).2 m hm
        · rw [hent]; exact hD.sim.core.tabs
        · intro p hp q hq
          exact hD.sim.disj p (by rw [hkt]; exact hp) q hq
      cases ex with
      | exit id => simp only at hK; cases hK
      | normal => exact fin hK
      | ret => exact fin hK

theorem rel_toV {A : Nat → Prop} {τ : Ty} {x : τ.den} {v : Value} (h : VEnc w A τ x v) : RelV w A ι (toV τ x) v := by
  unfold VEnc at h
  show RelV1 w A ι τ.agg (toC τ x) v
  cases ha : τ.agg with
  | true => rw [ha] at h; obtain ⟨vs, e, h⟩ := h; exact ⟨vs, e, RelC.toC h⟩
  | false => rw [ha] at h; exact RelC.toC h

theorem VEnc.less {A A' : Nat → Prop} (k : ∀ b, A' b → A b) {τ : Ty} {x : τ.den} {v : Value} (h : VEnc w A τ x v) : VEnc w A' τ x v := by
  unfold VEnc at h ⊢
  split at h
  · obtain ⟨vs, e, h⟩ := h; exact ⟨vs, e, h.turn (Turn.less w k)⟩
  · exact h.turn (Turn.less w k)

theorem args_rel {A : Nat → Prop} : ∀ {l : List Ty} {x : (tup l).den} {vals : List Value} {i : Nat}, ArgsOk w A l x vals → ∀ t v, lk (argTmps l x i) t = some v →
    ∃ j u, t = i + j ∧ vals[j]? = some u ∧ RelV w A ι v u ∧ namesOf v = []
  | [], _, _, _, _, t, v, h => by cases h
  | [τ], x, vals, i, hok, t, v, h => by
    obtain ⟨u, rfl, hv⟩ := hok
    simp only [argTmps, lk] at h
    split at h
    · rename_i hb
      cases h
      exact ⟨0, u, by have := Nat.eq_of_beq_eq_true hb; omega, rfl, rel_toV hv, by simp only [toV, namesOf]; exact names_toC⟩
    · cases h
  | τ :: b :: r, x, vals, i, hok, t, v, h => by
    obtain ⟨u, us, rfl, hv, hr⟩ := hok
    simp only [argTmps, lk] at h
    split at h
    · rename_i hb
      cases h
      exact ⟨0, u, by have := Nat.eq_of_beq_eq_true hb; omega, rfl, rel_toV hv, by simp only [toV, namesOf]; exact names_toC⟩
    · obtain ⟨j, u', k1, k2, k3, k4⟩ := args_rel hr t v h
      exact ⟨j + 1, u', by omega, by simpa using k2, k3, k4⟩

theorem ofVal_encO (I : Inv S w0 ι T w) {τ : Ty} {g : Bool} {cs : List Leaf} {x : τ.den} {v : Value} (h : ofVal T τ g cs = some x) (hr : RelV1 w (Av S ι) ι g cs v) :
    ∃ lc ns ss, (ownNames cs).Perm (ns ++ ss) ∧ lc.filterMap Loc.blk = ns.filterMap (fun n => (ι n).bind Loc.blk) ∧
      ∀ B : Nat → Prop, (∀ b, B b → Av S ι b) → (∀ n ∈ ss, ∀ l b, ι n = some l → l.blk = some b → ¬ B b) → VEncO w B τ x v lc := by
  unfold ofVal at h
  split at h
  · rename_i ha
    obtain ⟨vs, rfl, hr⟩ := hr
    obtain ⟨lc, ns, ss, h1, h2, h3⟩ := ofCs_encO I h hr
    exact ⟨lc, ns, ss, h1, h2, fun B hB hs => by unfold VEncO; rw [ha]; exact ⟨vs, rfl, h3 B hB hs⟩⟩
  · rename_i ha
    obtain ⟨lc, ns, ss, h1, h2, h3⟩ := ofCs_encO I h hr
    exact ⟨lc, ns, ss, h1, h2, fun B hB hs => by unfold VEncO; rw [ha]; exact h3 B hB hs⟩
  · cases h

theorem retR_enc (I : Inv S w0 ι T w) : ∀ {l : List Ty} {rs : List (Bool × List Leaf)} {y : (tup l).den} {us : List Value}, retR T l rs = some y → us.length = rs.length →
    (∀ (i : Nat) g cs u, rs[i]? = some (g, cs) → us[i]? = some u → RelV1 w (Av S ι) ι g cs u) →
    ∃ lc ns ss, (rs.flatMap fun p => ownNames p.2).Perm (ns ++ ss) ∧ lc.filterMap Loc.blk = ns.filterMap (fun n => (ι n).bind Loc.blk) ∧
      ∀ B : Nat → Prop, (∀ b, B b → Av S ι b) → (∀ n ∈ ss, ∀ l b, ι n = some l → l.blk = some b → ¬ B b) → ResOk w B l y us lc
  | [], [], y, us, h, hl, _ => ⟨[], [], [], by simp, rfl, fun B _ _ => ⟨List.eq_nil_of_length_eq_zero hl, rfl⟩⟩
  | [], _ :: _, y, us, h, hl, _ => by exact nomatch (show (none : Option _) = some y from h)
  | [τ], [], y, us, h, hl, _ => by exact nomatch (show (none : Option _) = some y from h)
  | [τ], [(g, cs)], y, us, h, hl, hr => by
    have h : ofVal T τ g cs = some y := h
    match us, hl with
    | [u], _ =>
      obtain ⟨lc, ns, ss, h1, h2, h3⟩ := ofVal_encO I h (hr 0 g cs u rfl rfl)
      exact ⟨lc, ns, ss, by simpa using h1, h2, fun B hB hs => ⟨u, rfl, h3 B hB hs⟩⟩
  | [τ], _ :: _ :: _, y, us, h, hl, _ => by exact nomatch (show (none : Option _) = some y from h)
  | τ :: b :: r, [], y, us, h, hl, _ => by exact nomatch (show (none : Option _) = some y from h)
  | τ :: b :: r, (g, cs) :: rs, y, us, h, hl, hr => by
    have h : (ofVal T τ g cs).bind (fun x => (retR T (b :: r) rs).bind fun y => some (x, y)) = some y := h
    obtain ⟨x1, hx1, h⟩ := Option.bind_eq_some_iff.1 h
    obtain ⟨x2, hx2, h⟩ := Option.bind_eq_some_iff.1 h
    cases h
    match us, hl with
    | u :: us, hl =>
      obtain ⟨l1, n1, s1, a1, a2, a3⟩ := ofVal_encO I hx1 (hr 0 g cs u rfl rfl)
      obtain ⟨l2, n2, s2, b1, b2, b3⟩ := retR_enc I hx2 (us := us) (by simpa using hl) (fun i g cs u h1 h2 => hr (i + 1) g cs u (by simpa using h1) (by simpa using h2))
      refine ⟨l1 ++ l2, n1 ++ n2, s1 ++ s2, ?_, by simp [List.filterMap_append, a2, b2], fun B hB hs => ⟨u, us, l1, l2, rfl, rfl, a3 B hB (fun n hn => hs n (List.mem_append_left _ hn)), b3 B hB (fun n hn => hs n (List.mem_append_right _ hn))⟩⟩
      rw [List.flatMap_cons]
      refine (a1.append b1).trans ?_
      simp only [List.append_assoc]
      refine List.Perm.append_left n1 ?_
      rw [← List.append_assoc, ← List.append_assoc]
      exact List.Perm.append_right s2 List.perm_append_comm

theorem hasOwn_ownsL : ∀ {l : List Ty}, l.any Ty.hasOwn = false → ownsL l = 0
  | [], _ => rfl
  | τ :: l, h => by
    simp only [List.any_cons, Bool.or_eq_false_iff] at h
    simp [ownsL, hasOwn_owns h.1, hasOwn_ownsL h.2]

theorem nodup_blks {f : Nat → Option Nat} (hinj : ∀ i j b, f i = some b → f j = some b → i = j) : ∀ {ns : List Nat}, ns.Nodup → (ns.filterMap f).Nodup
  | [], _ => List.nodup_nil
  | m :: ns, h => by
    rw [List.nodup_cons] at h
    cases hf : f m with
    | none => rw [List.filterMap_cons_none hf]; exact nodup_blks hinj h.2
    | some b =>
      rw [List.filterMap_cons_some hf, List.nodup_cons]
      refine ⟨fun hm => ?_, nodup_blks hinj h.2⟩
      obtain ⟨j, hj, hb⟩ := List.mem_filterMap.1 hm
      exact h.1 (by rw [hinj m j b hf hb]; exact hj)

/-- A function whose evaluation is known does what its specification says. -/
theorem sound_of_eq {f : FuncId} {fn : Func} {s : FSpec} (hE : EnvOk P E) (hf : InlOk P f fn) (ho : ownsL s.res ≤ 16) (heq : ∀ x, fnEval E s.args s.res fn x = s.f x) : Sound P f s := by
  refine ⟨⟨fn, hf.here, hf.name, hf.body⟩, ho, fun S w vals x y hS hargs hy => ?_⟩
  rw [← heq] at hy
  unfold fnEval at hy
  split at hy
  · cases hy
  rename_i c hc
  refine calls_of_wp hf.here hc ?_
  have hAv : ∀ b, Av S (fun _ => none) b → S b := fun b hb => by
    rcases hb with h | ⟨n, l, h, _⟩
    · exact h
    · cases h
  have hargs' : ArgsOk w (Av S fun _ => none) s.args x vals.toList := by
    have key : ∀ (l : List Ty) (x : (tup l).den) (vs : List Value), ArgsOk w S l x vs → ArgsOk w (Av S fun _ => none) l x vs := by
      intro l
      induction l with
      | nil => intro x vs h; exact h
      | cons τ l ih =>
        intro x vs h
        match l, ih, x, h with
        | [], _, x, h => obtain ⟨v, e, hv⟩ := h; exact ⟨v, e, hv.less hAv⟩
        | b :: r, ih, x, h => obtain ⟨v, us, e, hv, hr⟩ := h; exact ⟨v, us, e, hv.less hAv, ih _ _ hr⟩
    exact key _ _ _ hargs
  refine evalC_sound hE (inl_sound hE 6) c (n := fn.ntmps) (N := fun _ => False) (ι := fun _ => none) (S := S) (w0 := w) (hf.below c hc) hy
    ⟨⟨⟨Below.refl _ _, hS, fun n l b h => (by cases h), fun n m l l' b h => (by cases h), fun n p h => (by cases h), fun n l h => (by cases h)⟩, fun t => ?_, by simp; omega, rfl, fun t m hm => ?_, fun m p h => (by cases h)⟩, fun m h => h.elim, fun p h => (by cases h), fun p h => (by cases h), fun p h => (by cases h)⟩ fun ex σ' a' w' ι' hK hD => ?_
  · rw [tmp_eq]
    cases hl : lk (argTmps s.args x 0) t with
    | none => exact rel_undef
    | some v =>
      obtain ⟨j, u, k1, k2, k3, k4⟩ := args_rel (ι := fun _ => none) hargs' t v hl
      rw [Nat.zero_add] at k1
      subst k1
      rw [eval_args (v := u) (by simpa using k2)]
      exact k3
  · rw [tmp_eq] at hm
    cases hl : lk (argTmps s.args x 0) t with
    | none => rw [hl] at hm; cases hm
    | some v =>
      obtain ⟨j, u, k1, k2, k3, k4⟩ := args_rel (ι := fun _ => none) hargs' t v hl
      rw [hl] at hm
      simp only [k4] at hm
      cases hm
  · have fin : retK E s.res fn σ' = some y → a'.defers = [] ∧ ∃ v, (results fn a'.tmps).run P w' = .ok v w' ∧
        ∃ vs lc, Ending.returned v = .returned (retV vs) ∧ Below w.heap.size w w' ∧ (∀ b ∈ rows lc, w.heap.size ≤ b ∧ b < w'.heap.size) ∧ (rows lc).Nodup ∧ ResOk w' (fun b => S b ∨ b ∈ rows lc) s.res y vs lc := by
      intro hK
      unfold retK at hK
      split at hK
      · cases hK
      rename_i rs hrs
      split at hK
      case h_2 => cases hK
      rename_i hchk
      obtain ⟨us, q1, q2, q3, q4⟩ := resCellsL_run hE hD.sim.core hrs
      have I := hD.sim.core.inv
      have hrun := run_results (a := a') (P := P) (w := w') (fn := fn) (us := us) (by rw [q1]; simp) (fun i x u hx hu => q3 i x u (by simpa using hx) hu)
      obtain ⟨lc, ns, ss, h1, h2, h3⟩ := retR_enc I hK (by rw [q1, q2]) (fun i g cs u k1 k2 => (q4 i g cs u k1 k2).1)
      have hown : lc.length = ownsL s.res := (h3 (fun _ => False) (fun _ h => h.elim) (fun _ _ _ _ _ _ h => h)).owns
      have hrow : ∀ b, b ∈ rows lc → ∃ m l, m ∈ ns ∧ ι' m = some l ∧ l.blk = some b := fun b hb => by
        have hb : b ∈ lc.filterMap Loc.blk := hb
        rw [h2] at hb
        obtain ⟨m, hm, hb⟩ := List.mem_filterMap.1 hb
        obtain ⟨l, hl, hb⟩ := Option.bind_eq_some_iff.1 hb
        exact ⟨m, l, hm, hl, hb⟩
      have hnd : lc = [] ∨ (ns ++ ss).Nodup := by
        cases hh : s.res.any Ty.hasOwn with
        | false => left; rw [hasOwn_ownsL hh] at hown; exact List.eq_nil_of_length_eq_zero hown
        | true => right; rw [hh] at hchk; exact h1.nodup_iff.1 (nodupB_spec (by simpa using hchk))
      refine ⟨hD.sim.core.defers, _, hrun, us, lc, rfl, I.below, fun b hb => ?_, ?_, h3 _ (fun b hb => ?_) (fun m hm l b hl hb hB => ?_)⟩
      · obtain ⟨m, l, _, hl, hb⟩ := hrow b hb
        exact I.fresh m l b hl hb
      · rcases hnd with e | hnd
        · rw [e]; exact List.nodup_nil
        · show (lc.filterMap Loc.blk).Nodup
          rw [h2]
          refine nodup_blks (fun i j b hi hj => ?_) (List.nodup_append.1 hnd).1
          obtain ⟨l, hl, hb⟩ := Option.bind_eq_some_iff.1 hi
          obtain ⟨l', hl', hb'⟩ := Option.bind_eq_some_iff.1 hj
          exact I.inj i j l l' b hl hl' hb hb'
      · rcases hb with hb | hb
        · exact .inl hb
        · obtain ⟨m, l, _, hl, hb⟩ := hrow b hb
          exact .inr ⟨m, l, hl, hb⟩
      · rcases hB with hB | hB
        · have := (I.fresh m l b hl hb).1
          have := hS b hB
          omega
        · obtain ⟨m', l', hm', hl', hb'⟩ := hrow b hB
          have := I.inj m m' l l' b hl hl' hb hb'
          subst this
          rcases hnd with e | hnd
          · subst e; cases hB
          · exact (List.nodup_append.1 hnd).2.2 _ hm' _ hm rfl
    cases ex with
    | exit id => simp only at hK; cases hK
    | normal => exact fin hK
    | ret => exact fin hK

end
end Go.Proofs.Ytacmfiddaklkiab.Lift
