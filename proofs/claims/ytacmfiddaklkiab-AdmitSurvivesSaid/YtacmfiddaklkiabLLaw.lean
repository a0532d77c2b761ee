/- 'Lift': from a law's function to its row; the checks of a loaded program. -/
import Derived.Test.YtacmfiddaklkiabLOpen
set_option linter.unusedVariables false
set_option linter.unusedSimpArgs false
namespace Go.Proofs.Ytacmfiddaklkiab.Lift
open Go Go.RowKit

section
variable {P : Program}

/-! ### Checks -/
def tysB (P : Program) : List (Nat × TI) → Bool
  | [] => true
  | (t, i) :: r => tyChk P 40 i.ty (.inl t) && (match P.underlying t with
      | some (.slice te) => (match P.info? te with | some j => Nat.beq j.bytes i.bytes && Nat.blt 0 i.bytes | none => false)
      | _ => true) && tysB P r

theorem tysB_ok : ∀ {l : List (Nat × TI)}, tysB P l = true → ∀ t i, (t, i) ∈ l → TyOk P i.ty t ∧ ∀ te, P.underlying t = some (.slice te) → (P.info? te).map (·.bytes) = some i.bytes ∧ 0 < i.bytes
  | [], _, t, i, h => by cases h
  | (t', i') :: r, h, t, i, hm => by
    simp only [tysB, Bool.and_eq_true] at h
    rcases List.mem_cons.1 hm with hm | hm
    · cases hm
      refine ⟨⟨40, h.1.1⟩, fun te hu => ?_⟩
      have h2 := h.1.2
      rw [hu] at h2
      simp only at h2
      split at h2
      · rename_i j hj
        simp only [Bool.and_eq_true] at h2
        rw [hj]
        exact ⟨by simp [Nat.eq_of_beq_eq_true h2.1], blt_iff.1 h2.2⟩
      · cases h2
    · exact tysB_ok h.2 t i hm

def SpecsOk (P : Program) : List (Nat × FSpec) → Prop
  | [] => True
  | (f, s) :: r => Sound P f s ∧ SpecsOk P r

def InlsOk (P : Program) : List (Nat × Func) → Prop
  | [] => True
  | (f, fn) :: r => InlOk P f fn ∧ InlsOk P r

theorem SpecsOk.get : ∀ {l : List (Nat × FSpec)}, SpecsOk P l → ∀ f s, (f, s) ∈ l → Sound P f s
  | [], _, f, s, h => by cases h
  | (f', s') :: r, h, f, s, hm => by
    rcases List.mem_cons.1 hm with hm | hm
    · cases hm; exact h.1
    · exact SpecsOk.get h.2 f s hm

theorem InlsOk.get : ∀ {l : List (Nat × Func)}, InlsOk P l → ∀ f s, (f, s) ∈ l → InlOk P f s
  | [], _, f, s, h => by cases h
  | (f', s') :: r, h, f, s, hm => by
    rcases List.mem_cons.1 hm with hm | hm
    · cases hm; exact h.1
    · exact InlsOk.get h.2 f s hm

def NilsOk (P : Program) : List (Nat × FSpec) → Prop
  | [] => True
  | (f, s) :: r => SoundN P f s ∧ NilsOk P r

theorem NilsOk.get : ∀ {l : List (Nat × FSpec)}, NilsOk P l → ∀ f s, (f, s) ∈ l → SoundN P f s
  | (f, s) :: r, h, g, t, hm => by
    rcases List.mem_cons.1 hm with hm | hm
    · cases hm; exact h.1
    · exact NilsOk.get h.2 g t hm

theorem env_okN {E : Env} (h1 : tysB P E.tys = true) (hm : P.follows .mixedOrders = true) (h2 : SpecsOk P E.specs) (h3 : InlsOk P E.inls) (h4 : NilsOk P E.nils) : EnvOk P E :=
  ⟨⟨fun t i h => (tysB_ok h1 t i (lk_of_mem h)).1, fun t i h => (tysB_ok h1 t i (lk_of_mem h)).2⟩, fun f s h => h2.get f s (lk_of_mem h), fun f s h => h4.get f s (lk_of_mem h), fun f s h => h3.get f s (lk_of_mem h), hm⟩

theorem env_ok {E : Env} (h1 : tysB P E.tys = true) (hm : P.follows .mixedOrders = true) (h2 : SpecsOk P E.specs) (h3 : InlsOk P E.inls) (h4 : E.nils = [] := by rfl) : EnvOk P E :=
  env_okN h1 hm h2 h3 (by rw [h4]; trivial)

def fnB (fn : Func) : Bool :=
  match fn.body with
  | some c => belowC fn.ntmps c && !(fn.name == "runtime.NumGoroutine")
  | none => false

theorem inl_ok {f : FuncId} {fn : Func} (h : P.funcs[f]? = some fn) (hb : fnB fn = true) : InlOk P f fn := by
  unfold fnB at hb
  split at hb
  · rename_i c hc
    simp only [Bool.and_eq_true, Bool.not_eq_true'] at hb
    exact ⟨h, hb.2, by rw [hc]; rfl, fun c' hc' => by rw [hc] at hc'; cases hc'; exact hb.1⟩
  · cases hb

/-- A function is sound: its evaluation is known, its parts are. -/
theorem sound {f : FuncId} {fn : Func} {s : FSpec} {E : Env} (hf : P.funcs[f]? = some fn) (hb : fnB fn = true) (hE : EnvOk P E) (ho : Nat.ble (ownsL s.res) 16 = true) (heq : ∀ x, fnEval E s.args s.res fn x = s.f x) : Sound P f s :=
  sound_of_eq hE (inl_ok hf hb) (Nat.le_of_ble_eq_true ho) heq

theorem sound_none {f : FuncId} {fn : Func} {s : FSpec} (hf : P.funcs[f]? = some fn) (hb : fnB fn = true) (ho : Nat.ble (ownsL s.res) 16 = true) (h : ∀ x, s.f x = none) : Sound P f s :=
  ⟨⟨fn, hf, (inl_ok hf hb).name, (inl_ok hf hb).body⟩, Nat.le_of_ble_eq_true ho, fun S w vals x y _ _ hy => by rw [h] at hy; cases hy⟩

def argsB (P : Program) : List Ty → List TypeId → Bool
  | [], [] => true
  | τ :: l, t :: ts => tyChk P 40 τ (.inl t) && τ.flat && P.readableRec t && Nat.blt t P.types.size && argsB P l ts
  | _, _ => false

theorem argsB_ok : ∀ {l : List Ty} {ts : List TypeId}, argsB P l ts = true → tysOk P l ts ∧ ∀ t ∈ ts, P.readableRec t = true ∧ t < P.types.size
  | [], [], _ => ⟨trivial, fun t h => by cases h⟩
  | [], _ :: _, h => by cases h
  | _ :: _, [], h => by cases h
  | τ :: l, t :: ts, h => by
    simp only [argsB, Bool.and_eq_true] at h
    obtain ⟨h1, h2⟩ := argsB_ok h.2
    refine ⟨⟨⟨40, h.1.1.1.1⟩, h.1.1.1.2, h1⟩, fun u hu => ?_⟩
    rcases List.mem_cons.1 hu with rfl | hu
    · exact ⟨h.1.1.2, blt_iff.1 h.1.2⟩
    · exact h2 u hu

/-! ### The row -/
variable {H : Type} {enc : TypeId × Value → H}

theorem trodAll_stays {W W' : World} (hl : laidOutB P = true) (hb : Below W.heap.size W W') : ∀ {ts : List TypeId} {vs : List Value} {ds : List (DataW H)} {ps : List MemPlace}, (∀ t ∈ ts, P.readableRec t = true ∧ t < P.types.size) →
    DataW.TrodAll enc P W 0 (fun _ => true) true ts vs ds ps → DataW.TrodAll enc P W' 0 (fun b => decide (b < W.heap.size)) true ts vs ds ps
  | [], vs, ds, ps, _, h => by
    obtain ⟨rfl, rfl, rfl⟩ := ChangeShapes.trodAll_nil h
    exact ChangeShapes.trodAll_mk0
  | t :: ts, vs, ds, ps, hr, h => by
    obtain ⟨v, vs', d, ds', p, q, rfl, rfl, rfl, h1, h2⟩ := ChangeShapes.trodAll_cons h
    have hlt : ∀ x ∈ p, x.block < W.heap.size := by obtain ⟨m, hm⟩ := h1; exact DataW.trod_lt m _ _ _ hm
    have := hr t (by simp)
    exact trodAll_cons_mk (Below.trod hl this.1 this.2 h1 hb hlt) (trodAll_stays hl hb (fun u hu => hr u (by simp [hu])) h2)

theorem trodAll_len {W : World} {base : Nat} {spare : Nat → Bool} {held : Bool} : ∀ {ts : List TypeId} {vs : List Value} {ds : List (DataW H)} {ps : List MemPlace}, DataW.TrodAll enc P W base spare held ts vs ds ps → ds.length = ts.length
  | [], vs, ds, ps, h => by
    obtain ⟨rfl, rfl, rfl⟩ := ChangeShapes.trodAll_nil h
    rfl
  | t :: ts, vs, ds, ps, h => by
    obtain ⟨v, vs', d, ds', p, q, rfl, rfl, rfl, h1, h2⟩ := ChangeShapes.trodAll_cons h
    simp [trodAll_len h2]

theorem law_contract {f : FuncId} {fn : Func} {l : List Ty} {g : (tup l).den → Option Bool} {spec : ChangeSpec} {rt : TypeId} {conds : List PathCond} {a : Assume}
    (hl : laidOutB P = true) (hS : Sound P f ⟨l, [.bool], g⟩) (hargs : argsB P l fn.params.toList = true) (hrt : fn.resultTypes = #[rt]) (hbool : P.underlying rt = some .bool) (hvars : spec.vars = [])
    (hfn : ∀ ds : List (DataW H), ds.length = fn.params.toList.length → spec.fn H ds = { results := [.lit (.bool true)], args := ds }) (hpure : ∀ x, WfL l x → g x = some true) :
    ∀ (W : World) (base : Nat) (args : Array Value) (ds gs : List (DataW H)) (before : List MemPlace),
      (∀ (j : Nat) t v, fn.params[j]? = some t → args[j]? = some v → Value.okWide P W .any base t v) →
      DataW.Whole enc P fn.params.toList spec.vars false W args.toList ds gs before →
      conds.all (PathCond.test P ⟨fn.params.toList, ds, spec.plain.varTypes P, gs⟩) = true →
      (DataW.weightsEach P (fn.params.toList ++ spec.plain.varTypes P) (ds ++ gs)).all (· ≤ reachBytes) = true →
      a.holds P (lone (Frame.enter P f args .normal) [] W) →
      Calls P f args W fun e W' => ∃ v, e = .returned v ∧ spec.post enc P fn false true false false W args v W' := by
  intro W base args ds gs before hval hW _ _ _
  have hW' := hW
  obtain ⟨p, q, hA, hV, rfl, hfz, hnd⟩ := hW
  have hV0 := hV
  rw [hvars] at hV0
  obtain ⟨rfl, rfl⟩ := ChangeShapes.trodVars_none hV0
  obtain ⟨hty, hrd⟩ := argsB_ok hargs
  obtain ⟨x, hw, hx⟩ := open_args hty hA (fun j t v hj hv => hval j t v (by simpa using hj) (by simpa using hv))
  refine Calls.mono (hS.run (fun _ => False) W args x true (fun _ h => h.elim) hx (hpure x hw)) fun e W' he => ?_
  obtain ⟨vs, lc, rfl, hb, _, _, hr⟩ := he
  obtain ⟨v, rfl, hv⟩ := hr
  have hv' : v = .bool true := by
    have h2 : EncO W' _ .bool true [v] lc := hv
    have h3 := h2.2
    simp only [Enc] at h3
    exact List.singleton_inj.1 h3
  subst hv'
  have hlen := trodAll_len hA
  have hspec := hfn ds hlen
  refine ⟨_, rfl, ds, [], _, [], p, [], hW', ?_, ?_, ?_, hb.frame _, fun h => by cases h⟩
  · rw [List.append_nil, hspec, hrt]
    exact ChangeShapes.trodAll_mk1 (shut_bool hbool true)
  · rw [List.append_nil, hspec]
    exact trodAll_stays hl hb hrd hA
  · rw [List.append_nil, hspec, hvars]
    rfl

end
end Go.Proofs.Ytacmfiddaklkiab.Lift
