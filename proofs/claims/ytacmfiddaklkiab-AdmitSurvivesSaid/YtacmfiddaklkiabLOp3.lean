/- 'Lift': operations that read. -/
import Derived.Test.YtacmfiddaklkiabLOp2
import Derived.Laws.Strings
set_option linter.unusedVariables false
namespace Go.Proofs.Ytacmfiddaklkiab.Lift
open Go Go.RowKit

/-- What is known of an environment. -/
structure TysOk (P : Program) (E : Env) : Prop where
  ty : ∀ t i, lk E.tys t = some i → TyOk P i.ty t
  bytes : ∀ t i, lk E.tys t = some i → ∀ te, P.underlying t = some (.slice te) → (P.info? te).map (·.bytes) = some i.bytes ∧ 0 < i.bytes

section
variable {P : Program} {S : Nat → Prop} {w0 w : World} {ι : Inj} {T : Tab} {nm : Nat} {o : Oper} {a : Act} {N : Nat → Prop} {ρ : Type} {r : ρ} {E : Env}

theorem TysOk.at (h : TysOk P E) {t : TypeId} {τ : Ty} (e : E.ty t = some τ) : TyOk P τ t := by
  unfold Env.ty at e
  split at e
  · rename_i i hi; cases e; exact h.ty t i hi
  · cases e

theorem self_avoid (I : Inv S w0 ι T w) : ∀ b, S b → Av S ι b := fun _ h => .inl h

/-- Reading a whole typed value with no rows in it. -/
theorem ofCs_enc (I : Inv S w0 ι T w) {B : Nat → Prop} (hB : ∀ b, B b → Av S ι b) {τ : Ty} {ls : List Leaf} {x : τ.den} {vs : List Value} (h : ofCs T τ ls = some x) (hr : RelC w (Av S ι) ι ls vs)
    (hp : τ.plain = true) (hn : ∀ n ∈ ownNames ls, ∀ l b, ι n = some l → l.blk = some b → ¬ B b) : Enc w B τ x vs := by
  unfold ofCs at h
  obtain ⟨⟨y, rest⟩, h1, h2⟩ := Option.bind_eq_some_iff.1 h
  dsimp only at h2
  split at h2
  · cases h2
    obtain ⟨pre, us, ts, lc, ns, ss, e1, e2, e3, e4, e5, e6, e7⟩ := ofC_enc I h1 hr
    simp only [RelC] at e3
    subst e3
    rw [List.append_nil] at e1 e2
    subst e1; subst e2
    have hns := e5 hp
    subst hns
    refine (EncO.plain hp (e7 B hB fun n hn' => hn n ?_)).2
    rw [List.nil_append] at e4
    exact e4.symm.subset hn'
  · cases h2

theorem Ty.cmp_plain : ∀ {τ : Ty}, τ.cmp = true → τ.plain = true := by
  intro τ
  induction τ with
  | pair a b iha ihb => intro h; simp only [Ty.cmp, Bool.and_eq_true] at h; simp [Ty.plain, iha h.1, ihb h.2]
  | arr n e ih => intro h; exact ih h
  | st t ih => intro h; exact ih h
  | sl e _ => intro h; cases h
  | own e _ => intro h; cases h
  | _ => intro _; rfl

/-- A comparable value takes no rows. -/
theorem ofC_cmp {τ : Ty} : ∀ {ls : List Leaf} {x : τ.den} {rest : List Leaf}, τ.cmp = true → ofC T τ ls = some (x, rest) → ownNames ls = ownNames rest := by
  induction τ with
  | pair a b iha ihb =>
    intro ls x rest hc h
    simp only [Ty.cmp, Bool.and_eq_true] at hc
    simp only [ofC] at h
    obtain ⟨⟨xa, ra⟩, h1, h⟩ := Option.bind_eq_some_iff.1 h
    obtain ⟨⟨xb, rb⟩, h2, h⟩ := Option.bind_eq_some_iff.1 h
    cases h
    rw [iha hc.1 h1, ihb hc.2 h2]
  | arr n e _ =>
    intro ls x rest hc h
    cases ls with
    | nil => cases h
    | cons l ls =>
      cases l <;> simp only [ofC] at h <;> try (cases h; done)
      split at h
      · obtain ⟨xs, hx, he⟩ := Option.map_eq_some_iff.1 h
        cases he; rfl
      · cases h
  | st t ih => intro ls x rest hc h; exact ih (x := x) hc h
  | unit => intro ls x rest hc h; simp [ofC] at h; rw [h]
  | sl e _ => intro ls x rest hc _; cases hc
  | own e _ => intro ls x rest hc _; cases hc
  | bool =>
    intro ls x rest hc h
    cases ls with
    | nil => cases h
    | cons l ls => cases l <;> simp [ofC] at h; rw [← h.2]; rfl
  | int k =>
    intro ls x rest hc h
    cases ls with
    | nil => cases h
    | cons l ls => cases l <;> simp [ofC] at h; rw [← h.2.2]; rfl
  | str =>
    intro ls x rest hc h
    cases ls with
    | nil => cases h
    | cons l ls => cases l <;> simp [ofC] at h; rw [← h.2]; rfl

theorem ofCs_cmp (I : Inv S w0 ι T w) {τ : Ty} {ls : List Leaf} {x : τ.den} {vs : List Value} (hc : τ.cmp = true) (h : ofCs T τ ls = some x) (hr : RelC w (Av S ι) ι ls vs) : Enc w (Av S ι) τ x vs := by
  refine ofCs_enc I (fun _ h => h) h hr (Ty.cmp_plain hc) ?_
  unfold ofCs at h
  obtain ⟨⟨y, rest⟩, h1, h2⟩ := Option.bind_eq_some_iff.1 h
  dsimp only at h2
  split at h2
  · rw [ofC_cmp hc h1]
    simp [ownNames]
  · cases h2

theorem rel_aggv {A : Nat → Prop} {cs : List Leaf} {v : Value} (h : RelV w A ι (.v true cs) v) : ∃ vs : Array Value, v = .agg vs ∧ RelC w A ι cs vs.toList := h

theorem good_bin (hE : TysOk P E) (I : Inv S w0 ι T w) {ev : Operand → Val} {op : BinOp} {t t' : TypeId} {x y : Operand} {K : Val → List (Nat × Option Entry) → Option ρ} (hop : o.op = .binOp op t x y t')
    (hx : RelV w (Av S ι) ι (ev x) (a.eval x)) (hy : RelV w (Av S ι) ι (ev y) (a.eval y)) (h : binK E T t op (ev x) (ev y) (fun v => K v []) = some r) : Good P S w0 ι T w nm o a N K r := by
  unfold binK at h
  split at h
  · rename_i k m k' n e1 e2
    rw [e1] at hx; rw [e2] at hy
    have hx := rel_int hx
    have hy := rel_int hy
    cases op <;> simp only at h
    case shl => split at h <;> first | (cases h; done) | (rename_i hn; refine good_ii I hop hx hy h ?_; simp [binOp_shl, Op.shift, shlI, Int.not_lt.2 hn])
    case shr => split at h <;> first | (cases h; done) | (rename_i hn; refine good_ii I hop hx hy h ?_; simp [binOp_shr, Op.shift, shrI, Int.not_lt.2 hn])
    case quo =>
      split at h
      · rename_i hk; subst hk
        split at h
        · cases h
        · rename_i hn; exact good_ii I hop hx hy h (by simp [binOp_quo, Op.intDiv, hn])
      · cases h
    case rem =>
      split at h
      · rename_i hk; subst hk
        split at h
        · cases h
        · rename_i hn; exact good_ii I hop hx hy h (by simp [binOp_rem, Op.intDiv, hn])
      · cases h
    case add => split at h <;> first | (cases h; done) | (rename_i hk; subst hk; exact good_ii I hop hx hy h (by simp [binOp_add, Op.intArith]))
    case sub => split at h <;> first | (cases h; done) | (rename_i hk; subst hk; exact good_ii I hop hx hy h (by simp [binOp_sub, Op.intArith]))
    case mul => split at h <;> first | (cases h; done) | (rename_i hk; subst hk; exact good_ii I hop hx hy h (by simp [binOp_mul, Op.intArith]))
    case and => split at h <;> first | (cases h; done) | (rename_i hk; subst hk; exact good_ii I hop hx hy h (by simp [binOp_and, Op.intBits, andI]))
    case or => split at h <;> first | (cases h; done) | (rename_i hk; subst hk; exact good_ii I hop hx hy h (by simp [binOp_or, Op.intBits, orI]))
    case xor => split at h <;> first | (cases h; done) | (rename_i hk; subst hk; exact good_ii I hop hx hy h (by simp [binOp_xor, Op.intBits, xorI]))
    case andNot => split at h <;> first | (cases h; done) | (rename_i hk; subst hk; exact good_ii I hop hx hy h (by simp [binOp_andNot, Op.intBits, andNotI]))
    case eql => split at h <;> first | (cases h; done) | (rename_i hk; subst hk; exact good_ib I hop hx hy h (by rw [binOp_eql]; rfl))
    case neq => split at h <;> first | (cases h; done) | (rename_i hk; subst hk; exact good_ib I hop hx hy h (by rw [binOp_neq]; rfl))
    case lss => split at h <;> first | (cases h; done) | (rename_i hk; subst hk; exact good_ib I hop hx hy h (by rw [binOp_lss]; rfl))
    case leq => split at h <;> first | (cases h; done) | (rename_i hk; subst hk; exact good_ib I hop hx hy h (by rw [binOp_leq]; rfl))
    case gtr => split at h <;> first | (cases h; done) | (rename_i hk; subst hk; exact good_ib I hop hx hy h (by rw [binOp_gtr]; rfl))
    case geq => split at h <;> first | (cases h; done) | (rename_i hk; subst hk; exact good_ib I hop hx hy h (by rw [binOp_geq]; rfl))
  · rename_i p q e1 e2
    rw [e1] at hx; rw [e2] at hy
    have hx := rel_str hx
    have hy := rel_str hy
    have hlist : ∀ (p q : ByteArray), (p.toList == q.toList) = decide (p = q) := by
      intro p q
      rw [Bool.eq_iff_iff, beq_iff_eq, decide_eq_true_iff, ByteArray.toList_eq, ByteArray.toList_eq]
      constructor
      · intro h
        obtain ⟨⟨p⟩⟩ := p
        obtain ⟨⟨q⟩⟩ := q
        simp at h
        rw [h]
      · rintro rfl; rfl
    cases op <;> simp only at h <;> try (cases h; done)
    case add =>
      split at h
      · rename_i hs
        refine good_value I h (run_bin hop hx hy (eqGuard_at_string ..) (z := .string (p ++ q)) ?_) (rel1 rfl) (by simp [namesOf, namesV])
        have : ¬ (((p.size + q.size : Nat) : Int) > IntKind.i64.max) := by rw [IntKind.max_i64]; omega
        simp only [binOp, Op.stringOp]
        rw [if_neg this]; rfl
      · cases h
    case eql => exact good_value I h (run_bin hop hx hy (eqGuard_at_string ..) (by simp only [binOp, Op.stringOp, hlist]; rfl)) (rel1 rfl) (by simp [namesOf, namesV])
    case neq => exact good_value I h (run_bin hop hx hy (eqGuard_at_string ..) (by simp only [binOp, Op.stringOp, hlist]; rfl)) (rel1 rfl) (by simp [namesOf, namesV])
  · rename_i p q e1 e2
    rw [e1] at hx; rw [e2] at hy
    have hx := rel_bool hx
    have hy := rel_bool hy
    have heq : ∀ (ht : E.ty t = some .bool), (Op.equal t (.bool p) (.bool q)).run P w = .ok (p == q) w := by
      intro ht
      have hu := (hE.at ht).bool
      have key : ∀ d, (Op.equalIn (d + 1) t (.bool p) (.bool q)).run P w = .ok (p == q) w := by
        intro d
        simp [Op.equalIn, run_underlying hu]
      exact key 9999
    split at h
    · rename_i ht
      refine good_value I h (run_bin hop hx hy (eqGuard_at_bool ..) (z := .bool (p == q)) ?_) (rel1 rfl) (by simp [namesOf, namesV])
      show (do pure (.bool (← Op.equal t (.bool p) (.bool q))) : Sem Value).run P w = _
      simp [heq ht]
    · rename_i ht
      refine good_value I h (run_bin hop hx hy (eqGuard_at_bool ..) (z := .bool (!(p == q))) ?_) (rel1 rfl) (by simp [namesOf, namesV])
      show (do pure (.bool (!(← Op.equal t (.bool p) (.bool q)))) : Sem Value).run P w = _
      simp [heq ht]
    · cases h
  · rename_i xs ys e1 e2
    rw [e1] at hx; rw [e2] at hy
    obtain ⟨vs, hx, rx⟩ := hx
    obtain ⟨us, hy, ry⟩ := hy
    split at h
    · rename_i τ hτ
      have ht := hE.at hτ
      split at h
      · rename_i hok
        simp only [Bool.and_eq_true] at hok
        have hd := Nat.le_of_ble_eq_true hok.2
        split at h
        · rename_i x' y' h1 h2
          have ex := ofCs_cmp I hok.1.2 h1 rx
          have ey := ofCs_cmp I hok.1.2 h2 ry
          cases op <;> simp only at h <;> try (cases h; done)
          case eql => exact good_value I h (run_eq hok.1.1 hok.1.2 hd ht ex ey hx hy (neg := false) hop) (rel1 rfl) (by simp [namesOf, namesV])
          case neq => exact good_value I h (run_eq hok.1.1 hok.1.2 hd ht ex ey hx hy (neg := true) hop) (rel1 rfl) (by simp [namesOf, namesV])
        · cases h
      · cases h
    · cases h
  · rename_i e xs e1 e2
    rw [e1] at hx; rw [e2] at hy
    have hx1 := RelC.leaf hx
    have hy1 := RelC.leaf hy
    simp only [RelL, Enc] at hx1 hy1
    have hy := List.singleton_inj.1 hy1
    have heq : ∀ {e' : Ty}, E.ty t = some (.sl e') → ∀ (a' : Option Addr) (n c : Nat), (Op.equal t (.slice a' n c) (.slice none 0 0)).run P w = .ok a'.isNone w := by
      intro e' ht a' n c
      obtain ⟨te, hu, _⟩ := (hE.at ht).sl
      have key : ∀ d, (Op.equalIn (d + 1) t (.slice a' n c) (.slice none 0 0)).run P w = .ok a'.isNone w := by
        intro d
        cases a' <;> simp [Op.equalIn, run_underlying hu]
      exact key 9999
    have hg : ∀ (a' : Option Addr) (n c : Nat), eqGuard op t x y (.slice a' n c) (.slice none 0 0) = pure () := by
      intro a' n c
      exact eqGuard_at_slice ..
    have shape : ∃ a' n c, a.eval x = .slice a' n c ∧ (xs.isEmpty = false → a'.isNone = false) := by
      rcases hx1 with ⟨rfl, h1⟩ | ⟨b, o', c, h1, _⟩
      · exact ⟨none, 0, 0, List.singleton_inj.1 h1, fun h => by cases h⟩
      · exact ⟨_, _, _, List.singleton_inj.1 h1, fun _ => rfl⟩
    obtain ⟨a', n, c, hv, hne⟩ := shape
    split at h
    · rename_i e' ht
      have hb : (binOp .eql t (.slice a' n c) (.slice none 0 0)).run P w = .ok (.bool a'.isNone) w := by
        show (do pure (.bool (← Op.equal t (.slice a' n c) (.slice none 0 0))) : Sem Value).run P w = _
        simp [heq ht]
      cases hem : xs.isEmpty with
      | true =>
        rw [hem] at h
        exact good_value I h (run_bin hop hv hy (hg ..) hb) (rel1 ⟨_, rfl⟩) (by simp [namesOf, namesV])
      | false =>
        rw [hem] at h
        refine good_value I h (run_bin hop hv hy (hg ..) hb) (rel1 ?_) (by simp [namesOf, namesV])
        rw [hne hem]; rfl
    · rename_i e' ht
      have hb : (binOp .neq t (.slice a' n c) (.slice none 0 0)).run P w = .ok (.bool (!a'.isNone)) w := by
        show (do pure (.bool (!(← Op.equal t (.slice a' n c) (.slice none 0 0)))) : Sem Value).run P w = _
        simp [heq ht]
      cases hem : xs.isEmpty with
      | true =>
        rw [hem] at h
        exact good_value I h (run_bin hop hv hy (hg ..) hb) (rel1 ⟨_, rfl⟩) (by simp [namesOf, namesV])
      | false =>
        rw [hem] at h
        refine good_value I h (run_bin hop hv hy (hg ..) hb) (rel1 ?_) (by simp [namesOf, namesV])
        rw [hne hem]; rfl
    · cases h
  · cases h
end
end Go.Proofs.Ytacmfiddaklkiab.Lift
