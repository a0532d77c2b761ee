/- 'Lift': masks, and the trace that the evaluator walks. -/
import Derived.Test.YtacmfiddaklkiabLDraw
set_option linter.unusedVariables false
set_option linter.unusedSimpArgs false
namespace Go.Proofs.Ytacmfiddaklkiab.Lift
open Go Go.RowKit

theorem forceN_eq {α : Type} (n : Nat) (k : Nat → α) : forceN n k = k n := by cases n <;> rfl

theorem bit_shift (d k : Nat) : (Nat.shiftLeft 1 d).testBit k = decide (k = d) := by
  show ((1 : Nat) <<< d).testBit k = _
  rw [Nat.one_shiftLeft, Nat.testBit_two_pow]
  exact decide_eq_decide.2 eq_comm

theorem bit_lor (a b k : Nat) : (Nat.lor a b).testBit k = (a.testBit k || b.testBit k) := Nat.testBit_or a b k
theorem bit_land (a b k : Nat) : (Nat.land a b).testBit k = (a.testBit k && b.testBit k) := Nat.testBit_and a b k

theorem bit_bits : ∀ (l : List Nat) (k : Nat), (bits l).testBit k = decide (k ∈ l)
  | [], k => by simp [bits]
  | n :: l, k => by
    simp only [bits, bit_lor, bit_shift, bit_bits l k, List.mem_cons]
    by_cases h1 : k = n <;> by_cases h2 : k ∈ l <;> simp [h1, h2]

theorem lor_zero {a b : Nat} (h : Nat.lor a b = 0) : a = 0 ∧ b = 0 := by
  constructor <;> apply Nat.eq_of_testBit_eq <;> intro k <;> have := bit_lor a b k <;> rw [h] at this <;> simp at this ⊢
  · exact this.1
  · exact this.2

theorem land_zero {a b k : Nat} (h : Nat.land a b = 0) (ha : a.testBit k = true) : b.testBit k = false := by
  have := bit_land a b k
  rw [h, ha] at this
  simpa using this.symm

theorem conf_zero {a b : Rec} (h : conf a b = 0) : (∀ k, a.d.testBit k = true → b.l.testBit k = false ∧ b.d.testBit k = false) ∧ (∀ k, b.d.testBit k = true → a.l.testBit k = false) ∧
    (∀ k, a.w.testBit k = true → b.r.testBit k = false ∧ b.w.testBit k = false) ∧ (∀ k, b.w.testBit k = true → a.r.testBit k = false) := by
  obtain ⟨h1, h2⟩ := lor_zero h
  obtain ⟨h3, h4⟩ := lor_zero h1
  obtain ⟨h5, h6⟩ := lor_zero h2
  have two : ∀ {x y z : Nat}, Nat.land x (Nat.lor y z) = 0 → ∀ k, x.testBit k = true → y.testBit k = false ∧ z.testBit k = false := fun h k hk => by
    have := land_zero h hk
    rw [bit_lor] at this
    simpa using this
  exact ⟨two h3, fun k hk => land_zero h4 hk, two h5, fun k hk => land_zero h6 hk⟩

theorem okAll_spec {b : Rec} {m : Nat} : ∀ {rs : List Rec}, okAll b m rs = true → ∀ a ∈ rs, conf a b = 0 ∨ m.testBit a.i = true
  | [], _, a, ha => by cases ha
  | q :: rs, h, a, ha => by
    simp only [okAll] at h
    have h' : (conf q b = 0 ∨ m.testBit q.i = true) ∧ okAll b m rs = true := by
      split at h
      · rename_i hb; exact ⟨.inl (Nat.eq_of_beq_eq_true hb), h⟩
      · split at h
        · rename_i hb
          refine ⟨.inr ?_, h⟩
          have e := Nat.eq_of_beq_eq_true hb
          have e' : (m >>> q.i) &&& 1 = 1 := e
          rw [Nat.testBit, Nat.and_comm, e']
          rfl
        · cases h
    rcases List.mem_cons.1 ha with rfl | ha
    · exact h'.1
    · exact okAll_spec h'.2 a ha

theorem befM_spec {bs : List (Nat × Nat)} {k : Nat} : ∀ {es : List Edge}, (befM bs es).testBit k = true → ∃ e ∈ es, Region.binds .any e = true ∧ (k = e.on ∨ ∃ m, lk bs e.on = some m ∧ m.testBit k = true)
  | [], h => by simp [befM] at h
  | e :: es, h => by
    simp only [befM] at h
    split at h
    · rename_i hb
      split at h
      · rename_i m hm
        simp only [bit_lor, bit_shift, Bool.or_eq_true, decide_eq_true_eq] at h
        rcases h with (h | h) | h
        · exact ⟨e, by simp, hb, .inl h⟩
        · exact ⟨e, by simp, hb, .inr ⟨m, hm, h⟩⟩
        · obtain ⟨q, hq, h1, h2⟩ := befM_spec h
          exact ⟨q, by simp [hq], h1, h2⟩
      · simp only [bit_lor, bit_shift, Bool.or_eq_true, decide_eq_true_eq] at h
        rcases h with h | h
        · exact ⟨e, by simp, hb, .inl h⟩
        · obtain ⟨q, hq, h1, h2⟩ := befM_spec h
          exact ⟨q, by simp [hq], h1, h2⟩
    · obtain ⟨q, hq, h1, h2⟩ := befM_spec h
      exact ⟨q, by simp [hq], h1, h2⟩

theorem dstM_bit {ops : Array Oper} {i : Nat} {o : Oper} (ho : ops[i]? = some o) (t : Nat) : (dstM o).testBit t = decide (dstAt ops i = some t) := by
  have : dstAt ops i = o.dst := by simp [dstAt, ho]
  rw [this]
  unfold dstM
  split
  · rename_i d hd; rw [bit_shift, hd]
    by_cases h : t = d
    · subst h; simp
    · simp [h]; exact fun e => h e.symm
  · rename_i hd; rw [hd]; simp

section
variable {E : Env} {ops : Array Oper} {base : Nat} {τ0 : Nat → Val} {T0 : Tab}

/-- What the masks of an operation say. -/
structure RecOk (ops : Array Oper) (τ0 : Nat → Val) (T0 : Tab) (tr : Nat → Stp) (j : Nat) (b : Rec) : Prop where
  i : b.i = j
  d : ∀ t, b.d.testBit t = decide (dstAt ops j = some t)
  l : ∀ t, b.l.testBit t = decide (t ∈ looksAt ops j)
  r : ∀ t, b.r.testBit t = decide (t ∈ rdAt ops τ0 T0 tr j)
  w : ∀ t, b.w.testBit t = decide (t ∈ keysOf (tr j))

theorem RecOk.indep {tr : Nat → Stp} {j i : Nat} {a b : Rec} (ha : RecOk ops τ0 T0 tr j a) (hb : RecOk ops τ0 T0 tr i b) (h : conf a b = 0) : Indep ops tr (rdAt ops τ0 T0 tr) j i := by
  obtain ⟨h1, h2, h3, h4⟩ := conf_zero h
  refine ⟨fun t ht hl => ?_, fun t ht hl => ?_, fun t ht hl => ?_, fun t ht hl => ?_, fun t ht hl => ?_, fun t ht hl => ?_⟩
  · have := (h1 t (by rw [ha.d]; simpa using ht)).1; rw [hb.l] at this; simp at this; exact this hl
  · have := h2 t (by rw [hb.d]; simpa using ht); rw [ha.l] at this; simp at this; exact this hl
  · have := (h1 t (by rw [ha.d]; simpa using ht)).2; rw [hb.d] at this; simp at this; exact this hl
  · have := (h3 t (by rw [ha.w]; simpa using ht)).1; rw [hb.r] at this; simp at this; exact this hl
  · have := h4 t (by rw [hb.w]; simpa using ht); rw [ha.r] at this; simp at this; exact this hl
  · have := (h3 t (by rw [ha.w]; simpa using ht)).2; rw [hb.w] at this; simp at this; exact this hl

theorem rdAt_congr {tr tr' : Nat → Stp} {i : Nat} (h : ∀ j, j < i → tr j = tr' j) (hi : tr i = tr' i) : rdAt ops τ0 T0 tr i = rdAt ops τ0 T0 tr' i := by
  unfold rdAt
  rw [after_congr i h, hi]

theorem opsD_trace {ρ : Type} {r : ρ} {σ0 : St} (hτ : σ0.tmp = τ0) (hT0 : σ0.ent = T0) (hback : backward ops.toList 0 = true) {K : St → Option ρ} :
    ∀ (rest : List Oper) (i : Nat) (σ : St) (rs : List Rec) (bs : List (Nat × Nat)) (tr : Nat → Stp), i ≤ ops.size → ops.toList.drop i = rest →
      σ.tmp = (after (dstAt ops) tr τ0 T0 (fun _ => true) i).1 → σ.ent = (after (dstAt ops) tr τ0 T0 (fun _ => true) i).2 → TraceOk E ops base τ0 T0 tr i →
      (∀ j, j < i → ∃ b ∈ rs, RecOk ops τ0 T0 tr j b) → (∀ j m, lk bs j = some m → ∀ k, m.testBit k = true → Before ops k j) →
      (∀ q ∈ σ.tab, q ∈ σ0.tab ∨ ∃ j, j < i ∧ q.1 ∈ keysOf (tr j)) → Out σ0 σ → σ.next = σ0.next → opsD E base ops.toList rest i σ rs bs K = some r →
      ∃ σ' tr', K σ' = some r ∧ TraceOk E ops base τ0 T0 tr' ops.size ∧ σ'.tmp = (after (dstAt ops) tr' τ0 T0 (fun _ => true) ops.size).1 ∧ σ'.ent = (after (dstAt ops) tr' τ0 T0 (fun _ => true) ops.size).2 ∧
        (∀ q ∈ σ'.tab, q ∈ σ0.tab ∨ ∃ j, j < ops.size ∧ q.1 ∈ keysOf (tr' j)) ∧ Out σ0 σ' ∧ σ'.next = σ0.next := by
  intro rest
  induction rest with
  | nil =>
    intro i σ rs bs tr hle hr h1 h2 hT hrs hbs htab hout hnx h
    have hi : ops.size ≤ i := by have := List.drop_eq_nil_iff.1 hr; simpa using this
    have hie : i = ops.size := by omega
    subst hie
    exact ⟨σ, tr, h, hT, h1, h2, htab, hout, hnx⟩
  | cons o rest ih =>
    intro i σ rs bs tr hle hr h1 h2 hT hrs hbs htab hout hnx h
    have hlt : i < ops.size := by
      rcases Nat.lt_or_ge i ops.size with h | h
      · exact h
      · rw [List.drop_eq_nil_of_le (by simpa using h)] at hr; cases hr
    have hoi : ops[i]? = some o := by
      have : (ops.toList.drop i)[0]? = some o := by rw [hr]; rfl
      rw [List.getElem?_drop] at this
      simpa using this
    have hr' : ops.toList.drop (i + 1) = rest := by
      have := congrArg List.tail hr
      rw [List.tail_drop] at this
      exact this
    unfold opsD at h
    simp only [forceN_eq] at h
    have hbef : ∀ k, (befM bs o.after.toList).testBit k = true → Before ops k i := fun k hk D hc hrd => by
      obtain ⟨o', ho', hed⟩ := hrd
      rw [hoi] at ho'; cases ho'
      obtain ⟨e, he, hb, hk⟩ := befM_spec hk
      have hon := hed e (by simpa using he) hb
      rcases hk with rfl | ⟨m, hm, hk⟩
      · exact hon
      · have hlt' := backward_spec hback i o (by simpa using hoi) e (by simpa using he) hb
        have heo : ops[e.on]? = some ops[e.on] := Array.getElem?_eq_getElem (by omega)
        exact hbs _ _ hm k hk D hc ⟨_, heo, hc _ _ hon heo⟩
    have hlook : looksAt ops i = looksOf ops.toList o := by simp [looksAt, hoi]
    -- going on
    have go : ∀ (st : Stp) (b : Rec) (σ1 : St), runs ops.toList σ.tmp o = some st.ex →
        (if st.ex then opK E σ.ent (base + 16 * i) (evF σ.tmp) o.op (fun v u => some (v, u)) = some (st.v, st.u) else st.v = .v false [.skp] ∧ st.u = []) →
        b.i = i → b.d = dstM o → b.l = bits (looksOf ops.toList o) → b.r = (if st.ex then bits (namesL (o.op.operands.toList.map (evF σ.tmp))) else 0) → b.w = bits (keysOf st) → okAll b (befM bs o.after.toList) rs = true →
        σ1.tmp = putF σ.tmp o.dst st.v → σ1.ent = upd σ.ent st.u → σ1.tab = st.u ++ σ.tab → Out σ0 σ1 → σ1.next = σ0.next →
        opsD E base ops.toList rest (i + 1) σ1 (b :: rs) ((i, befM bs o.after.toList) :: bs) K = some r →
        ∃ σ' tr', K σ' = some r ∧ TraceOk E ops base τ0 T0 tr' ops.size ∧ σ'.tmp = (after (dstAt ops) tr' τ0 T0 (fun _ => true) ops.size).1 ∧ σ'.ent = (after (dstAt ops) tr' τ0 T0 (fun _ => true) ops.size).2 ∧
          (∀ q ∈ σ'.tab, q ∈ σ0.tab ∨ ∃ j, j < ops.size ∧ q.1 ∈ keysOf (tr' j)) ∧ Out σ0 σ' ∧ σ'.next = σ0.next := by
      intro st b σ1 hrun hop bi bd bl br bw hok e1 e2 e3 hout1 hnx1 h
      let tr' : Nat → Stp := fun j => if j = i then st else tr j
      have tri : tr' i = st := if_pos rfl
      have trj : ∀ j, j < i → tr' j = tr j := fun j hj => if_neg (by omega)
      have haft : ∀ k, k ≤ i → after (dstAt ops) tr' τ0 T0 (fun _ => true) k = after (dstAt ops) tr τ0 T0 (fun _ => true) k := fun k hk => after_congr k fun j hj => trj j (by omega)
      have hrd : ∀ j, j < i → rdAt ops τ0 T0 tr' j = rdAt ops τ0 T0 tr j := fun j hj => rdAt_congr (fun k hk => trj k (by omega)) (trj j hj)
      have hrec : ∀ j, j < i → ∀ q, RecOk ops τ0 T0 tr j q → RecOk ops τ0 T0 tr' j q := fun j hj q hq => ⟨hq.i, hq.d, hq.l, fun t => by rw [hrd j hj]; exact hq.r t, fun t => by rw [trj j hj]; exact hq.w t⟩
      have hrb : RecOk ops τ0 T0 tr' i b := by
        refine ⟨bi, fun t => by rw [bd]; exact dstM_bit hoi t, fun t => by rw [bl, bit_bits, hlook], fun t => ?_, fun t => by rw [bw, bit_bits, tri]⟩
        rw [br]
        have : rdAt ops τ0 T0 tr' i = if st.ex then namesL (o.op.operands.toList.map (evF σ.tmp)) else [] := by
          simp only [rdAt, hoi, tri, haft i (Nat.le_refl _), h1]
          cases st.ex <;> rfl
        rw [this]
        cases st.ex
        · simp
        · simp only [if_true]; exact bit_bits _ t
      have hT' : TraceOk E ops base τ0 T0 tr' (i + 1) := by
        refine ⟨fun j hj q hq => ?_, fun j hj k hk => ?_⟩
        · by_cases hji : j = i
          · subst hji
            rw [hoi] at hq; cases hq
            rw [haft j (Nat.le_refl _), tri, ← h1, ← h2]
            exact ⟨hrun, hop⟩
          · rw [haft j (by omega), trj j (by omega)]
            exact hT.run j (by omega) q hq
        · by_cases hji : j = i
          · subst hji
            obtain ⟨q, hq, hqr⟩ := hrs k hk
            rcases okAll_spec hok q hq with hz | hb
            · exact .inl ((hrec k hk q hqr).indep hrb hz)
            · rw [hqr.i] at hb
              exact .inr (hbef k hb)
          · rcases hT.ord j (by omega) k hk with hz | hb
            · refine .inl ⟨hz.look, hz.look', hz.dst, ?_, ?_, ?_⟩
              · rw [trj k (by omega), hrd j (by omega)]; exact hz.rdn
              · rw [trj j (by omega), hrd k (by omega)]; exact hz.rdn'
              · rw [trj k (by omega), trj j (by omega)]; exact hz.wr
            · exact .inr hb
      have hdi : dstAt ops i = o.dst := by simp [dstAt, hoi]
      refine ih (i + 1) σ1 (b :: rs) ((i, befM bs o.after.toList) :: bs) tr' (by omega) hr' ?_ ?_ hT' (fun j hj => ?_) (fun j m hm k hk => ?_) (fun q hq => ?_) hout1 hnx1 h
      · simp only [after, haft i (Nat.le_refl _), tri, hdi]; rw [e1, h1]
      · simp only [after, haft i (Nat.le_refl _), tri]; rw [e2, h2]
      · by_cases hji : j = i
        · subst hji; exact ⟨b, by simp, hrb⟩
        · obtain ⟨q, hq, hqr⟩ := hrs j (by omega)
          exact ⟨q, by simp [hq], hrec j (by omega) q hqr⟩
      · simp only [lk] at hm
        split at hm
        · rename_i hb
          cases hm
          rw [← Nat.eq_of_beq_eq_true hb]
          exact hbef k hk
        · exact hbs j m hm k hk
      · rw [e3] at hq
        rcases List.mem_append.1 hq with hq | hq
        · exact .inr ⟨i, by omega, by rw [tri]; exact List.mem_map_of_mem hq⟩
        · rcases htab q hq with hq | ⟨j, hj, hq⟩
          · exact .inl hq
          · exact .inr ⟨j, by omega, by rw [trj j hj]; exact hq⟩
    have skip : ∀ σ2 : St, σ2.tmp = σ.tmp → σ2.tab = σ.tab → σ2.ktab = σ.ktab → σ2.kt = σ.kt → σ2.next = σ.next → runs ops.toList σ.tmp o = some false →
        (match okAll ⟨i, dstM o, bits (looksOf ops.toList o), 0, 0⟩ (befM bs o.after.toList) rs with
        | true => opsD E base ops.toList rest (i + 1) (σ2.dst o.dst (.v false [.skp])) (⟨i, dstM o, bits (looksOf ops.toList o), 0, 0⟩ :: rs) ((i, befM bs o.after.toList) :: bs) K
        | false => none) = some r →
        ∃ σ' tr', K σ' = some r ∧ TraceOk E ops base τ0 T0 tr' ops.size ∧ σ'.tmp = (after (dstAt ops) tr' τ0 T0 (fun _ => true) ops.size).1 ∧ σ'.ent = (after (dstAt ops) tr' τ0 T0 (fun _ => true) ops.size).2 ∧
          (∀ q ∈ σ'.tab, q ∈ σ0.tab ∨ ∃ j, j < ops.size ∧ q.1 ∈ keysOf (tr' j)) ∧ Out σ0 σ' ∧ σ'.next = σ0.next := by
      intro σ2 f1 f2 f3 f4 f5 hrun h
      split at h
      case h_2 => cases h
      rename_i hok
      have et : (σ2.dst o.dst (.v false [.skp])).tab = σ.tab := by rw [← f2]; cases o.dst <;> rfl
      have ek : (σ2.dst o.dst (.v false [.skp])).ktab = σ.ktab := by rw [← f3]; cases o.dst <;> rfl
      have ek' : (σ2.dst o.dst (.v false [.skp])).kt = σ.kt := by rw [← f4]; cases o.dst <;> rfl
      have en : (σ2.dst o.dst (.v false [.skp])).next = σ.next := by rw [← f5]; cases o.dst <;> rfl
      refine go ⟨false, .v false [.skp], []⟩ _ _ hrun ?_ rfl rfl rfl (by simp) (by simp [keysOf, bits]) hok ?_ ?_ (by rw [et]; rfl) ⟨by rw [ek']; exact hout.kt, by rw [ek]; exact hout.ktab, by rw [en]; exact hout.next⟩ (by rw [en]; exact hnx) h
      · rw [if_neg (by simp)]; exact ⟨rfl, rfl⟩
      · rw [tmp_dst, f1]
      · rw [ent_eq et ek, upd_nil]
    have exec : ∀ σ2 : St, σ2.tmp = σ.tmp → σ2.tab = σ.tab → σ2.ktab = σ.ktab → σ2.kt = σ.kt → σ2.next = σ.next → runs ops.toList σ.tmp o = some true →
        (opK E σ2.ent (base + 16 * i) σ2.ev o.op fun v u =>
          match okAll ⟨i, dstM o, bits (looksOf ops.toList o), bits (namesL (o.op.operands.toList.map σ2.ev)), bits (u.map (·.1))⟩ (befM bs o.after.toList) rs with
          | true => opsD E base ops.toList rest (i + 1) ((σ2.put u).dst o.dst v) (⟨i, dstM o, bits (looksOf ops.toList o), bits (namesL (o.op.operands.toList.map σ2.ev)), bits (u.map (·.1))⟩ :: rs) ((i, befM bs o.after.toList) :: bs) K
          | false => none) = some r →
        ∃ σ' tr', K σ' = some r ∧ TraceOk E ops base τ0 T0 tr' ops.size ∧ σ'.tmp = (after (dstAt ops) tr' τ0 T0 (fun _ => true) ops.size).1 ∧ σ'.ent = (after (dstAt ops) tr' τ0 T0 (fun _ => true) ops.size).2 ∧
          (∀ q ∈ σ'.tab, q ∈ σ0.tab ∨ ∃ j, j < ops.size ∧ q.1 ∈ keysOf (tr' j)) ∧ Out σ0 σ' ∧ σ'.next = σ0.next := by
      intro σ2 f1 f2 f3 f4 f5 hrun h
      have eent : σ2.ent = σ.ent := ent_eq f2 f3
      have eev : σ2.ev = evF σ.tmp := by rw [ev_evF, f1]
      rw [eent, eev, opK_bind] at h
      obtain ⟨⟨v, u⟩, hk1, h⟩ := Option.bind_eq_some_iff.1 h
      simp only at h
      split at h
      case h_2 => cases h
      rename_i hok
      have et : ((σ2.put u).dst o.dst v).tab = u ++ σ.tab := by
        have : (σ2.put u).tab = u ++ σ.tab := by rw [← f2]; rfl
        cases o.dst <;> exact this
      have ek : ((σ2.put u).dst o.dst v).ktab = σ.ktab := by cases o.dst <;> exact f3
      have ek' : ((σ2.put u).dst o.dst v).kt = σ.kt := by cases o.dst <;> exact f4
      have en : ((σ2.put u).dst o.dst v).next = σ.next := by cases o.dst <;> exact f5
      refine go ⟨true, v, u⟩ _ _ hrun ?_ rfl rfl rfl (by simp) rfl hok ?_ ?_ et ⟨by rw [ek']; exact hout.kt, by rw [ek]; exact hout.ktab, by rw [en]; exact hout.next⟩ (by rw [en]; exact hnx) h
      · rw [if_pos rfl]; exact hk1
      · rw [tmp_dst, tmp_put, f1]
      · rw [ent_dst, ent_put, eent]
    split at h
    · rename_i hg
      exact exec σ rfl rfl rfl rfl rfl (by simp [runs, hg]) h
    · rename_i g want hg
      split at h
      · cases h
      rename_i t ht
      split at h
      · rename_i c e
        cases c
        · simp only [cond_false] at h
          obtain ⟨σ2, h0, e1, e2, e3, e4, e5⟩ := litK_some h e
          cases want
          · exact exec σ2 e1 e2 e3 e4 e5 (by simp [runs, hg, ht, e]) h0
          · exact skip σ2 e1 e2 e3 e4 e5 (by simp [runs, hg, ht, e]) h0
        · simp only [cond_true] at h
          obtain ⟨σ2, h0, e1, e2, e3, e4, e5⟩ := litK_some h e
          cases want
          · exact skip σ2 e1 e2 e3 e4 e5 (by simp [runs, hg, ht, e]) h0
          · exact exec σ2 e1 e2 e3 e4 e5 (by simp [runs, hg, ht, e]) h0
      · rename_i e
        exact skip σ rfl rfl rfl rfl rfl (by simp [runs, hg, ht, e]) h
      · cases h

end
end Go.Proofs.Ytacmfiddaklkiab.Lift
