/- 'Lift': more operations that leave memory alone. -/
import Derived.Test.YtacmfiddaklkiabLOp4
set_option linter.unusedVariables false
namespace Go.Proofs.Ytacmfiddaklkiab.Lift
open Go Go.RowKit

section
variable {P : Program} {S : Nat → Prop} {w0 w : World} {ι : Inj} {T : Tab} {nm : Nat} {o : Oper} {a : Act} {N : Nat → Prop} {ρ : Type} {r : ρ} {E : Env}

theorem names1 {l : Leaf} (h : leafNames l = []) : ∀ n ∈ namesOf (.v false [l]), N n ∨ In16 nm n := by
  intro n hn; simp [namesOf, namesV_cons, h, namesV] at hn

theorem Inv.loc (I : Inv S w0 ι T w) {n : Nat} {p : Bool × Entry} (h : T n = some p) : ∃ l, ι n = some l := by
  have := I.ent n p h
  obtain ⟨b, e⟩ := p
  cases e with
  | box cs => obtain ⟨l, _, _, _, _, hl, _⟩ := this; exact ⟨l, hl⟩
  | arr e xs => obtain ⟨l, hl, _⟩ := this; exact ⟨l, hl⟩

theorem good_addr (hE : TysOk P E) (I : Inv S w0 ι T w) {ev : Operand → Val} {t : TypeId} {x : Operand} {f : Nat} {K : Val → List (Nat × Option Entry) → Option ρ} (hop : o.op = .fieldAddr t x f)
    (hx : RelV w (Av S ι) ι (ev x) (a.eval x)) (hN : ∀ n ∈ namesOf (ev x), N n) (h : addrK E T t (ev x) f (fun v => K v []) = some r) : Good P S w0 ι T w nm o a N K r := by
  unfold addrK at h
  split at h
  case h_2 => cases h
  rename_i c hc
  have ht := hE.at hc
  obtain ⟨fs, hu, hf⟩ := ht.st
  split at h
  case h_2 => cases h
  rename_i off φ hfa
  obtain ⟨fd, hfd, ho, hφ⟩ := hf.at hfa
  rw [Array.getElem?_toList] at hfd
  have run : ∀ b p, a.eval x = .pointer (some ⟨b, p, none⟩) → (execOp a.eval o).run P w = .ok (.value (.pointer (some ⟨b, p + off, none⟩))) w := by
    intro b p hp
    obtain ⟨i, hi⟩ := hφ.info
    have hpos := hi.pos
    simp only [execOp, hop, hp, Instr.fieldAt, Instr.sureAddr]
    simp [run_underlying hu, hfd, fieldPlace, hφ.sizeOf, Nat.pos_iff_ne_zero.1 hpos, Addr.add_lit, ho]
  split at h
  · rename_i n p e
    rw [e] at hx hN
    have hp := RelC.leaf hx
    simp only [RelL] at hp
    obtain ⟨q1, q2, q3⟩ := hp
    split at h
    · rename_i en hT
      obtain ⟨l, hl⟩ := I.loc hT
      obtain ⟨b, hb, hq⟩ := q3 l hl
      refine good_value I h (run b p (List.singleton_inj.1 hq)) (rel1 ⟨rfl, by simp [Value.oneCell'], fun l' hl' => ?_⟩) fun m hm => .inl (hN m (by simpa [namesOf, namesV] using hm))
      rw [hl] at hl'; cases hl'
      exact ⟨b, hb, rfl⟩
    · cases h
  · rename_i n p i m sz inner e
    rw [e] at hx hN
    have hp := RelC.leaf hx
    simp only [RelL] at hp
    obtain ⟨q1, q2, q3⟩ := hp
    split at h
    · rename_i en hT
      obtain ⟨l, hl⟩ := I.loc hT
      obtain ⟨h0, h1, b, hb, hq⟩ := q3 l hl
      refine good_value I h (run b _ (List.singleton_inj.1 hq)) (rel1 ⟨rfl, by simp [Value.oneCell'], fun l' hl' => ?_⟩) fun m hm => .inl (hN m (by simpa [namesOf, namesV] using hm))
      rw [hl] at hl'; cases hl'
      exact ⟨h0, h1, b, hb, by simp [Nat.add_assoc]⟩
    · cases h
  · rename_i n i inner e
    rw [e] at hx hN
    have hp := RelC.leaf hx
    simp only [RelL] at hp
    obtain ⟨q1, q2, q3⟩ := hp
    split at h
    · rename_i en hT
      obtain ⟨l, hl⟩ := I.loc hT
      obtain ⟨h0, h1, b, hb, hq⟩ := q3 l hl
      refine good_value I h (run b _ (List.singleton_inj.1 hq)) (rel1 ⟨rfl, by simp [Value.oneCell'], fun l' hl' => ?_⟩) fun m hm => .inl (hN m (by simpa [namesOf, namesV] using hm))
      rw [hl] at hl'; cases hl'
      exact ⟨h0, h1, b, hb, by simp [Nat.add_assoc]⟩
    · cases h
  · rename_i e' y inner e
    rw [e] at hx hN
    have hp := RelC.leaf hx
    simp only [RelL] at hp
    obtain ⟨b, p, us, hq, ha, hb, he, hc⟩ := hp
    exact good_value I h (run b _ (List.singleton_inj.1 hq)) (rel1 ⟨b, p, us, by simp [Nat.add_assoc], ha, hb, he, hc⟩) (by simp [namesOf, namesV])
  · cases h

theorem good_nil (I : Inv S w0 ι T w) {ev : Operand → Val} {x : Operand} {E : Env} {nm : Nat} {K : Val → List (Nat × Option Entry) → Option ρ} (hop : o.op = .nilCheck x)
    (hx : RelV w (Av S ι) ι (ev x) (a.eval x)) (hN : ∀ n ∈ namesOf (ev x), N n) (h : opK E T nm ev (.nilCheck x) K = some r) : Good P S w0 ι T w nm o a N K r := by
  simp only [opK] at h
  have run : ∀ b p, a.eval x = .pointer (some ⟨b, p, none⟩) → (execOp a.eval o).run P w = .ok (.value (a.eval x)) w := by
    intro b p hp
    simp only [execOp, hop, hp]
    rfl
  split at h
  · rename_i n p e
    have hx' := hx
    rw [e] at hx
    have hp := RelC.leaf hx
    simp only [RelL] at hp
    split at h
    · rename_i en hT
      obtain ⟨l, hl⟩ := I.loc hT
      obtain ⟨b, hb, hq⟩ := hp.2.2 l hl
      exact good_value I h (run b p (List.singleton_inj.1 hq)) hx fun m hm => .inl (hN m (by rw [e]; exact hm))
    · cases h
  · rename_i n i inner e
    rw [e] at hx
    have hp := RelC.leaf hx
    simp only [RelL] at hp
    split at h
    · rename_i en hT
      obtain ⟨l, hl⟩ := I.loc hT
      obtain ⟨_, _, b, hb, hq⟩ := hp.2.2 l hl
      exact good_value I h (run b _ (List.singleton_inj.1 hq)) hx fun m hm => .inl (hN m (by rw [e]; exact hm))
    · cases h
  · cases h

theorem good_len (hE : TysOk P E) (I : Inv S w0 ι T w) {ev : Operand → Val} {t : TypeId} {x : Operand} {c : Call} {K : Val → List (Nat × Option Entry) → Option ρ} (hop : o.op = .call c) (hc : c.callee = .builtin .len) (ha : c.args.toList = [x]) (hat : c.argTypes.toList = [t])
    (hx : RelV w (Av S ι) ι (ev x) (a.eval x)) (h : lenK E T t (ev x) (fun v => K v []) = some r) : Good P S w0 ι T w nm o a N K r := by
  have hargs : c.args = #[x] := by apply Array.ext'; simpa using ha
  have htys : c.argTypes = #[t] := by apply Array.ext'; simpa using hat
  have run : ∀ v, (Builtin.len_ #[t] o.type #[a.eval x]).run P w = .ok v w → (execOp a.eval o).run P w = .ok (.value v) w := by
    intro v hv
    simp only [execOp, hop, resolve, hc, hargs, htys]
    simp [invoke, builtin, hv]
  unfold lenK at h
  split at h
  · rename_i s ht e
    rw [e] at hx
    have hx := rel_str hx
    exact good_value I h (run _ (by simp [Builtin.len_, hx, run_underlying (hE.at ht).str]; rfl)) (rel1 rfl) (names1 rfl)
  · rename_i e' e0 xs ht e
    obtain ⟨te, hu, _⟩ := (hE.at ht).sl
    rw [e] at hx
    have hp := RelC.leaf hx
    simp only [RelL, Enc] at hp
    rcases hp with ⟨rfl, hp⟩ | ⟨b, p, cap, hp, _⟩
    · exact good_value I h (run _ (by simp [Builtin.len_, List.singleton_inj.1 hp, run_underlying hu]; rfl)) (rel1 rfl) (names1 rfl)
    · exact good_value I h (run _ (by simp [Builtin.len_, List.singleton_inj.1 hp, run_underlying hu]; rfl)) (rel1 rfl) (names1 rfl)
  · rename_i e' ht e
    obtain ⟨te, hu, _⟩ := (hE.at ht).sl
    rw [e] at hx
    have hp := RelC.leaf hx
    simp only [RelL] at hp
    exact good_value I h (run _ (by simp [Builtin.len_, List.singleton_inj.1 hp, run_underlying hu]; rfl)) (rel1 rfl) (names1 rfl)
  · rename_i e' n ht e
    obtain ⟨te, hu, _⟩ := (hE.at ht).sl
    rw [e] at hx
    have hp := RelC.leaf hx
    simp only [RelL] at hp
    split at h
    · rename_i b' e1 xs hT
      obtain ⟨l, hl, k1, k2⟩ := I.ent n _ hT
      have hq := hp.2.2 l hl
      rw [← k1] at h
      exact good_value I h (run _ (by simp [Builtin.len_, List.singleton_inj.1 hq, run_underlying hu]; rfl)) (rel1 rfl) (names1 rfl)
    · cases h
  · rename_i e' n lo hi ht e
    obtain ⟨te, hu, _⟩ := (hE.at ht).sl
    rw [e] at hx
    have hp := RelC.leaf hx
    simp only [RelL] at hp
    split at h
    · rename_i b' e1 xs hT
      obtain ⟨l, hl, k1, k2⟩ := I.ent n _ hT
      obtain ⟨h0, h1, h2, hq⟩ := hp.2.2 l hl
      have hv : ∃ aa cc, a.eval x = .slice aa (hi - lo).toNat cc := by
        rcases hq with ⟨hb, hq⟩ | ⟨b, p, c, hb, hq, _⟩
        · rcases k2 with ⟨_, _, k4 | ⟨b, _, _, _, hb', _⟩⟩
          · have : hi - lo = 0 := by
              have := k4.2.1
              subst this
              simp at k1; omega
            rw [this]
            exact ⟨_, _, List.singleton_inj.1 hq⟩
          · rw [hb] at hb'; cases hb'
        · exact ⟨_, _, List.singleton_inj.1 hq⟩
      obtain ⟨aa, cc, hv⟩ := hv
      refine good_value I h (run (.int .i64 (hi - lo)) ?_) (rel1 rfl) (names1 rfl)
      simp [Builtin.len_, hv, run_underlying hu, goInt]
      omega
    · cases h
  · rename_i m e' cs ht e
    obtain ⟨te, hu, _⟩ := (hE.at ht).arr
    exact good_value I h (run _ (by simp [Builtin.len_, run_underlying hu]; rfl)) (rel1 rfl) (names1 rfl)
  · cases h

theorem good_extract (I : Inv S w0 ι T w) {ev : Operand → Val} {x : Operand} {j : Nat} {K : Val → List (Nat × Option Entry) → Option ρ} (hop : o.op = .extract x j)
    (hx : RelV w (Av S ι) ι (ev x) (a.eval x)) (hN : ∀ n ∈ namesOf (ev x), N n) (h : extractK (ev x) j (fun v => K v []) = some r) : Good P S w0 ι T w nm o a N K r := by
  unfold extractK at h
  split at h
  · rename_i vs e
    rw [e] at hx hN
    obtain ⟨us, hu, hr⟩ := hx
    split at h
    · rename_i ag cs hj
      obtain ⟨u, huj, hr⟩ := hr j ag cs hj
      refine good_value I h (v' := u) ?_ hr fun n hn => .inl (hN n (namesT_mem hj hn))
      simp only [execOp, hop, hu, Instr.extract, huj]
      rfl
    · cases h
  · cases h

theorem rangeK_some {i : Val} {n : Int} {K : Int → Option ρ} (h : rangeK i n K = some r) : ∃ k j, i = .v false [.int k j] ∧ 0 ≤ j ∧ j < n ∧ K j = some r := by
  unfold rangeK at h
  split at h
  · rename_i k j
    split at h
    · rename_i hj; exact ⟨k, j, rfl, hj.1, hj.2, h⟩
    · cases h
  · cases h

theorem good_indexAddr (hE : TysOk P E) (I : Inv S w0 ι T w) {ev : Operand → Val} {t : TypeId} {x y : Operand} {K : Val → List (Nat × Option Entry) → Option ρ} (hop : o.op = .indexAddr t x y)
    (hx : RelV w (Av S ι) ι (ev x) (a.eval x)) (hy : RelV w (Av S ι) ι (ev y) (a.eval y)) (hN : ∀ n ∈ namesOf (ev x), N n)
    (h : indexAddrK E T t (ev x) (ev y) (fun v => K v []) = some r) : Good P S w0 ι T w nm o a N K r := by
  unfold indexAddrK at h
  split at h
  · rename_i e0 e xs ht ex
    split at h
    case h_2 => cases h
    rename_i hsz
    have hsz := Nat.eq_of_beq_eq_true hsz
    obtain ⟨te, hu, hte⟩ := (hE.at ht).sl
    obtain ⟨k, j, ey, h0, h1, h⟩ := rangeK_some h
    rw [ex] at hx; rw [ey] at hy
    have hy := rel_int hy
    have hp := RelC.leaf hx
    simp only [RelL, Enc] at hp
    rcases hp with ⟨rfl, hp⟩ | ⟨b, p, cap, hp, hc, ha, hb, hxs⟩
    · simp at h1; omega
    · have hx' := nth_get (d := e.dflt) h0 (by exact_mod_cast h1)
      obtain ⟨us, he, hcl⟩ := hxs _ _ hx'
      refine good_value I h (v' := .pointer (some ⟨b, p + j.toNat * e.size, none⟩)) ?_ (rel1 ⟨b, _, us, by simp, ha, hb, he, hcl⟩) (names1 rfl)
      simp only [execOp, hop, List.singleton_inj.1 hp, hy, Instr.indexAt, asIntOf]
      simp [run_underlying hu, hte.sizeOf, h0, h1, Addr.add_lit, hsz]
  · rename_i e0 n ht ex
    obtain ⟨te, hu, hte⟩ := (hE.at ht).sl
    rw [ex] at hx hN
    have hp := RelC.leaf hx
    simp only [RelL] at hp
    split at h
    case h_2 => cases h
    rename_i b' e xs hT
    split at h
    case h_2 => cases h
    rename_i hsz
    have hsz := Nat.eq_of_beq_eq_true hsz
    obtain ⟨k, j, ey, h0, h1, h⟩ := rangeK_some h
    rw [ey] at hy
    have hy := rel_int hy
    obtain ⟨l, hl, k1, k2, k3, k4⟩ := I.ent n _ hT
    have hq := List.singleton_inj.1 (hp.2.2 l hl)
    rcases k4 with ⟨_, rfl, _⟩ | ⟨b, vs, el, fz, hb, hh, hf, hs, hxs⟩
    · simp at h1; omega
    · refine good_value I h (v' := .pointer (some ⟨b, j.toNat * l.sz, none⟩)) ?_ (rel1 ⟨rfl, by simp [Value.oneCell'], fun l' hl' => ?_⟩) fun m hm => .inl (hN m (by simpa [namesOf, namesV] using hm))
      · simp only [execOp, hop, hq, hy, Instr.indexAt, asIntOf, base, hb, Option.map_some]
        have : j < (l.len : Int) := by rw [k1]; exact h1
        simp [run_underlying hu, hte.sizeOf, h0, this, Addr.add_lit, hsz, k2]
      · rw [hl] at hl'; cases hl'
        exact ⟨h0, by rw [k1]; exact h1, b, hb, by simp⟩
  · rename_i e0 n lo hi ht ex
    obtain ⟨te, hu, hte⟩ := (hE.at ht).sl
    rw [ex] at hx hN
    have hp := RelC.leaf hx
    simp only [RelL] at hp
    split at h
    case h_2 => cases h
    rename_i b' e xs hT
    split at h
    case h_2 => cases h
    rename_i hsz
    have hsz := Nat.eq_of_beq_eq_true hsz
    obtain ⟨k, j, ey, h0, h1, h⟩ := rangeK_some h
    rw [ey] at hy
    have hy := rel_int hy
    obtain ⟨l, hl, k1, k2, k3, k4⟩ := I.ent n _ hT
    obtain ⟨g0, g1, g2, hq⟩ := hp.2.2 l hl
    rcases hq with ⟨hb, hq⟩ | ⟨b, p, c, hb, hq, hc, ho⟩
    · rcases k4 with ⟨_, rfl, _⟩ | ⟨b, _, _, _, hb', _⟩
      · simp at k1; omega
      · rw [hb] at hb'; cases hb'
    · have hq := List.singleton_inj.1 hq
      have hlt : lo < hi := by omega
      have hp' := ho hlt
      subst hp'
      refine good_value I h (v' := .pointer (some ⟨b, (lo + j).toNat * l.sz, none⟩)) ?_ (rel1 ⟨rfl, by simp [Value.oneCell'], fun l' hl' => ?_⟩) fun m hm => .inl (hN m (by simpa [namesOf, namesV] using hm))
      · simp only [execOp, hop, hq, hy, Instr.indexAt, asIntOf]
        have : j < ((hi - lo).toNat : Int) := by omega
        have hl2 : lo.toNat * e.size + j.toNat * e.size = (lo + j).toNat * e.size := by
          rw [← Nat.add_mul]; congr 1; omega
        rw [k2]
        simp [run_underlying hu, hte.sizeOf, h0, Addr.add_lit, hsz, hl2]
        intro hcon
        omega
      · rw [hl] at hl'; cases hl'
        exact ⟨by omega, by omega, b, hb, by simp⟩
  · rename_i m e n off ht ex
    obtain ⟨te, hu, hte⟩ := (hE.at ht).arr
    rw [ex] at hx hN
    have hp := RelC.leaf hx
    simp only [RelL] at hp
    split at h
    case h_2 => cases h
    rename_i en hT
    obtain ⟨k, j, ey, h0, h1, h⟩ := rangeK_some h
    rw [ey] at hy
    have hy := rel_int hy
    obtain ⟨l, hl⟩ := I.loc hT
    obtain ⟨b, hb, hq⟩ := hp.2.2 l hl
    have hq := List.singleton_inj.1 hq
    refine good_value I h (v' := .pointer (some ⟨b, off + j.toNat * e.size, none⟩)) ?_ (rel1 ⟨rfl, by simp [Value.oneCell'], fun l' hl' => ?_⟩) fun m hm => .inl (hN m (by simpa [namesOf, namesV] using hm))
    · simp only [execOp, hop, hq, hy, Instr.indexAt, asIntOf, Instr.sureAddr]
      simp [run_underlying hu, hte.sizeOf, h0, h1, Addr.add_lit]
    · rw [hl] at hl'; cases hl'
      exact ⟨h0, h1, b, hb, by simp⟩
  · rename_i m e n i0 off ht ex
    obtain ⟨te, hu, hte⟩ := (hE.at ht).arr
    rw [ex] at hx hN
    have hp := RelC.leaf hx
    simp only [RelL] at hp
    split at h
    case h_2 => cases h
    rename_i en hT
    obtain ⟨k, j, ey, h0, h1, h⟩ := rangeK_some h
    rw [ey] at hy
    have hy := rel_int hy
    obtain ⟨l, hl⟩ := I.loc hT
    obtain ⟨g0, g1, b, hb, hq⟩ := hp.2.2 l hl
    have hq := List.singleton_inj.1 hq
    refine good_value I h (v' := .pointer (some ⟨b, i0.toNat * l.sz + off + j.toNat * e.size, none⟩)) ?_ (rel1 ⟨rfl, by simp [Value.oneCell'], fun l' hl' => ?_⟩) fun m hm => .inl (hN m (by simpa [namesOf, namesV] using hm))
    · simp only [execOp, hop, hq, hy, Instr.indexAt, asIntOf, Instr.sureAddr]
      simp [run_underlying hu, hte.sizeOf, h0, h1, Addr.add_lit]
    · rw [hl] at hl'; cases hl'
      exact ⟨g0, g1, h0, h1, b, hb, by simp⟩
  · rename_i m e e0 y0 off ht ex
    obtain ⟨te, hu, hte⟩ := (hE.at ht).arr
    rw [ex] at hx hN
    have hp := RelC.leaf hx
    simp only [RelL] at hp
    split at h
    case h_2 => cases h
    rename_i m' e' ys rest hd
    split at h
    case h_2 => cases h
    rename_i hms
    simp only [Bool.and_eq_true] at hms
    have hm' := Nat.eq_of_beq_eq_true hms.1
    have hs' := Nat.eq_of_beq_eq_true hms.2
    subst hm'
    obtain ⟨k, j, ey, h0, h1, h⟩ := rangeK_some h
    rw [ey] at hy
    have hy := rel_int hy
    obtain ⟨b, o', us, hq, ha, hb, he, c1⟩ := hp
    have hq := List.singleton_inj.1 hq
    obtain ⟨us2, ts2, e1, r1, r2⟩ := (RelC.toC (ι := ι) he).drop hd
    simp only [RelL, Enc] at r1
    obtain ⟨q1, q2, q3⟩ := r1
    have hy' := nth_get (d := e'.dflt) h0 (by rw [q1]; exact h1)
    have he2 := q3 _ _ hy'
    have c0 : Cells w b (o' + off) us2 := by
      have := c1.sub off us2.length
      rw [e1, List.take_left' rfl] at this
      exact this
    have c2 := c0.sub (j.toNat * e'.size) e'.size
    refine good_value I h (v' := .pointer (some ⟨b, o' + off + j.toNat * e.size, none⟩)) ?_ (rel1 ⟨b, o' + off + j.toNat * e.size, _, by simp, ha, hb, he2, by rw [← hs']; exact c2⟩) (names1 rfl)
    simp only [execOp, hop, hq, hy, Instr.indexAt, asIntOf, Instr.sureAddr]
    simp [run_underlying hu, hte.sizeOf, h0, h1, Addr.add_lit]
  · cases h

end
end Go.Proofs.Ytacmfiddaklkiab.Lift
