/- 'Lift': conversions, addresses, loads. -/
import Derived.Test.YtacmfiddaklkiabLOp3
set_option linter.unusedVariables false
namespace Go.Proofs.Ytacmfiddaklkiab.Lift
open Go Go.RowKit

section
variable {P : Program} {S : Nat → Prop} {w0 w : World} {ι : Inj} {T : Tab} {nm : Nat} {o : Oper} {a : Act} {N : Nat → Prop} {ρ : Type} {r : ρ} {E : Env}

theorem takeC_widths : ∀ {ls : List Leaf} {n : Nat} {ls' : List Leaf}, takeC ls n = some ls' → widths ls' = n
  | ls, 0, _, h => by have : takeC ls 0 = some [] := by cases ls <;> rfl
                      rw [this] at h; cases h; rfl
  | [], n + 1, _, h => by cases h
  | l :: r, n + 1, ls', h => by
    simp only [takeC] at h
    split at h
    · rename_i hle
      have hle' := Nat.le_of_ble_eq_true hle
      obtain ⟨q, hq, rfl⟩ := Option.map_eq_some_iff.1 h
      simp only [widths, takeC_widths hq]
      omega
    · cases h

theorem getC_widths {ls ls' : List Leaf} {off n : Nat} (h : getC ls off n = some ls') : widths ls' = n := by
  obtain ⟨q, _, e⟩ := Option.bind_eq_some_iff.1 h
  exact takeC_widths e

theorem cells_of_heap {b : Nat} {vs : Array Value} {el : TypeId} {fz : Nat × Nat} (h : w.heap[b]? = some (.cells vs el fz)) (off n : Nat) : Cells w b off ((vs.toList.drop off).take n) := by
  intro j v hj
  rw [List.getElem?_take] at hj
  split at hj
  · rw [List.getElem?_drop] at hj
    simp [World.cell?, h, Array.getElem?_toList] at hj ⊢
    exact hj
  · cases hj

theorem Cells.sub {b o : Nat} {vs : List Value} (h : Cells w b o vs) (off n : Nat) : Cells w b (o + off) ((vs.drop off).take n) := by
  intro j v hj
  rw [List.getElem?_take] at hj
  split at hj
  · rw [List.getElem?_drop] at hj
    have := h (off + j) v hj
    rwa [← Nat.add_assoc] at this
  · cases hj

theorem TyOk.size_one {τ : Ty} {t : TypeId} (h : TyOk P τ t) (ha : τ.agg = false) : τ.size = 1 := by
  cases τ <;> simp_all [Ty.agg, Ty.size] <;> first | exact h.not_unit.elim | exact h.not_pair.elim

theorem run_loadVar {τ : Ty} {t : TypeId} (h : TyOk P τ t) {b o : Nat} {vs : List Value} (hc : Cells w b o vs) (hl : vs.length = τ.size) :
    (loadVar t ⟨b, o, none⟩).run P w = .ok (mkV τ vs) w := by
  unfold loadVar mkV
  by_cases ha : τ.agg = true
  · have := run_loadCells_list (P := P) w ⟨b, o, none⟩ vs (fun j v hj => by rw [Addr.add_lit]; exact hc j v hj)
    rw [hl] at this
    simp [h.agg, ha, h.sizeOf, this]
  · have ha' : τ.agg = false := by simpa using ha
    rw [h.size_one ha'] at hl
    obtain ⟨v, rfl⟩ := List.length_eq_one_iff.1 hl
    have := hc 0 v rfl
    rw [Nat.add_zero] at this
    simp [h.agg, ha', this]

theorem rel_mkV {A : Nat → Prop} {τ : Ty} {t : TypeId} (h : TyOk P τ t) {cs : List Leaf} {vs : List Value} (hr : RelC w A ι cs vs) (hl : vs.length = τ.size) : RelV w A ι (.v τ.agg cs) (mkV τ vs) := by
  show RelV1 w A ι τ.agg cs (mkV τ vs)
  cases ha : τ.agg
  · rw [h.size_one ha] at hl
    obtain ⟨v, rfl⟩ := List.length_eq_one_iff.1 hl
    rw [mkV_one ha]
    exact hr
  · rw [mkV_agg ha]
    exact ⟨_, rfl, by simpa using hr⟩

/-- A load, of whatever address. -/
theorem good_load1 (I : Inv S w0 ι T w) {t : TypeId} {τ : Ty} (ht : TyOk P τ t) {x : Operand} {K : Val → List (Nat × Option Entry) → Option ρ} (hop : o.op = .load t x) {b off : Nat} (hx : a.eval x = .pointer (some ⟨b, off, none⟩))
    {cs : List Leaf} {vs : List Value} (hr : RelC w (Av S ι) ι cs vs) (hc : Cells w b off vs) (hl : vs.length = τ.size) (h : K (.v τ.agg cs) [] = some r) (hN : ∀ n ∈ namesV cs, N n) :
    Good P S w0 ι T w nm o a N K r := by
  refine good_value I h (v' := mkV τ vs) ?_ (rel_mkV ht hr hl) fun n hn => .inl (hN n hn)
  simp only [execOp, hop, hx, Instr.loadAt, Instr.sureAddr]
  simp [run_loadVar ht hc hl]

theorem nth_get {α : Type} {d : α} {xs : List α} {i : Int} (h0 : 0 ≤ i) (h1 : i < xs.length) : xs[i.toNat]? = some (nth d xs i) := by
  have : i.toNat < xs.length := by omega
  simp [nth, List.getD_eq_getElem?_getD, this]

theorem good_load (hE : TysOk P E) (I : Inv S w0 ι T w) {ev : Operand → Val} {t : TypeId} {x : Operand} {K : Val → List (Nat × Option Entry) → Option ρ} (hop : o.op = .load t x)
    (hx : RelV w (Av S ι) ι (ev x) (a.eval x)) (hN : ∀ n ∈ namesOf (ev x), N n) (hT : ∀ m e, N m → T m = some e → ∀ n ∈ entNames e.2, N n)
    (h : loadK E T t (ev x) (fun v => K v []) = some r) : Good P S w0 ι T w nm o a N K r := by
  unfold loadK at h
  split at h
  · cases h
  rename_i τ hτ
  have ht := hE.at hτ
  dsimp only at h
  split at h
  · rename_i n off e
    rw [e] at hx hN
    have hN' : N n := hN n (by simp [namesOf, namesV])
    have hp := RelC.leaf hx
    simp only [RelL] at hp
    split at h
    · rename_i b' cs hT'
      obtain ⟨l, b, vs, el, fz, hl, hb, hh, hf, hc⟩ := I.ent n _ hT'
      obtain ⟨b2, hb2, hp⟩ := hp.2.2 l hl
      rw [hb] at hb2; cases hb2
      split at h
      · rename_i cs' hg
        have hr := hc.get hg
        refine good_load1 I ht hop (List.singleton_inj.1 hp) hr (cells_of_heap hh off τ.size) (by rw [hr.length, getC_widths hg]) h fun m hm => hT n _ hN' hT' m (names_get hg m hm)
      · cases h
    · cases h
  · rename_i n off i m sz inner e
    rw [e] at hx hN
    have hN' : N n := hN n (by simp [namesOf, namesV])
    have hp := RelC.leaf hx
    simp only [RelL] at hp
    split at h
    · rename_i b' cs hT'
      obtain ⟨l, b, vs, el, fz, hl, hb, hh, hf, hc⟩ := I.ent n _ hT'
      obtain ⟨h0, h1, b2, hb2, hq⟩ := hp.2.2 l hl
      rw [hb] at hb2; cases hb2
      split at h
      · rename_i m' el' xs rest hd
        split at h
        · rename_i hms
          simp only [Bool.and_eq_true] at hms
          have hm' := Nat.eq_of_beq_eq_true hms.1
          have hs' := Nat.eq_of_beq_eq_true hms.2
          subst hm'; subst hs'
          split at h
          · rename_i cs' hg
            obtain ⟨us, ts, e1, r1, r2⟩ := hc.drop hd
            simp only [RelL, Enc] at r1
            obtain ⟨k1, k2, k3⟩ := r1
            have hx' := nth_get (d := el'.dflt) h0 (by rw [k1]; exact h1)
            have he := k3 _ _ hx'
            have hr := (RelC.toC (ι := ι) he).get hg
            have c1 : Cells w b off us := by
              have := cells_of_heap hh off us.length
              rw [e1, List.take_left' rfl] at this
              exact this
            have c2 := (c1.sub (i.toNat * el'.size) el'.size).sub inner τ.size
            exact good_load1 I ht hop (List.singleton_inj.1 hq) hr c2 (by rw [hr.length, getC_widths hg]) h fun q hq => by
              have := names_get hg q hq; rw [names_toC] at this; simp at this
          · cases h
        · cases h
      · cases h
    · cases h
  · rename_i n i inner e
    rw [e] at hx hN
    have hp := RelC.leaf hx
    simp only [RelL] at hp
    split at h
    · rename_i b' el' xs hT'
      obtain ⟨l, hl, k1, k2, k3, k4⟩ := I.ent n _ hT'
      obtain ⟨h0, h1, b2, hb2, hp⟩ := hp.2.2 l hl
      rcases k4 with ⟨hb, _⟩ | ⟨b, vs, el, fz, hb, hh, hf, hs, hxs⟩
      · rw [hb2] at hb; cases hb
      rw [hb2] at hb; cases hb
      split at h
      · rename_i cs' hg
        have hx' := nth_get (d := el'.dflt) h0 (by rw [← k1]; exact h1)
        obtain ⟨us, he, c1⟩ := hxs _ _ hx'
        have hr := (RelC.toC (ι := ι) he).get hg
        have c2 := c1.sub inner τ.size
        rw [← k2] at c2
        exact good_load1 I ht hop (List.singleton_inj.1 hp) hr c2 (by rw [hr.length, getC_widths hg]) h fun q hq => by
          have := names_get hg q hq; rw [names_toC] at this; simp at this
      · cases h
    · cases h
  · rename_i n i off j m sz e
    rw [e] at hx hN
    have hp := RelC.leaf hx
    simp only [RelL] at hp
    split at h
    · rename_i b' el' xs hT'
      obtain ⟨l, hl, k1, k2, k3, k4⟩ := I.ent n _ hT'
      obtain ⟨h0, h1, h0j, h1j, b2, hb2, hq2⟩ := hp.2.2 l hl
      rcases k4 with ⟨hb, _⟩ | ⟨b, vs, el, fz, hb, hh, hf, hs, hxs⟩
      · rw [hb2] at hb; cases hb
      rw [hb2] at hb; cases hb
      split at h
      · rename_i m' e2 ys rest hd
        split at h
        · rename_i hms
          simp only [Bool.and_eq_true] at hms
          have hm' := Nat.eq_of_beq_eq_true hms.1
          have hs' := Nat.eq_of_beq_eq_true hms.2
          subst hm'; subst hs'
          split at h
          · rename_i cs' hg
            have hx' := nth_get (d := el'.dflt) h0 (by rw [← k1]; exact h1)
            obtain ⟨us, he, c1⟩ := hxs _ _ hx'
            obtain ⟨us2, ts2, e1, r1, r2⟩ := (RelC.toC (ι := ι) he).drop hd
            simp only [RelL, Enc] at r1
            obtain ⟨q1, q2, q3⟩ := r1
            have hy' := nth_get (d := e2.dflt) h0j (by rw [q1]; exact h1j)
            have he2 := q3 _ _ hy'
            have hr := (RelC.toC (ι := ι) he2).get hg
            have c0 : Cells w b2 (i.toNat * el'.size + off) us2 := by
              have := c1.sub off us2.length
              rw [e1, List.take_left' rfl] at this
              exact this
            have c2 := (c0.sub (j.toNat * e2.size) e2.size).sub 0 τ.size
            rw [← k2, Nat.add_zero] at c2
            exact good_load1 I ht hop (List.singleton_inj.1 hq2) hr c2 (by rw [hr.length, getC_widths hg]) h fun q hq => by
              have := names_get hg q hq; rw [names_toC] at this; simp at this
          · cases h
        · cases h
      · cases h
    · cases h
  · rename_i e' y inner e
    rw [e] at hx hN
    have hp := RelC.leaf hx
    simp only [RelL] at hp
    obtain ⟨b, off, us, hp, ha, hb, he, c1⟩ := hp
    split at h
    · rename_i cs' hg
      have hr := (RelC.toC (ι := ι) he).get hg
      exact good_load1 I ht hop (List.singleton_inj.1 hp) hr (c1.sub inner τ.size) (by rw [hr.length, getC_widths hg]) h fun q hq => by
        have := names_get hg q hq; rw [names_toC] at this; simp at this
    · cases h
  · cases h

end
end Go.Proofs.Ytacmfiddaklkiab.Lift
