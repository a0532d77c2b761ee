/- The law CommitWaits, in plain Lean: at every input its function is true. -/
import Derived.Test.YtapngmfecjhlfaaPureCh25b
set_option linter.unusedVariables false
set_option linter.unusedSimpArgs false
namespace Go.Proofs.Ytapngmfecjhlfaa.Fn
open Go Lift

/-- What is held, and what has left. -/
def heldL (out : List OutT) (a : Nat) (m : Int) : List OutT := (out.take a).filter fun o => gateB o && decide (m ≤ o.2.1)

structure InvW (out : List OutT) (x : Gate × List OutT × Int × Int × Int) (a : Nat) : Prop where
  pos : x.2.2.1 = (a : Int)
  le : a ≤ out.length
  acked : x.1.2.1 = x.2.2.2.1
  most0 : 0 ≤ x.2.2.2.1
  held : x.1.1 = heldL out a x.2.2.2.1
  bytes : 0 ≤ x.1.2.2 ∧ x.1.2.2 + (x.1.1.length : Int) ≤ a
  got : x.2.1 = gated (out.take a) x.2.2.2.1
  ahead : ∀ o ∈ out.drop a, x.2.2.2.1 ≤ o.2.1

theorem held_more {out : List OutT} {a b : Nat} (hab : a ≤ b) {m : Int} (h : ∀ o ∈ out.drop a, m ≤ o.2.1) : heldL out b m = heldL out a m ++ ((out.drop a).take (b - a)).filter (fun o => gateB o && decide (m ≤ o.2.1)) := by
  unfold heldL
  rw [← List.filter_append]
  congr 1
  have e : out.take b = out.take a ++ (out.drop a).take (b - a) := by
    have := List.take_add (l := out) (i := a) (j := b - a)
    rw [show a + (b - a) = b by omega] at this
    exact this
  exact e

theorem gated_more {out : List OutT} {a b : Nat} (hab : a ≤ b) {m : Int} (h : ∀ o ∈ out.drop a, m ≤ o.2.1) : gated (out.take b) m = gated (out.take a) m := by
  unfold gated
  have e : out.take b = out.take a ++ (out.drop a).take (b - a) := by
    have := List.take_add (l := out) (i := a) (j := b - a)
    rw [show a + (b - a) = b by omega] at this
    exact this
  rw [e, List.filter_append]
  have : ((out.drop a).take (b - a)).filter (fun o => decide (o.2.1 < m) && gateB o) = [] := by
    rw [List.filter_eq_nil_iff]
    intro o ho
    have := h o (List.mem_of_mem_take ho)
    rw [decide_eq_false (by omega), Bool.false_and]
    decide
  rw [this, List.append_nil]

theorem slc_mid {α : Type} (l : List α) (a b : Nat) : slc l (a : Int) (b : Int) = (l.drop a).take (b - a) := by
  unfold slc
  rw [Int.toNat_natCast, Int.toNat_natCast, List.drop_take]

theorem ord_take {out : List OutT} (h : Ordered out) (a : Nat) : Ordered (out.take a) := List.Pairwise.sublist (List.take_sublist _ _) h

theorem held_split {l : List OutT} (ho : Ordered l) {m k : Int} (hmk : m ≤ k) : (l.filter (fun o => gateB o && decide (m ≤ o.2.1))).filter (fun o => decide (k ≤ o.2.1)) = l.filter (fun o => gateB o && decide (k ≤ o.2.1)) := by
  rw [List.filter_filter]
  refine List.filter_congr fun o _ => ?_
  cases gateB o with
  | false => rw [Bool.false_and, Bool.and_false, Bool.false_and]
  | true =>
    rw [Bool.true_and, Bool.true_and]
    by_cases c : k ≤ o.2.1
    · rw [decide_eq_true c, decide_eq_true (by omega)]; rfl
    · rw [decide_eq_false c]; rfl

theorem got_split : ∀ {l : List OutT}, Ordered l → ∀ {m k : Int}, m ≤ k → gated l k = gated l m ++ (l.filter (fun o => gateB o && decide (m ≤ o.2.1))).filter (fun o => decide (o.2.1 < k))
  | [], _, m, k, _ => rfl
  | x :: l, h, m, k, hmk => by
    have h' := List.pairwise_cons.1 h
    have ih := got_split h'.2 hmk
    by_cases c : x.2.1 < m
    · have e1 : gated (x :: l) k = (if gateB x = true then [x] else []) ++ gated l k := by
        unfold gated
        rw [List.filter_cons, decide_eq_true (show x.2.1 < k by omega), Bool.true_and]
        cases gateB x <;> rfl
      have e2 : gated (x :: l) m = (if gateB x = true then [x] else []) ++ gated l m := by
        unfold gated
        rw [List.filter_cons, decide_eq_true c, Bool.true_and]
        cases gateB x <;> rfl
      have e3 : (x :: l).filter (fun o => gateB o && decide (m ≤ o.2.1)) = l.filter (fun o => gateB o && decide (m ≤ o.2.1)) := by
        rw [List.filter_cons, decide_eq_false (show ¬ m ≤ x.2.1 by omega), Bool.and_false]
        rfl
      rw [e1, e2, e3, ih, List.append_assoc]
    · -- nothing below m is left
      have hz : ∀ y ∈ x :: l, ¬ y.2.1 < m := fun y hy => by
        rcases List.mem_cons.1 hy with rfl | hy
        · exact c
        · have := h'.1 y hy; omega
      have e2 : gated (x :: l) m = [] := by
        unfold gated
        rw [List.filter_eq_nil_iff]
        intro o ho
        rw [decide_eq_false (hz o ho), Bool.false_and]
        decide
      rw [e2, List.nil_append, List.filter_filter]
      unfold gated
      refine List.filter_congr fun o ho => ?_
      have := hz o ho
      rw [decide_eq_true (show m ≤ o.2.1 by omega), Bool.and_true]

theorem heldL_ord {out : List OutT} (h : Ordered out) (a : Nat) (m : Int) : Ordered (heldL out a m) := List.Pairwise.filter _ (ord_take h a)

theorem heldL_valid {out : List OutT} {n : Nat} (h : Outs out n) (a : Nat) (m : Int) : validL m (heldL out a m) = true := by
  refine valid_of _ m (heldL_ord h.ord a m) (fun o ho => ?_) (fun o ho => ?_)
  · obtain ⟨h1, h2⟩ := List.mem_filter.1 ho
    rw [Bool.and_eq_true] at h2
    exact h.ok o (List.mem_of_mem_take h1) h2.1
  · obtain ⟨h1, h2⟩ := List.mem_filter.1 ho
    rw [Bool.and_eq_true] at h2
    exact of_decide_eq_true h2.2

theorem heldL_len (out : List OutT) (a : Nat) (m : Int) : (heldL out a m).length ≤ out.length :=
  Nat.le_trans (List.length_filter_le _ _) (by rw [List.length_take]; omega)

/-- Holding the next outputs. -/
theorem hold_next {out : List OutT} {n : Nat} (h : Outs out n) (hn : n ≤ 40) {a b : Nat} (hab : a ≤ b) (hb : b ≤ out.length) {m by_ : Int} (hby : 0 ≤ by_ ∧ by_ + ((heldL out a m).length : Int) ≤ a) (hah : ∀ o ∈ out.drop a, m ≤ o.2.1) :
    holdC (heldL out a m, m, by_) ((out.drop a).take (b - a)) = ((heldL out b m, m, by_), true) ∧ by_ + ((heldL out b m).length : Int) ≤ b := by
  have hlen := h.len
  have hseg : ((out.drop a).take (b - a)).length ≤ b - a := by rw [List.length_take]; omega
  have hc : ((out.drop a).take (b - a)).filter (fun o => is1 o && decide (o.2.1 < m)) = [] := by
    rw [List.filter_eq_nil_iff]
    intro o ho
    have := hah o (List.mem_of_mem_take ho)
    rw [decide_eq_false (by omega), Bool.and_false]
    decide
  have hf := holdFold ((out.drop a).take (b - a)) (heldL out a m) m by_ hby.1 (by omega)
  rw [hc, ← held_more hab hah] at hf
  have e0 : by_ + ((([] : List OutT).length : Nat) : Int) = by_ := by simp
  rw [e0] at hf
  refine ⟨?_, ?_⟩
  · unfold holdC
    rw [if_pos (show validL m (heldL out a m) = true from heldL_valid h a m), hf, if_pos (show validL m (heldL out b m) = true from heldL_valid h b m)]
  · have e := congrArg List.length (held_more hab hah)
    rw [List.length_append] at e
    have := List.length_filter_le (fun o => gateB o && decide (m ≤ o.2.1)) ((out.drop a).take (b - a))
    omega

/-- An acknowledgement. -/
theorem rel_next {out : List OutT} {n : Nat} (h : Outs out n) (hn : n ≤ 40) {b : Nat} (hb : b ≤ out.length) {m by_ k : Int} (hm : 0 ≤ m) (hby : 0 ≤ by_ ∧ by_ + ((heldL out b m).length : Int) ≤ b) (hk : 0 ≤ k) (hah : ∀ o ∈ out.drop b, m ≤ o.2.1) (hak : ∀ o ∈ out.drop b, k ≤ o.2.1) :
    ∃ by2, (relC (heldL out b m, m, by_) k).1 = (heldL out b (max m k), max m k, by2) ∧ (0 ≤ by2 ∧ by2 + ((heldL out b (max m k)).length : Int) ≤ b) ∧
      gated (out.take b) m ++ (relC (heldL out b m, m, by_) k).2.map (·.1) = gated (out.take b) (max m k) ∧ (relC (heldL out b m, m, by_) k).2.length ≤ 40 := by
  have hlen := h.len
  have hhl := heldL_len out b m
  by_cases c : k ≤ m
  · rw [relC_no _ _ c, show max m k = m by omega]
    refine ⟨by_, rfl, hby, ?_, by simp⟩
    simp
  · have hmk : max m k = k := by omega
    rw [hmk, relC_eq (heldL out b m, m, by_) k (heldL_valid h b m) (by simp only; omega) hby.1 (by simp only; omega)]
    dsimp only
    have hO := heldL_ord h.ord b m
    have hsp := tw_dw k (heldL out b m)
    have htl : (tw k (heldL out b m)).length + (dw k (heldL out b m)).length = (heldL out b m).length := by
      have := congrArg List.length hsp
      rw [List.length_append] at this
      exact this
    have hd : dw k (heldL out b m) = heldL out b k := by
      rw [dw_filter _ _ hO]
      exact held_split (ord_take h.ord b) (by omega)
    have hmap : ∀ (t : List OutT) (z : Int), (relL z t).map (·.1) = t := by
      intro t
      induction t with
      | nil => intro z; rfl
      | cons x t ih =>
        intro z
        unfold relL
        by_cases c : x.1 = 1
        · rw [if_pos c, List.map_cons, ih]
        · rw [if_neg c, List.map_cons, ih]
    have hrl : ∀ (t : List OutT) (z : Int), (relL z t).length = t.length := fun t z => by
      have := congrArg List.length (hmap t z)
      rw [List.length_map] at this
      exact this
    have hn1 := n1_le (tw k (heldL out b m))
    refine ⟨_, by rw [hd], ⟨by omega, ?_⟩, ?_, by rw [hrl]; omega⟩
    · rw [← hd]; omega
    · rw [hmap, tw_filter _ _ hO, got_split (ord_take h.ord b) (show m ≤ k by omega)]
      rfl

theorem waits_loop {out : List OutT} {n : Nat} (h : Outs out n) (hn : n ≤ 40) (parts acks : List Int) (hp : parts.length ≤ 20) (hq : acks.length ≤ 20) (hu : ∀ k ∈ acks, 0 ≤ k) : loop (Y := (Unit) ⊕ (Bool)) (fun (x1 : ((List (Int × Int × Int × ByteArray)) × Int × Int) × (List (Int × Int × Int × ByteArray)) × Int × Int × Int) =>
          bif decide (x1.2.2.2.2 ≤ (parts.length : Int)) then
            (bif decide (x1.2.2.2.2 < (parts.length : Int)) then
              if 0 ≤ x1.2.2.2.2 ∧ x1.2.2.2.2 < (parts.length : Int) then
                (vmfleetmake_Round.f (nth (0 : Int) parts x1.2.2.2.2) (9 : Int)).bind fun r5 =>
                some (.inl (min (out.length : Int) (IntKind.wrap .i64 (x1.2.2.1 + r5))))
              else none
            else
              some (.inl (out.length : Int)) : Option ((Int) ⊕ ((((List (Int × Int × Int × ByteArray)) × Int × Int) × (List (Int × Int × Int × ByteArray)) × Int × Int × Int) ⊕ ((Unit) ⊕ (Bool))))).bind fun o => match o with
            | .inl y2 =>
              if 0 ≤ x1.2.2.1 ∧ x1.2.2.1 ≤ y2 ∧ y2 ≤ (out.length : Int) then
                (commit_Hold.f x1.1 (slc out x1.2.2.1 y2)).bind fun r6 =>
                bif !r6.2 then
                  some (.inr (.inr false))
                else
                  (bif decide (x1.2.2.2.2 < (acks.length : Int)) then
                    (bif decide (y2 < (out.length : Int)) then
                      if 0 ≤ y2 ∧ y2 < (out.length : Int) then
                        some (.inl (((nth ((0 : Int), (0 : Int), (0 : Int), (⟨#[]⟩ : ByteArray)) out y2).2).1))
                      else none
                    else
                      some (.inl (1152921504606846976 : Int)) : Option ((Int) ⊕ ((((List (Int × Int × Int × ByteArray)) × Int × Int) × (List (Int × Int × Int × ByteArray)) × Int) ⊕ ((((List (Int × Int × Int × ByteArray)) × Int × Int) × (List (Int × Int × Int × ByteArray)) × Int × Int × Int) ⊕ ((Unit) ⊕ (Bool)))))).bind fun o => match o with
                    | .inl y3 =>
                      if 0 ≤ x1.2.2.2.2 ∧ x1.2.2.2.2 < (acks.length : Int) then
                        (commit_Release.f r6.1 (min (nth (0 : Int) acks x1.2.2.2.2) y3)).bind fun r7 =>
                        (vmfleetlaw25_plain.f r7.2).bind fun r8 =>
                        if (x1.2.1.length + r8.length) * 40 ≤ 70368744177664 then
                          some (.inl (r7.1, x1.2.1 ++ r8, (max x1.2.2.2.1 (min (nth (0 : Int) acks x1.2.2.2.2) y3))))
                        else none
                      else none
                    | .inr r => some r
                  else
                    some (.inl (r6.1, x1.2.1, x1.2.2.2.1)) : Option ((((List (Int × Int × Int × ByteArray)) × Int × Int) × (List (Int × Int × Int × ByteArray)) × Int) ⊕ ((((List (Int × Int × Int × ByteArray)) × Int × Int) × (List (Int × Int × Int × ByteArray)) × Int × Int × Int) ⊕ ((Unit) ⊕ (Bool))))).bind fun o => match o with
                  | .inl y4 =>
                    if 0 ≤ y2 ∧ y2 ≤ (out.length : Int) then
                      (vmfleetlaw25_gated.f (slc out (0 : Int) y2) y4.2.2).bind fun r9 =>
                      (vmfleetref24_SameOutputs.f y4.2.1 r9).bind fun r10 =>
                      bif !r10 then
                        some (.inr (.inr false))
                      else
                        some (.inl (y4.1, y4.2.1, y2, y4.2.2, IntKind.wrap .i64 (x1.2.2.2.2 + 1)))
                    else none
                  | .inr r => some r
              else none
            | .inr r => some r
          else
            some (.inr (.inl ()))) (([], (0 : Int), (0 : Int)), [], (0 : Int), (0 : Int), (0 : Int)) = some (.inl ()) := by
  have hlen := h.len
  have key := loop_ind (step := (fun (x1 : ((List (Int × Int × Int × ByteArray)) × Int × Int) × (List (Int × Int × Int × ByteArray)) × Int × Int × Int) =>
          bif decide (x1.2.2.2.2 ≤ (parts.length : Int)) then
            (bif decide (x1.2.2.2.2 < (parts.length : Int)) then
              if 0 ≤ x1.2.2.2.2 ∧ x1.2.2.2.2 < (parts.length : Int) then
                (vmfleetmake_Round.f (nth (0 : Int) parts x1.2.2.2.2) (9 : Int)).bind fun r5 =>
                some (.inl (min (out.length : Int) (IntKind.wrap .i64 (x1.2.2.1 + r5))))
              else none
            else
              some (.inl (out.length : Int)) : Option ((Int) ⊕ ((((List (Int × Int × Int × ByteArray)) × Int × Int) × (List (Int × Int × Int × ByteArray)) × Int × Int × Int) ⊕ ((Unit) ⊕ (Bool))))).bind fun o => match o with
            | .inl y2 =>
              if 0 ≤ x1.2.2.1 ∧ x1.2.2.1 ≤ y2 ∧ y2 ≤ (out.length : Int) then
                (commit_Hold.f x1.1 (slc out x1.2.2.1 y2)).bind fun r6 =>
                bif !r6.2 then
                  some (.inr (.inr false))
                else
                  (bif decide (x1.2.2.2.2 < (acks.length : Int)) then
                    (bif decide (y2 < (out.length : Int)) then
                      if 0 ≤ y2 ∧ y2 < (out.length : Int) then
                        some (.inl (((nth ((0 : Int), (0 : Int), (0 : Int), (⟨#[]⟩ : ByteArray)) out y2).2).1))
                      else none
                    else
                      some (.inl (1152921504606846976 : Int)) : Option ((Int) ⊕ ((((List (Int × Int × Int × ByteArray)) × Int × Int) × (List (Int × Int × Int × ByteArray)) × Int) ⊕ ((((List (Int × Int × Int × ByteArray)) × Int × Int) × (List (Int × Int × Int × ByteArray)) × Int × Int × Int) ⊕ ((Unit) ⊕ (Bool)))))).bind fun o => match o with
                    | .inl y3 =>
                      if 0 ≤ x1.2.2.2.2 ∧ x1.2.2.2.2 < (acks.length : Int) then
                        (commit_Release.f r6.1 (min (nth (0 : Int) acks x1.2.2.2.2) y3)).bind fun r7 =>
                        (vmfleetlaw25_plain.f r7.2).bind fun r8 =>
                        if (x1.2.1.length + r8.length) * 40 ≤ 70368744177664 then
                          some (.inl (r7.1, x1.2.1 ++ r8, (max x1.2.2.2.1 (min (nth (0 : Int) acks x1.2.2.2.2) y3))))
                        else none
                      else none
                    | .inr r => some r
                  else
                    some (.inl (r6.1, x1.2.1, x1.2.2.2.1)) : Option ((((List (Int × Int × Int × ByteArray)) × Int × Int) × (List (Int × Int × Int × ByteArray)) × Int) ⊕ ((((List (Int × Int × Int × ByteArray)) × Int × Int) × (List (Int × Int × Int × ByteArray)) × Int × Int × Int) ⊕ ((Unit) ⊕ (Bool))))).bind fun o => match o with
                  | .inl y4 =>
                    if 0 ≤ y2 ∧ y2 ≤ (out.length : Int) then
                      (vmfleetlaw25_gated.f (slc out (0 : Int) y2) y4.2.2).bind fun r9 =>
                      (vmfleetref24_SameOutputs.f y4.2.1 r9).bind fun r10 =>
                      bif !r10 then
                        some (.inr (.inr false))
                      else
                        some (.inl (y4.1, y4.2.1, y2, y4.2.2, IntKind.wrap .i64 (x1.2.2.2.2 + 1)))
                    else none
                  | .inr r => some r
              else none
            | .inr r => some r
          else
            some (.inr (.inl ())))) (I := fun x : Gate × List OutT × Int × Int × Int => (∃ a, InvW out x a) ∧ 0 ≤ x.2.2.2.2 ∧ x.2.2.2.2 ≤ (parts.length : Int) + 1) (Q := fun y : (Unit) ⊕ (Bool) => y = .inl ()) (fun x => ((parts.length : Int) + 1 - x.2.2.2.2).toNat)
    (x := (([], (0 : Int), (0 : Int)), [], (0 : Int), (0 : Int), (0 : Int))) ⟨⟨0, rfl, Nat.zero_le _, rfl, Int.le_refl 0, by simp [heldL], by simp, by simp [gated], fun o ho => by have := h.at1 o (List.mem_of_mem_drop ho); simp only; omega⟩, Int.le_refl 0, by simp only; omega⟩ ?h
  · obtain ⟨y, h1, rfl⟩ := key
    exact h1
  case h =>
    rintro ⟨⟨hd, ac, by_⟩, got, at_, most, i⟩ ⟨⟨a, ⟨v1, v2, v3, v4, v5, v6, v7, v8⟩⟩, i1, i2⟩
    dsimp only at v1 v2 v3 v4 v5 v6 v7 v8 i1 i2 ⊢
    subst v1 v3 v5 v7
    by_cases hi : i ≤ (parts.length : Int)
    · left
      rw [decide_eq_true hi, cond_true]
      have wi : IntKind.wrap .i64 (i + 1) = i + 1 := wrap_i64 (by omega) (by omega)
      have hhl := heldL_len out a ac
      -- how far
      have hto : ∃ b : Nat, a ≤ b ∧ b ≤ out.length ∧ (bif decide (i < (parts.length : Int)) then
              if 0 ≤ i ∧ i < (parts.length : Int) then
                (vmfleetmake_Round.f (nth (0 : Int) parts i) (9 : Int)).bind fun r5 =>
                some (.inl (min (out.length : Int) (IntKind.wrap .i64 ((a : Int) + r5))))
              else none
            else
              some (.inl (out.length : Int)) : Option ((Int) ⊕ ((((List (Int × Int × Int × ByteArray)) × Int × Int) × (List (Int × Int × Int × ByteArray)) × Int × Int × Int) ⊕ ((Unit) ⊕ (Bool))))) = some (.inl (b : Int)) := by
        by_cases c : i < (parts.length : Int)
        · obtain ⟨r, er, q1, q2⟩ := round_ok (nth (0 : Int) parts i) 9 (by decide) (by decide)
          obtain ⟨t, rfl⟩ := Int.eq_ofNat_of_zero_le q1
          rw [decide_eq_true c, cond_true, if_pos ⟨i1, c⟩, er, Option.bind_some, wrap_i64 (by omega) (by omega)]
          refine ⟨min out.length (a + t), by omega, by omega, ?_⟩
          rw [show min (out.length : Int) ((a : Int) + (t : Int)) = ((min out.length (a + t) : Nat) : Int) by omega]
        · rw [decide_eq_false c, cond_false]
          exact ⟨out.length, v2, Nat.le_refl _, rfl⟩
      obtain ⟨b, hab, hb, eto⟩ := hto
      rw [eto, Option.bind_some]
      dsimp only
      obtain ⟨hh1, hh2⟩ := hold_next h hn hab hb v6 v8
      rw [if_pos (by omega), slc_mid, hold_eq _ _ (by simp only; omega) (by rw [List.length_take, List.length_drop]; omega), Option.bind_some, hh1]
      dsimp only
      rw [Bool.not_true, cond_false]
      have hahb : ∀ o ∈ out.drop b, ac ≤ o.2.1 := fun o ho => v8 o (by
        have : out.drop b = (out.drop a).drop (b - a) := by rw [List.drop_drop]; congr 1; omega
        rw [this] at ho
        exact List.mem_of_mem_drop ho)
      have hgm := gated_more hab v8
      -- the rest of a round, with what has been acknowledged
      have rest : ∀ (g : Gate) (got' : List OutT) (m' : Int), g.2.1 = m' → 0 ≤ m' → g.1 = heldL out b m' → (0 ≤ g.2.2 ∧ g.2.2 + (g.1.length : Int) ≤ b) → got' = gated (out.take b) m' → (∀ o ∈ out.drop b, m' ≤ o.2.1) →
          ∃ x', (if 0 ≤ (b : Int) ∧ (b : Int) ≤ (out.length : Int) then
                      (vmfleetlaw25_gated.f (slc out (0 : Int) (b : Int)) m').bind fun r9 =>
                      (vmfleetref24_SameOutputs.f got' r9).bind fun r10 =>
                      bif !r10 then
                        some (.inr (.inr false))
                      else
                        some (.inl (g, got', (b : Int), m', i + 1))
                    else none : Option ((((List (Int × Int × Int × ByteArray)) × Int × Int) × (List (Int × Int × Int × ByteArray)) × Int × Int × Int) ⊕ ((Unit) ⊕ (Bool)))) = some (.inl x') ∧
            ((∃ a, InvW out x' a) ∧ 0 ≤ x'.2.2.2.2 ∧ x'.2.2.2.2 ≤ (parts.length : Int) + 1) ∧ ((parts.length : Int) + 1 - x'.2.2.2.2).toNat < ((parts.length : Int) + 1 - i).toNat := by
        intro g got' m' g1 g2 g3 g4 g5 g6
        have hl9 : (gated (out.take b) m').length ≤ 40 := by
          unfold gated
          exact Nat.le_trans (List.length_filter_le _ _) (by rw [List.length_take]; omega)
        rw [if_pos (by omega), slc_take, gated_eq _ _ (by rw [List.length_take]; omega), Option.bind_some, g5, same25 _ (by omega), Option.bind_some, Bool.not_true, cond_false]
        exact ⟨_, rfl, ⟨⟨b, rfl, hb, g1, g2, g3, g4, rfl, g6⟩, by simp only; omega, by simp only; omega⟩, by simp only; omega⟩
      by_cases ca : i < (acks.length : Int)
      · obtain ⟨t, rfl⟩ := Int.eq_ofNat_of_zero_le i1
        have ct : t < acks.length := by omega
        have hna : nth (0 : Int) acks (t : Int) = acks[t] := nth_some (List.getElem?_eq_getElem ct)
        have hk0 : 0 ≤ acks[t] := hu _ (List.getElem_mem ct)
        rw [decide_eq_true ca, cond_true]
        -- done
        have hdone : ∃ d : Int, 0 ≤ d ∧ (∀ o ∈ out.drop b, d ≤ o.2.1) ∧ (bif decide ((b : Int) < (out.length : Int)) then
                      if 0 ≤ (b : Int) ∧ (b : Int) < (out.length : Int) then
                        some (.inl (((nth ((0 : Int), (0 : Int), (0 : Int), (⟨#[]⟩ : ByteArray)) out (b : Int)).2).1))
                      else none
                    else
                      some (.inl (1152921504606846976 : Int)) : Option ((Int) ⊕ ((((List (Int × Int × Int × ByteArray)) × Int × Int) × (List (Int × Int × Int × ByteArray)) × Int) ⊕ ((((List (Int × Int × Int × ByteArray)) × Int × Int) × (List (Int × Int × Int × ByteArray)) × Int × Int × Int) ⊕ ((Unit) ⊕ (Bool)))))) = some (.inl d) := by
          by_cases cb : b < out.length
          · have hnb : nth ((0 : Int), (0 : Int), (0 : Int), (⟨#[]⟩ : ByteArray)) out (b : Int) = out[b] := nth_some (List.getElem?_eq_getElem cb)
            rw [decide_eq_true (show (b : Int) < (out.length : Int) by omega), cond_true, if_pos (by omega), hnb]
            have := h.at1 out[b] (List.getElem_mem cb)
            refine ⟨_, by omega, fun o ho => ?_, rfl⟩
            rw [List.drop_eq_getElem_cons cb] at ho
            rcases List.mem_cons.1 ho with rfl | ho
            · exact Int.le_refl _
            · have hp := h.ord
              unfold Ordered at hp
              have hp2 : (out.drop b).Pairwise fun a b => a.2.1 ≤ b.2.1 := List.Pairwise.sublist (List.drop_sublist _ _) hp
              rw [List.drop_eq_getElem_cons cb] at hp2
              exact (List.pairwise_cons.1 hp2).1 o ho
          · rw [decide_eq_false (show ¬ (b : Int) < (out.length : Int) by omega), cond_false]
            refine ⟨_, by decide, fun o ho => ?_, rfl⟩
            rw [List.drop_eq_nil_of_le (by omega)] at ho
            cases ho
        obtain ⟨d, hd0, hd1, ed⟩ := hdone
        rw [ed, Option.bind_some]
        dsimp only
        rw [if_pos (by omega), hna, rel_eq _ _ (by have := heldL_len out b ac; simp only; omega), Option.bind_some]
        obtain ⟨by2, r1, r2, r3, r4⟩ := rel_next h hn hb v4 ⟨v6.1, hh2⟩ (k := min acks[t] d) (by omega) hahb (fun o ho => by have := hd1 o ho; omega)
        rw [hgm] at r3
        have hgl : (gated (out.take a) ac).length ≤ 40 := by
          unfold gated
          exact Nat.le_trans (List.length_filter_le _ _) (by rw [List.length_take]; omega)
        rw [plain_eq _ (by omega), Option.bind_some, if_pos (by rw [List.length_map]; omega), r3, r1, Option.bind_some]
        dsimp only
        rw [wi]
        refine rest _ _ _ rfl (by omega) rfl r2 rfl (fun o ho => ?_)
        have h1 := hahb o ho
        have h2 := hd1 o ho
        omega
      · rw [decide_eq_false ca, cond_false, Option.bind_some]
        dsimp only
        rw [wi]
        exact rest _ _ _ rfl v4 rfl ⟨v6.1, hh2⟩ hgm.symm hahb
    · right
      rw [decide_eq_false hi]
      exact ⟨_, rfl, rfl⟩

theorem commitWaits (l parts acks : List Int) (hu : ∀ k ∈ acks, 0 ≤ k) : vmfleetlaw25_CommitWaits.f l parts acks = some true := by
  unfold vmfleetlaw25_CommitWaits.f
  rw [vmfleetlaw25_awake.ok]
  by_cases c1 : (l.length : Int) > 40
  · rw [decide_eq_true c1]; rfl
  by_cases c2 : (parts.length : Int) > 20
  · rw [decide_eq_false c1, decide_eq_true c2]; rfl
  by_cases c3 : (acks.length : Int) > 20
  · rw [decide_eq_false c1, decide_eq_false c2, decide_eq_true c3]; rfl
  rw [decide_eq_false c1, decide_eq_false c2, decide_eq_false c3, cond_false, cond_false, cond_false]
  obtain ⟨out, e, h⟩ := outs_ok l (by omega)
  rw [e, Option.bind_some]
  exact bind25 (waits_loop h (by omega) parts acks (by omega) (by omega) hu) rfl

theorem vmfleetlaw25_CommitWaits.pure (x : (tup vmfleetlaw25_CommitWaits.sp.args).den) (h : WfL vmfleetlaw25_CommitWaits.sp.args x) : vmfleetlaw25_CommitWaits.sp.f x = some true :=
  commitWaits x.1 x.2.1 x.2.2 (fun k hk => (h.2.2.2 k hk).1)

end Go.Proofs.Ytapngmfecjhlfaa.Fn
