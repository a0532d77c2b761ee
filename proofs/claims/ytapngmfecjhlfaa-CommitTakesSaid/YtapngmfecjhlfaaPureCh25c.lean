/- Showing released outputs (chapter 25), in plain Lean. -/
import Derived.Test.YtapngmfecjhlfaaPureCh25b
set_option linter.unusedVariables false
set_option linter.unusedSimpArgs false
namespace Go.Proofs.Ytapngmfecjhlfaa.Fn
open Go Lift

abbrev Seen := ByteArray × List ByteArray

theorem cloneS_eq (s : List ByteArray) (h : s.length ≤ 1000000) : slices_Clone_string_string.f s = some s := by
  unfold slices_Clone_string_string.f
  have h1 : (([] : List ByteArray).length + s.length) * 16 ≤ 70368744177664 := by simp; omega
  rw [if_pos h1, List.nil_append]
  cases s with
  | nil => simp [both]
  | cons x l => simp

def showC (o : Seen) (r : RelT) : Seen × Bool :=
  if r.1.1 = 2 then ((o.1, o.2 ++ [r.1.2.2.2]), true)
  else if r.1.1 = 1 then
    (if r.1.2.2.2.size ≠ 1 ∨ r.2 > o.1.size then (o, false)
    else if r.2 < o.1.size then (o, decide (bt o.1 r.2 = bt r.1.2.2.2 0)) else ((o.1 ++ r.1.2.2.2, o.2), true))
  else (o, false)

theorem show_eq (o : Seen) (r : RelT) (h1 : o.1.size ≤ 1000000) (h2 : o.2.length ≤ 1000000) (h3 : 0 ≤ r.2) : commit_Show.f o r = some (showC o r) := by
  unfold commit_Show.f showC
  rw [cloneS_eq _ h2, Option.bind_some, wrap_u64 (by omega) (by omega)]
  by_cases c1 : r.1.1 = 2
  · rw [decide_eq_true c1, cond_true, if_pos (by simp; omega), if_pos c1]
  rw [decide_eq_false c1, cond_false, if_neg c1]
  by_cases c2 : r.1.1 = 1
  · rw [decide_eq_true c2, cond_true, if_pos c2]
    by_cases c3 : r.1.2.2.2.size = 1
    · have c3' : (r.1.2.2.2.size : Int) = 1 := by omega
      rw [decide_eq_true c3', Bool.not_true, cond_false, Option.bind_some]
      dsimp only
      by_cases c4 : r.2 > (o.1.size : Int)
      · rw [decide_eq_true c4, cond_true, if_pos (Or.inr c4)]
      · have hne : ¬ (r.1.2.2.2.size ≠ 1 ∨ r.2 > (o.1.size : Int)) := fun hh => by
          rcases hh with hh | hh
          · exact hh c3
          · exact c4 hh
        rw [decide_eq_false c4, cond_false, if_neg hne]
        by_cases c5 : r.2 < (o.1.size : Int)
        · rw [decide_eq_true c5, cond_true, if_pos ⟨h3, c5⟩, if_pos (by omega), if_pos c5]
        · rw [decide_eq_false c5, cond_false, if_pos (by omega), if_neg c5]
    · have c3' : ¬ (r.1.2.2.2.size : Int) = 1 := by omega
      rw [decide_eq_false c3', Bool.not_false, cond_true, Option.bind_some]
      dsimp only
      rw [cond_true, if_pos (Or.inl c3)]
  · rw [decide_eq_false c2, cond_false, if_neg c2]

theorem showC_size (o : Seen) (r : RelT) : (showC o r).1.1.size ≤ o.1.size + 1 ∧ (showC o r).1.2.length ≤ o.2.length + 1 := by
  unfold showC
  by_cases c1 : r.1.1 = 2
  · rw [if_pos c1]
    simp
  rw [if_neg c1]
  by_cases c2 : r.1.1 = 1
  · rw [if_pos c2]
    by_cases c3 : r.1.2.2.2.size ≠ 1 ∨ r.2 > o.1.size
    · rw [if_pos c3]; simp
    · rw [if_neg c3]
      have c4 : r.1.2.2.2.size = 1 := Classical.byContradiction fun hh => c3 (Or.inl hh)
      by_cases c5 : r.2 < (o.1.size : Int)
      · rw [if_pos c5]; simp
      · rw [if_neg c5]
        dsimp only
        rw [ByteArray.size_append]
        omega
  · rw [if_neg c2]; simp

def showF (s : Seen) (x : RelT) : Seen ⊕ (Seen ⊕ Bool) := if (showC s x).2 = true then .inl (showC s x).1 else .inr (.inr false)

theorem show_loop (R : List RelT) (o : Seen) (h1 : o.1.size ≤ 1000) (h2 : o.2.length ≤ 1000) (hR : R.length ≤ 1000) (hi : ∀ r ∈ R, 0 ≤ r.2) : loop (Y := (ByteArray × List ByteArray) ⊕ (Bool)) (fun (x1 : (ByteArray × List ByteArray) × Int) =>
          bif decide (x1.2 < (R.length : Int)) then
            if 0 ≤ x1.2 ∧ x1.2 < (R.length : Int) then
              (commit_Show.f x1.1 ((((nth (((0 : Int), (0 : Int), (0 : Int), (⟨#[]⟩ : ByteArray)), (0 : Int)) R x1.2).1).1, (((nth (((0 : Int), (0 : Int), (0 : Int), (⟨#[]⟩ : ByteArray)), (0 : Int)) R x1.2).1).2).1, ((((nth (((0 : Int), (0 : Int), (0 : Int), (⟨#[]⟩ : ByteArray)), (0 : Int)) R x1.2).1).2).2)), (nth (((0 : Int), (0 : Int), (0 : Int), (⟨#[]⟩ : ByteArray)), (0 : Int)) R x1.2).2)).bind fun r10 =>
              bif !r10.2 then
                some (.inr (.inr false))
              else
                some (.inl (r10.1, IntKind.wrap .i64 (x1.2 + 1)))
            else none
          else
            some (.inr (.inl x1.1))) (o, (0 : Int)) = some (foldE showF (fun s => .inl s) o R) := by
  refine loop_list (fun (s : Seen) i => (s, i)) R showF (fun s => (Sum.inl s : Seen ⊕ Bool)) o (fun s i => s.1.size ≤ 1000 + i ∧ s.2.length ≤ 1000 + i) ⟨by omega, by omega⟩ (fun i x s hx hI => ⟨?_, fun s' hs => ?_⟩) (fun s _ => ?_)
  · have hj := idx_lt hx
    have h2 : 0 ≤ (i : Int) ∧ (i : Int) < R.length := ⟨by omega, hj⟩
    have hm : x ∈ R := List.mem_of_getElem? hx
    try dsimp only
    rw [decide_eq_true hj, cond_true, if_pos h2, nth_some hx, wrap_i64 (by omega) (by omega)]
    have e : ((((x.1).1, ((x.1).2).1, (((x.1).2).2)), x.2) : RelT) = x := rfl
    rw [e, show_eq s x (by omega) (by omega) (hi x hm), Option.bind_some]
    unfold showF
    cases hc : (showC s x).2 with
    | false => rfl
    | true => rfl
  · unfold showF at hs
    by_cases hc : (showC s x).2 = true
    · rw [if_pos hc] at hs
      cases hs
      have := showC_size s x
      omega
    · rw [if_neg hc] at hs; cases hs
  · have : ¬ ((R.length : Int) < R.length) := by omega
    try dsimp only
    rw [decide_eq_false this]; rfl

/-- The bytes of the first outputs, joined. -/
def cat (l : List OutT) : ByteArray := l.foldl (fun s o => s ++ o.2.2.2) (⟨#[]⟩ : ByteArray)

theorem cat_snoc (l : List OutT) (o : OutT) : cat (l ++ [o]) = cat l ++ o.2.2.2 := by unfold cat; rw [List.foldl_append]; rfl

theorem cat_size : ∀ (l : List OutT), (∀ o ∈ l, o.2.2.2.size = 1) → (cat l).size = l.length := by
  refine snoc_ind (fun _ => rfl) (fun l x ih h => ?_)
  rw [cat_snoc, ByteArray.size_append, ih fun o ho => h o (by simp [ho]), h x (by simp), List.length_append]
  rfl

theorem bt_app (a b : ByteArray) (i : Nat) : bt (a ++ b) (i : Int) = if i < a.size then bt a (i : Int) else bt b ((i - a.size : Nat) : Int) := by
  unfold bt
  rw [Int.toNat_natCast, Int.toNat_natCast, Array.getD_eq_getD_getElem?, ByteArray.data_append, Array.getElem?_append]
  by_cases h : i < a.size
  · rw [if_pos h, if_pos (show i < a.data.size from h), Array.getD_eq_getD_getElem?]
  · rw [if_neg h, if_neg (show ¬ i < a.data.size from h), Array.getD_eq_getD_getElem?]
    rfl

theorem cat_bt : ∀ (l : List OutT), (∀ o ∈ l, o.2.2.2.size = 1) → ∀ (i : Nat) (o : OutT), l[i]? = some o → bt (cat l) (i : Int) = bt o.2.2.2 0 := by
  refine snoc_ind (fun _ i o h => by simp at h) (fun l x ih h i o hi => ?_)
  have h1 : ∀ o ∈ l, o.2.2.2.size = 1 := fun o ho => h o (by simp [ho])
  rw [cat_snoc, bt_app, cat_size l h1]
  by_cases c : i < l.length
  · rw [if_pos c]
    rw [List.getElem?_append_left c] at hi
    exact ih h1 i o hi
  · rw [if_neg c]
    rw [List.getElem?_append_right (by omega)] at hi
    have hz : i - l.length = 0 := by
      cases hj : i - l.length with
      | zero => rfl
      | succ j => rw [hj] at hi; simp at hi
    rw [hz] at hi ⊢
    simp at hi
    subst hi
    rfl

/-- Showing a part of the released outputs: from the b-th byte on. -/
theorem show_part (K : List OutT) (hK : ∀ o ∈ K, o.1 = 1 ∧ o.2.2.2.size = 1) : ∀ (L : List OutT) (b j : Nat) (fr : List ByteArray), (∀ o ∈ L, gateB o = true) → L.filter is1 = (K.drop b).take (n1 L) → b + n1 L ≤ K.length → b ≤ j → j ≤ K.length →
    ∃ fr', foldE showF (fun s => (.inl s : Seen ⊕ Bool)) (cat (K.take j), fr) (relL (b : Int) L) = .inl (cat (K.take (max j (b + n1 L))), fr') ∧ fr'.length ≤ fr.length + L.length
  | [], b, j, fr, _, _, _, hb, _ => by
    refine ⟨fr, ?_, by simp⟩
    have : max j (b + n1 []) = j := by simp [n1]; omega
    rw [this]
    rfl
  | x :: L, b, j, fr, hg, hf, hl, hb, hj => by
    have hK1 : ∀ t, ∀ o ∈ K.take t, o.2.2.2.size = 1 := fun t o ho => (hK o (List.mem_of_mem_take ho)).2
    have hsz : (cat (K.take j)).size = j := by rw [cat_size _ (hK1 j), List.length_take]; omega
    rw [n1_cons] at hf hl ⊢
    unfold relL
    by_cases c : x.1 = 1
    · rw [if_pos c] at hf hl ⊢
      have hx1 : is1 x = true := decide_eq_true c
      rw [List.filter_cons_of_pos hx1] at hf
      have hbK : b < K.length := by omega
      rw [List.drop_eq_getElem_cons hbK, show 1 + n1 L = n1 L + 1 by omega, List.take_succ_cons] at hf
      have hxe : x = K[b] := (List.cons.inj hf).1
      have hfe := (List.cons.inj hf).2
      have hd := (hK K[b] (List.getElem_mem hbK)).2
      rw [← hxe] at hd
      have hc2 : ¬ x.1 = 2 := by omega
      rw [if_pos c]
      have hne : ¬ (x.2.2.2.size ≠ 1 ∨ (b : Int) > ((cat (K.take j)).size : Int)) := by rw [hsz]; omega
      by_cases cj : b < j
      · -- shown already
        have hlt : (b : Int) < ((cat (K.take j)).size : Int) := by rw [hsz]; omega
        have hbt : bt (cat (K.take j)) (b : Int) = bt x.2.2.2 0 := by
          rw [hxe]
          refine cat_bt _ (hK1 j) b _ ?_
          rw [List.getElem?_take, if_pos cj, List.getElem?_eq_getElem hbK]
        have hs : showF (cat (K.take j), fr) (x, (b : Int)) = .inl (cat (K.take j), fr) := by
          unfold showF showC
          dsimp only
          rw [if_neg hc2, if_pos c, if_neg hne, if_pos hlt, decide_eq_true hbt]
          rfl
        simp only [foldE]
        rw [hs]
        obtain ⟨fr', h1, h2⟩ := show_part K hK L (b + 1) j fr (fun o ho => hg o (by simp [ho])) hfe (by omega) (by omega) hj
        refine ⟨fr', ?_, by simp only [List.length_cons]; omega⟩
        have e : ((b + 1 : Nat) : Int) = (b : Int) + 1 := by omega
        rw [e] at h1
        rw [show b + (1 + n1 L) = b + 1 + n1 L by omega]
        exact h1
      · have hbj : b = j := by omega
        subst hbj
        have hlt : ¬ (b : Int) < ((cat (K.take b)).size : Int) := by rw [hsz]; omega
        have hs : showF (cat (K.take b), fr) (x, (b : Int)) = .inl (cat (K.take (b + 1)), fr) := by
          unfold showF showC
          dsimp only
          rw [if_neg hc2, if_pos c, if_neg hne, if_neg hlt]
          rw [List.take_succ_eq_append_getElem hbK, cat_snoc, ← hxe]
          rfl
        simp only [foldE]
        rw [hs]
        obtain ⟨fr', h1, h2⟩ := show_part K hK L (b + 1) (b + 1) fr (fun o ho => hg o (by simp [ho])) hfe (by omega) (by omega) (by omega)
        refine ⟨fr', ?_, by simp only [List.length_cons]; omega⟩
        have e : ((b + 1 : Nat) : Int) = (b : Int) + 1 := by omega
        rw [e] at h1
        rw [show max b (b + (1 + n1 L)) = max (b + 1) (b + 1 + n1 L) by omega]
        exact h1
    · rw [if_neg c] at hf hl ⊢
      have hx1 : ¬ is1 x = true := fun hh => c (of_decide_eq_true hh)
      rw [List.filter_cons_of_neg hx1, Nat.zero_add] at hf
      have hgx := hg x (by simp)
      have hc2 : x.1 = 2 := by
        unfold gateB at hgx
        rw [decide_eq_false c, Bool.false_or] at hgx
        exact of_decide_eq_true hgx
      rw [if_neg c]
      have hs : showF (cat (K.take j), fr) (x, (0 : Int)) = .inl (cat (K.take j), fr ++ [x.2.2.2]) := by
        unfold showF showC
        dsimp only
        rw [if_pos hc2]
        rfl
      simp only [foldE]
      rw [hs]
      obtain ⟨fr', h1, h2⟩ := show_part K hK L b j (fr ++ [x.2.2.2]) (fun o ho => hg o (by simp [ho])) hf (by omega) hb hj
      refine ⟨fr', ?_, by rw [List.length_append] at h2; simp only [List.length_cons, List.length_nil] at h2 ⊢; omega⟩
      rw [Nat.zero_add]
      exact h1

theorem relL_nonneg : ∀ (l : List OutT) (b : Int), 0 ≤ b → ∀ r ∈ relL b l, 0 ≤ r.2
  | [], _, _, r, hr => by cases hr
  | x :: l, b, hb, r, hr => by
    unfold relL at hr
    by_cases c : x.1 = 1
    · rw [if_pos c] at hr
      rcases List.mem_cons.1 hr with rfl | hr
      · exact hb
      · exact relL_nonneg l (b + 1) (by omega) r hr
    · rw [if_neg c] at hr
      rcases List.mem_cons.1 hr with rfl | hr
      · exact Int.le_refl 0
      · exact relL_nonneg l b hb r hr

theorem relL_len : ∀ (l : List OutT) (b : Int), (relL b l).length = l.length
  | [], _ => rfl
  | x :: l, b => by
    unfold relL
    by_cases c : x.1 = 1
    · rw [if_pos c, List.length_cons, relL_len, List.length_cons]
    · rw [if_neg c, List.length_cons, relL_len, List.length_cons]

end Go.Proofs.Ytapngmfecjhlfaa.Fn
