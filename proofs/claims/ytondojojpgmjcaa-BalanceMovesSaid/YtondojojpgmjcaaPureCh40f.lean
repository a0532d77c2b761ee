/- Balance (chapter 40), in plain Lean: the law's own check of a placement; what an assignment is. -/
import Derived.Test.YtondojojpgmjcaaPureBalanceMade
set_option linter.unusedVariables false
set_option linter.unusedSimpArgs false
namespace Go.Proofs.Ytondojojpgmjcaa.Fn
open Go Lift

theorem lv_fold {Z : Type} (n : Nat) (h : Int) (bad : Z) (fin : List Dem → Z) : ∀ (l : List Dem) (on : List Int) (acc : List Dem), l.length = on.length →
    foldE (fun acc (p : Dem × Int) => if 0 ≤ p.2 ∧ p.2 < (n : Int) then .inl (acc ++ (if p.2 = h then [p.1] else [])) else .inr bad) fin acc (l.zip on) = if inB n on = true then fin (acc ++ GU l on h) else bad
  | [], [], acc, _ => by simp [foldE, inB, GU]
  | d :: l, x :: on, acc, e => by
    simp only [List.zip_cons_cons, foldE, inB, List.all_cons, GU]
    by_cases c : 0 ≤ x ∧ x < (n : Int)
    · rw [if_pos c]
      have := lv_fold n h bad fin l on (acc ++ (if x = h then [d] else [])) (by simpa using e)
      simp only [inB] at this
      simp only [this, c.1, c.2, decide_true, Bool.true_and, List.append_assoc]
    · rw [if_neg c]
      have : (decide (0 ≤ x) && decide (x < (n : Int))) = false := by
        rw [Bool.eq_false_iff]
        intro h
        simp only [Bool.and_eq_true, decide_eq_true_eq] at h
        exact c h
      simp [this]

theorem lv_eq (hosts : List Cap) (l : List Dem) (on : List Int) (h1 : 1 ≤ hosts.length) (h2 : hosts.length ≤ 6) (h3 : l.length ≤ 16) : vmfleetlaw40_valid.f hosts l on = some (vB hosts l on) := by
  unfold vmfleetlaw40_valid.f vB
  by_cases h4 : on.length = l.length
  · have e4 : (on.length : Int) = l.length := by omega
    have d4 : decide (on.length = l.length) = true := decide_eq_true h4
    have d4' : decide ((on.length : Int) = l.length) = true := decide_eq_true e4
    simp only [h1, h2, h3, d4, d4', decide_true, Bool.not_true, cond_false, Bool.true_and]
    have inner : ∀ (x1 : Int) (Z : Type) (step : List Dem × Int → Option ((List Dem × Int) ⊕ (List Dem ⊕ (Int ⊕ (Z ⊕ Bool))))), (step = fun x2 =>
          bif decide (x2.2 < (l.length : Int)) then
            if 0 ≤ x2.2 ∧ x2.2 < (on.length : Int) then
              bif decide ((nth (0 : Int) on x2.2) < 0) then
                some (.inr (.inr (.inr (.inr false))))
              else
                if 0 ≤ x2.2 ∧ x2.2 < (on.length : Int) then
                  bif (decide ((nth (0 : Int) on x2.2) ≥ (hosts.length : Int))) then
                    some (.inr (.inr (.inr (.inr false))))
                  else
                    if 0 ≤ x2.2 ∧ x2.2 < (on.length : Int) then
                      bif decide ((nth (0 : Int) on x2.2) = x1) then
                        if 0 ≤ x2.2 ∧ x2.2 < (l.length : Int) then
                          if (x2.1.length + ([((nth ((0 : Int), (0 : Int), (0 : Int), (0 : Int)) l x2.2).1, ((nth ((0 : Int), (0 : Int), (0 : Int), (0 : Int)) l x2.2).2).1, (((nth ((0 : Int), (0 : Int), (0 : Int), (0 : Int)) l x2.2).2).2))] : List (Int × Int × Int × Int)).length) * 32 ≤ 70368744177664 then
                            some (.inl ((x2.1 ++ ([((nth ((0 : Int), (0 : Int), (0 : Int), (0 : Int)) l x2.2).1, ((nth ((0 : Int), (0 : Int), (0 : Int), (0 : Int)) l x2.2).2).1, (((nth ((0 : Int), (0 : Int), (0 : Int), (0 : Int)) l x2.2).2).2))] : List (Int × Int × Int × Int))), IntKind.wrap .i64 (x2.2 + 1)))
                          else none
                        else none
                      else
                        some (.inl (x2.1, IntKind.wrap .i64 (x2.2 + 1)))
                    else none
                else none
            else none
          else
            some (.inr (.inl x2.1))) → loop step ([], (0 : Int)) = some (if inB hosts.length on = true then .inl (GU l on x1) else .inr (.inr (.inr false))) := by
      intro x1 Z step hs
      subst hs
      have hz : (l.zip on).length = l.length := by simp; omega
      have := lv_fold (Z := List Dem ⊕ (Int ⊕ (Z ⊕ Bool))) hosts.length x1 (.inr (.inr (.inr false))) (fun s => .inl s) l on [] (by omega)
      rw [List.nil_append] at this
      rw [← this]
      refine loop_list (fun (s : List Dem) i => (s, i)) (l.zip on) _ (fun s => Sum.inl s) [] (fun s i => s.length ≤ i) (Nat.le_refl _) (fun i p s hx hI => ⟨?_, fun s' hs' => ?_⟩) (fun s _ => ?_)
      · obtain ⟨d, x⟩ := p
        rw [List.getElem?_zip_eq_some] at hx
        have hi := idx_lt hx.1
        have hb : 0 ≤ (i : Int) ∧ (i : Int) < l.length := ⟨by omega, hi⟩
        have hb' : 0 ≤ (i : Int) ∧ (i : Int) < on.length := ⟨by omega, by omega⟩
        simp only [hi, decide_true, cond_true, hb, hb', and_self, if_true, nth_some hx.1, nth_some hx.2]
        rw [wrap_i64 (n := (i : Int) + 1) (by omega) (by omega)]
        by_cases c1 : x < 0
        · rw [if_neg (show ¬ (0 ≤ x ∧ x < (hosts.length : Int)) by omega)]
          simp only [c1, decide_true, cond_true]
        · by_cases c2 : x ≥ (hosts.length : Int)
          · rw [if_neg (show ¬ (0 ≤ x ∧ x < (hosts.length : Int)) by omega)]
            simp only [c1, c2, decide_true, decide_false, cond_true, cond_false]
          · rw [if_pos (show (0 ≤ x ∧ x < (hosts.length : Int)) by omega)]
            simp only [c1, c2, decide_false, cond_false]
            by_cases c3 : x = x1
            · rw [if_pos (show (s.length + ([(d.1, d.2.1, d.2.2)] : List Dem).length) * 32 ≤ 70368744177664 by simp only [List.length_singleton]; omega)]
              simp only [c3, decide_true, cond_true, if_true]
            · simp only [c3, decide_false, cond_false, if_false, List.append_nil]
      · split at hs'
        · cases hs'
          split <;> simp <;> omega
        · cases hs'
      · simp only [hz, Int.lt_irrefl, decide_false, cond_false]
    cases hin : inB hosts.length on with
    | true =>
      rw [Bool.true_and]
      rw [loop_all (List.range hosts.length) (fun h => fitsOf (nth cap0 hosts h) (GU l on h)) (.inr false) (.inl ()) ?h1 ?h2]
      · unfold hfB
        cases (List.range hosts.length).all (fun h => fitsOf (nth cap0 hosts h) (GU l on h)) <;> rfl
      case h1 =>
        intro i x hx
        obtain ⟨hi, rfl⟩ := range_get hx
        have h5 : (x : Int) < hosts.length := by omega
        have h6 : 0 ≤ (x : Int) ∧ (x : Int) < hosts.length := ⟨by omega, h5⟩
        simp only [h5, decide_true, cond_true]
        refine bindE (inner x _ _ rfl) ?_
        rw [hin]
        simp only [if_true, h6, and_self]
        have e : ((nth ((0 : Int), (0 : Int), false) hosts x).1, (nth ((0 : Int), (0 : Int), false) hosts x).2) = nth cap0 hosts x := rfl
        have hg := GU_len l on x
        rw [wrap_i64 (n := (x : Int) + 1) (by omega) (by omega), e, fits_eq _ _ (by omega), Option.bind_some]
        cases fitsOf (nth cap0 hosts x) (GU l on x) <;> rfl
      case h2 => simp
    | false =>
      rw [Bool.false_and]
      refine bindE (x := .inr false) ?_ rfl
      rw [loop_eq]
      have h5 : (0 : Int) < hosts.length := by omega
      have hd : decide ((0 : Int) < hosts.length) = true := decide_eq_true h5
      simp only [hd, cond_true]
      have := inner 0 Unit _ rfl
      rw [hin] at this
      simp only [Bool.false_eq_true, if_false] at this
      rw [this]
      rfl
  · have e4 : ¬ (on.length : Int) = l.length := by omega
    simp [e4, h4]

/-! ### What an assignment is -/
theorem fits_prefix (c : Cap) (a : List Dem) : ∀ b, fitsOf c (a ++ b) = true → fitsOf c a = true := by
  refine snoc_ind (fun h => by rwa [List.append_nil] at h) (fun l x ih h => ?_)
  rw [← List.append_assoc, fitsOf_snoc, Bool.and_eq_true] at h
  exact ih h.1

/-- A placement of the first guests. -/
def PV (hosts : List Cap) (l : List Dem) (on : List Int) : Prop := (∀ x ∈ on, 0 ≤ x ∧ x < hosts.length) ∧ ∀ h : Nat, h < hosts.length → fitsOf (nth cap0 hosts h) (GU (l.take on.length) on h) = true

theorem GU_snoc (l : List Dem) (on : List Int) (d : Dem) (x h : Int) (e : l.length = on.length) : GU (l ++ [d]) (on ++ [x]) h = GU l on h ++ (if x = h then [d] else []) := by
  rw [GU_append _ _ _ _ _ e]
  simp [GU]

theorem PV_snoc {hosts : List Cap} {l : List Dem} {on : List Int} {x : Nat} (hp : PV hosts l on) (hx : x < hosts.length) (hl : on.length < l.length) (ha : admitOf (nth cap0 hosts x) (GU (l.take on.length) on x) (nth dem0 l on.length) = 0) : PV hosts l (on ++ [(x : Int)]) := by
  refine ⟨fun y hy => ?_, fun h hh => ?_⟩
  · rcases List.mem_append.1 hy with hy | hy
    · exact hp.1 y hy
    · rw [List.mem_singleton.1 hy]; omega
  · rw [List.length_append, List.length_singleton, take_snoc hl, GU_snoc _ _ _ _ _ (by simp; omega)]
    by_cases c : (x : Int) = h
    · have c' : x = h := by omega
      subst c'
      rw [if_pos rfl, fitsOf_snoc, hp.2 x hh, Bool.true_and, decide_eq_true_eq]
      rwa [nth_lt hl] at ha
    · rw [if_neg c, List.append_nil]
      exact hp.2 h hh

theorem ext_sound (hosts : List Cap) (l : List Dem) : ∀ (k : Nat) (on : List Int), on.length + k = l.length → PV hosts l on → (extOf hosts l k on).2 = true → PV hosts l (extOf hosts l k on).1 ∧ ∃ r, (extOf hosts l k on).1 = on ++ r ∧ r.length = k
  | 0, on, e, hp, _ => ⟨hp, [], by simp [extOf], rfl⟩
  | k + 1, on, e, hp, h => by
    unfold extOf at h ⊢
    split at h
    · rename_i r hr
      obtain ⟨x, hx, hh⟩ := List.exists_of_findSome?_eq_some hr
      split at hh
      · rename_i ha
        split at hh
        · rename_i h2
          cases hh
          obtain ⟨h3, r, h4, h5⟩ := ext_sound hosts l k (on ++ [(x : Int)]) (by simp; omega) (PV_snoc hp (List.mem_range.1 hx) (by omega) ha) h2
          exact ⟨h3, (x : Int) :: r, by rw [h4]; simp, by simp [h5]⟩
        · cases hh
      · cases hh
    · cases h

theorem ext_fail (hosts : List Cap) (l : List Dem) : ∀ (k : Nat) (on : List Int), (extOf hosts l k on).2 = false → (extOf hosts l k on).1 = []
  | 0, on, h => by cases h
  | k + 1, on, h => by
    unfold extOf at h ⊢
    split at h
    · cases h
    · rfl

def LX : List Int → List Int → Prop
  | a :: x, b :: y => a < b ∨ (a = b ∧ LX x y)
  | _, _ => True

theorem findSome_range {β : Type} (g : Nat → Option β) : ∀ (n x : Nat) (r : β), x < n → g x = some r → ∃ y r, y ≤ x ∧ g y = some r ∧ (List.range n).findSome? g = some r
  | 0, x, r, hx, _ => absurd hx (Nat.not_lt_zero _)
  | n + 1, x, r, hx, h => by
    rw [List.range_succ, List.findSome?_append]
    by_cases c : x < n
    · obtain ⟨y, r', h1, h2, h3⟩ := findSome_range g n x r c h
      exact ⟨y, r', h1, h2, by rw [h3]; rfl⟩
    · have : x = n := by omega
      subst this
      cases hf : (List.range x).findSome? g with
      | some r' =>
        obtain ⟨y, hy, hg⟩ := List.exists_of_findSome?_eq_some hf
        exact ⟨y, r', Nat.le_of_lt (List.mem_range.1 hy), hg, rfl⟩
      | none => exact ⟨x, r, Nat.le_refl _, h, by simp [h]⟩

theorem ext_complete {hosts : List Cap} {l : List Dem} {other : List Int} (hv : vB hosts l other = true) : ∀ (k : Nat) (on : List Int), on.length + k = l.length → on = other.take on.length → PV hosts l on →
    (extOf hosts l k on).2 = true ∧ ∃ r, (extOf hosts l k on).1 = on ++ r ∧ LX r (other.drop on.length)
  | 0, on, e, ho, hp => ⟨rfl, [], by simp [extOf], by simp [LX]⟩
  | k + 1, on, e, ho, hp => by
    obtain ⟨h1, h2, h3, h4, h5, h6⟩ := (vB_iff _ _ _).1 hv
    have hn : on.length < other.length := by omega
    have hn' : on.length < l.length := by omega
    obtain ⟨x, hx⟩ := Int.eq_ofNat_of_zero_le (h5 other[on.length] (List.getElem_mem _)).1
    have hxh : x < hosts.length := by have := (h5 other[on.length] (List.getElem_mem _)).2; omega
    have e1 : on ++ [(x : Int)] = other.take (on.length + 1) := by
      rw [take_snoc hn, ← ho, hx]
    have ha : admitOf (nth cap0 hosts x) (GU (l.take on.length) on x) (nth dem0 l on.length) = 0 := by
      have hf := h6 x hxh
      rw [← List.take_append_drop (on.length + 1) l, ← List.take_append_drop (on.length + 1) other, GU_append _ _ _ _ _ (by simp; omega)] at hf
      have hf := fits_prefix _ _ _ hf
      rw [← e1, take_snoc hn', GU_snoc _ _ _ _ _ (by simp; omega), if_pos rfl, fitsOf_snoc, Bool.and_eq_true, decide_eq_true_eq] at hf
      rw [nth_lt hn']
      exact hf.2
    have hp' := PV_snoc hp hxh hn' ha
    obtain ⟨i1, r0, i2, i3⟩ := ext_complete hv k (on ++ [(x : Int)]) (by simp; omega) (by rw [List.length_append, List.length_singleton]; exact e1) hp'
    obtain ⟨y, r, hy, hg, hf⟩ := findSome_range (fun (h : Nat) => if admitOf (nth cap0 hosts h) (GU (l.take on.length) on h) (nth dem0 l on.length) = 0 then (if (extOf hosts l k (on ++ [(h : Int)])).2 = true then some (extOf hosts l k (on ++ [(h : Int)])).1 else none) else none) hosts.length x (extOf hosts l k (on ++ [(x : Int)])).1 hxh (by rw [if_pos ha, if_pos i1])
    have ee : extOf hosts l (k + 1) on = (r, true) := by
      unfold extOf
      rw [hf]
    rw [ee]
    refine ⟨rfl, ?_⟩
    have hdrop : other.drop on.length = (x : Int) :: other.drop (on.length + 1) := by rw [List.drop_eq_getElem_cons hn, hx]
    rw [hdrop]
    split at hg
    · rename_i hay
      split at hg
      · rename_i hty
        cases hg
        by_cases c : y = x
        · subst c
          refine ⟨(y : Int) :: r0, by rw [i2]; simp, .inr ⟨rfl, ?_⟩⟩
          rw [List.length_append, List.length_singleton] at i3
          exact i3
        · obtain ⟨_, r', h7, _⟩ := ext_sound hosts l k (on ++ [(y : Int)]) (by simp; omega) (PV_snoc hp (by omega) hn' hay) hty
          refine ⟨(y : Int) :: r', by rw [h7]; simp, .inl (by omega)⟩
      · cases hg
    · cases hg

theorem PV_nil (hosts : List Cap) (l : List Dem) : PV hosts l [] := ⟨fun x hx => (by cases hx), fun h hh => (by simp [GU, fitsOf])⟩

theorem assign_sound {hosts : List Cap} {l : List Dem} (h : (assignOf hosts l).2 = true) : vB hosts l (assignOf hosts l).1 = true := by
  unfold assignOf at h ⊢
  split at h
  · rename_i hc
    rw [if_pos hc]
    obtain ⟨hp, r, e, hr⟩ := ext_sound hosts l l.length [] (by simp) (PV_nil _ _) h
    have el : (extOf hosts l l.length []).1.length = l.length := by rw [e]; simp [hr]
    refine (vB_iff _ _ _).2 ⟨hc.1, hc.2.1, by omega, el, hp.1, fun h hh => ?_⟩
    have := hp.2 h hh
    rwa [el, List.take_length] at this
  · cases h

theorem assign_fail {hosts : List Cap} {l : List Dem} (h : (assignOf hosts l).2 = false) : (assignOf hosts l).1 = [] := by
  unfold assignOf at h ⊢
  split at h
  · rename_i hc
    rw [if_pos hc]
    exact ext_fail _ _ _ _ h
  · rename_i hc
    rw [if_neg hc]

theorem assign_complete {hosts : List Cap} {l : List Dem} {other : List Int} (hv : vB hosts l other = true) (hl : l.length ≤ 8) : (assignOf hosts l).2 = true ∧ LX (assignOf hosts l).1 other := by
  obtain ⟨h1, h2, h3, h4, h5, h6⟩ := (vB_iff _ _ _).1 hv
  unfold assignOf
  rw [if_pos ⟨h1, h2, hl⟩]
  obtain ⟨i1, r, i2, i3⟩ := ext_complete hv l.length [] (by simp) (by simp) (PV_nil _ _)
  refine ⟨i1, ?_⟩
  rw [i2]
  simpa using i3

end Go.Proofs.Ytondojojpgmjcaa.Fn
