/- The gate's functions (chapter 25), in plain Lean: what each computes. -/
import Derived.Test.YtapngmfecjhlfaaFns
import Derived.Test.YtapngmfecjhlfaaLPure
set_option linter.unusedVariables false
set_option linter.unusedSimpArgs false
namespace Go.Proofs.Ytapngmfecjhlfaa.Fn
open Go Lift

abbrev OutT := Int × Int × Int × ByteArray
abbrev Gate := List OutT × Int × Int
abbrev RelT := OutT × Int

theorem bind25 {α β : Type} {o : Option α} {a : α} {K : α → Option β} {r : Option β} (h : o = some a) (hk : K a = r) : o.bind K = r := by rw [h]; exact hk

theorem foldE_foldl {S α Z : Type} (f : S → α → S) (fin : S → Z) : ∀ (l : List α) (s : S), foldE (fun s x => .inl (f s x)) fin s l = fin (l.foldl f s)
  | [], _ => rfl
  | x :: l, s => foldE_foldl f fin l (f s x)

theorem eta4 (x : OutT) : (x.1, x.2.1, x.2.2) = x := rfl

/-! ### Outputs, gates -/
def okO (o : OutT) : Bool := if o.1 = 1 then decide (o.2.2.2.size = 1) && decide (o.2.2.1 = 0) else if o.1 = 2 then decide (o.2.2.2.size ≤ 128) && decide (o.2.2.1 = 0) else false

theorem okO_eq (o : OutT) : commit_holdable.f o = some (okO o) := by
  unfold commit_holdable.f okO
  by_cases c1 : o.1 = 1
  · rw [decide_eq_true c1, cond_true, if_pos c1]
    by_cases c2 : o.2.2.2.size = 1
    · have c2' : (o.2.2.2.size : Int) = 1 := by omega
      rw [decide_eq_true c2', decide_eq_true c2]; rfl
    · have c2' : ¬ (o.2.2.2.size : Int) = 1 := by omega
      rw [decide_eq_false c2', decide_eq_false c2]; rfl
  · rw [decide_eq_false c1, cond_false, if_neg c1]
    by_cases c3 : o.1 = 2
    · rw [decide_eq_true c3, cond_true, if_pos c3]
      by_cases c2 : o.2.2.2.size ≤ 128
      · have c2' : (o.2.2.2.size : Int) ≤ 128 := by omega
        rw [decide_eq_true c2', decide_eq_true c2]; rfl
      · have c2' : ¬ (o.2.2.2.size : Int) ≤ 128 := by omega
        rw [decide_eq_false c2', decide_eq_false c2]; rfl
    · rw [decide_eq_false c3, if_neg c3]; rfl

def validL : Int → List OutT → Bool
  | _, [] => true
  | a, o :: l => okO o && (decide (a ≤ o.2.1) && validL o.2.1 l)

theorem foldE_valid : ∀ (l : List OutT) (a : Int), foldE (S := Int) (Z := Unit ⊕ Bool) (fun s x => if okO x = true then (if x.2.1 < s then .inr (.inr false) else .inl x.2.1) else .inr (.inr false)) (fun _ => .inl ()) a l = if validL a l = true then .inl () else .inr false
  | [], _ => rfl
  | x :: l, a => by
    simp only [foldE, validL]
    by_cases ho : okO x = true
    · by_cases c : x.2.1 < a
      · have c' : ¬ a ≤ x.2.1 := by omega
        simp [ho, c, c']
      · have c' : a ≤ x.2.1 := by omega
        simp only [ho, if_true, c, if_false, c', decide_true, Bool.true_and]
        exact foldE_valid l x.2.1
    · simp [ho]

theorem valid25_eq (g : Gate) (h : g.1.length ≤ 1000000) : commit_Valid.f g = some (validL g.2.1 g.1) := by
  unfold commit_Valid.f
  refine bind25 (a := if validL g.2.1 g.1 = true then .inl () else .inr false) ?_ ?_
  · rw [← foldE_valid]
    refine loop_list (fun (s : Int) i => (s, i)) g.1 _ _ g.2.1 (fun _ _ => True) trivial (fun i x s hx _ => ⟨?_, fun _ _ => trivial⟩) (fun s _ => ?_)
    · have hi := idx_lt hx
      have h2 : 0 ≤ (i : Int) ∧ (i : Int) < g.1.length := ⟨by omega, hi⟩
      dsimp only
      rw [decide_eq_true hi, cond_true, if_pos h2, nth_some hx, eta4, okO_eq, Option.bind_some]
      cases okO x with
      | false => rfl
      | true =>
        by_cases c : x.2.1 < s
        · rw [decide_eq_true c, if_pos rfl, if_pos c]; rfl
        · rw [decide_eq_false c, if_pos rfl, if_neg c, wrap_i64 (by omega) (by omega)]; rfl
    · have : ¬ ((g.1.length : Int) < g.1.length) := by omega
      dsimp only
      rw [decide_eq_false this]; rfl
  · cases validL g.2.1 g.1 <;> rfl

theorem clone25_eq (s : List OutT) (h : s.length ≤ 1000000) : slices_Clone_api_Output_api_Output.f s = some s := by
  unfold slices_Clone_api_Output_api_Output.f
  have h1 : (([] : List OutT).length + s.length) * 40 ≤ 70368744177664 := by simp; omega
  rw [if_pos h1, List.nil_append]
  cases s with
  | nil => simp [both]
  | cons x l => simp

theorem gate_eq (g : Gate) (h : g.1.length ≤ 1000000) : copies_Gate.f g = some g := by
  unfold copies_Gate.f
  rw [clone25_eq _ h]; rfl

def gateB (o : OutT) : Bool := decide (o.1 = 1) || decide (o.1 = 2)
def holdStep (g : Gate) (o : OutT) : Gate := if gateB o = true then (if o.2.1 ≥ g.2.1 then (g.1 ++ [o], g.2) else if o.1 = 1 then (g.1, g.2.1, IntKind.wrap .u64 (g.2.2 + 1)) else g) else g

theorem holdStep_len (g : Gate) (o : OutT) : (holdStep g o).1.length ≤ g.1.length + 1 := by
  unfold holdStep
  by_cases c1 : gateB o = true
  · rw [if_pos c1]
    by_cases c2 : o.2.1 ≥ g.2.1
    · rw [if_pos c2]; simp
    · rw [if_neg c2]
      by_cases c3 : o.1 = 1
      · rw [if_pos c3]; simp
      · rw [if_neg c3]; omega
  · rw [if_neg c1]; omega

theorem hold_loop (g : Gate) (l : List OutT) (hg : g.1.length ≤ 1000) (hl : l.length ≤ 1000) : loop (Y := ((List (Int × Int × Int × ByteArray)) × Int × Int) ⊕ (((List (Int × Int × Int × ByteArray)) × Int × Int) × Bool)) (fun (x1 : ((List (Int × Int × Int × ByteArray)) × Int × Int) × Int) =>
      bif decide (x1.2 < (l.length : Int)) then
        if 0 ≤ x1.2 ∧ x1.2 < (l.length : Int) then
          (bif !decide (((nth ((0 : Int), (0 : Int), (0 : Int), (⟨#[]⟩ : ByteArray)) l x1.2).1) = 1) then
            some (.inl (!decide (((nth ((0 : Int), (0 : Int), (0 : Int), (⟨#[]⟩ : ByteArray)) l x1.2).1) = 2)))
          else
            some (.inl false) : Option ((Bool) ⊕ ((((List (Int × Int × Int × ByteArray)) × Int × Int) × Int) ⊕ (((List (Int × Int × Int × ByteArray)) × Int × Int) ⊕ (((List (Int × Int × Int × ByteArray)) × Int × Int) × Bool))))).bind fun o => match o with
          | .inl y2 =>
            bif y2 then
              some (.inl (x1.1, IntKind.wrap .i64 (x1.2 + 1)))
            else
              bif decide ((((nth ((0 : Int), (0 : Int), (0 : Int), (⟨#[]⟩ : ByteArray)) l x1.2).2).1) ≥ x1.1.2.1) then
                if (x1.1.1.length + ([((nth ((0 : Int), (0 : Int), (0 : Int), (⟨#[]⟩ : ByteArray)) l x1.2).1, ((nth ((0 : Int), (0 : Int), (0 : Int), (⟨#[]⟩ : ByteArray)) l x1.2).2).1, (((nth ((0 : Int), (0 : Int), (0 : Int), (⟨#[]⟩ : ByteArray)) l x1.2).2).2))] : List (Int × Int × Int × ByteArray)).length) * 40 ≤ 70368744177664 then
                  some (.inl (((x1.1.1 ++ ([((nth ((0 : Int), (0 : Int), (0 : Int), (⟨#[]⟩ : ByteArray)) l x1.2).1, ((nth ((0 : Int), (0 : Int), (0 : Int), (⟨#[]⟩ : ByteArray)) l x1.2).2).1, (((nth ((0 : Int), (0 : Int), (0 : Int), (⟨#[]⟩ : ByteArray)) l x1.2).2).2))] : List (Int × Int × Int × ByteArray))), x1.1.2), IntKind.wrap .i64 (x1.2 + 1)))
                else none
              else
                bif decide (((nth ((0 : Int), (0 : Int), (0 : Int), (⟨#[]⟩ : ByteArray)) l x1.2).1) = 1) then
                  some (.inl ((x1.1.1, x1.1.2.1, IntKind.wrap .u64 (x1.1.2.2 + 1)), IntKind.wrap .i64 (x1.2 + 1)))
                else
                  some (.inl (x1.1, IntKind.wrap .i64 (x1.2 + 1)))
          | .inr r => some r
        else none
      else
        some (.inr (.inl x1.1))) (g, (0 : Int)) = some (.inl (l.foldl holdStep g)) := by
  rw [← foldE_foldl holdStep (fun s => (Sum.inl s : Gate ⊕ (Gate × Bool)))]
  refine loop_list (fun (s : Gate) i => (s, i)) l _ _ g (fun s i => s.1.length ≤ 1000 + i) (by omega) (fun i x s hx hI => ⟨?_, fun s' hs => ?_⟩) (fun s _ => ?_)
  · have hi := idx_lt hx
    have h2 : 0 ≤ (i : Int) ∧ (i : Int) < l.length := ⟨by omega, hi⟩
    have hcap : (s.1.length + ([x] : List OutT).length) * 40 ≤ 70368744177664 := by simp; omega
    have hw : IntKind.wrap .i64 ((i : Int) + 1) = (i : Int) + 1 := wrap_i64 (by omega) (by omega)
    dsimp only
    rw [decide_eq_true hi, cond_true, if_pos h2, nth_some hx, eta4, hw]
    unfold holdStep gateB
    by_cases c1 : x.1 = 1
    · rw [decide_eq_true c1, Bool.not_true, cond_false, Option.bind_some]
      dsimp only
      rw [cond_false, Bool.true_or, if_pos rfl]
      by_cases c2 : x.2.1 ≥ s.2.1
      · rw [decide_eq_true c2, cond_true, if_pos hcap, if_pos c2]
      · rw [decide_eq_false c2, cond_false, cond_true, if_neg c2, if_pos c1]
    · rw [decide_eq_false c1, Bool.not_false, cond_true, Option.bind_some]
      dsimp only
      rw [cond_false, Bool.false_or]
      by_cases c3 : x.1 = 2
      · rw [decide_eq_true c3, Bool.not_true, cond_false, if_pos rfl]
        by_cases c2 : x.2.1 ≥ s.2.1
        · rw [decide_eq_true c2, cond_true, if_pos hcap, if_pos c2]
        · rw [decide_eq_false c2, cond_false, if_neg c2, if_neg c1]
      · rw [decide_eq_false c3, Bool.not_false, cond_true, if_neg (fun hh => by cases hh)]
  · cases hs
    have := holdStep_len s x
    omega
  · have : ¬ ((l.length : Int) < l.length) := by omega
    try dsimp only
    rw [decide_eq_false this]; rfl

def holdC (g : Gate) (l : List OutT) : Gate × Bool := if validL g.2.1 g.1 = true then (if validL (l.foldl holdStep g).2.1 (l.foldl holdStep g).1 = true then (l.foldl holdStep g, true) else (g, false)) else (g, false)

theorem fold_len : ∀ (l : List OutT) (g : Gate), (l.foldl holdStep g).1.length ≤ g.1.length + l.length
  | [], g => by simp
  | x :: l, g => by
    have h1 := fold_len l (holdStep g x)
    have h2 := holdStep_len g x
    simp only [List.foldl_cons, List.length_cons]
    omega

theorem hold_eq (g : Gate) (l : List OutT) (hg : g.1.length ≤ 1000) (hl : l.length ≤ 1000) : commit_Hold.f g l = some (holdC g l) := by
  unfold commit_Hold.f holdC
  rw [gate_eq g (by omega), Option.bind_some, valid25_eq g (by omega), Option.bind_some]
  cases hv : validL g.2.1 g.1 with
  | false => rfl
  | true =>
    rw [Bool.not_true, cond_false, gate_eq g (by omega), Option.bind_some, if_pos rfl]
    refine bind25 (hold_loop g l hg hl) ?_
    have h1 := fold_len l g
    generalize l.foldl holdStep g = n at h1 ⊢
    dsimp only
    rw [valid25_eq n (by omega), Option.bind_some]
    cases validL n.2.1 n.1 <;> rfl

/-! ### Release -/
def relStep (s : Gate × List RelT) (o : OutT) : Gate × List RelT := if o.1 = 1 then ((s.1.1, s.1.2.1, IntKind.wrap .u64 (s.1.2.2 + 1)), s.2 ++ [(o, s.1.2.2)]) else (s.1, s.2 ++ [(o, 0)])

def tw (m : Int) (l : List OutT) : List OutT := l.takeWhile fun o => decide (o.2.1 < m)
def dw (m : Int) (l : List OutT) : List OutT := l.dropWhile fun o => decide (o.2.1 < m)

theorem tw_dw (m : Int) (l : List OutT) : tw m l ++ dw m l = l := List.takeWhile_append_dropWhile

theorem foldE_first (m : Int) {Z : Type} : ∀ (l : List OutT) (k : Nat), foldE (S := Nat) (Z := Unit ⊕ (Int ⊕ Z)) (fun s x => if x.2.1 ≥ m then .inr (.inr (.inl (s : Int))) else .inl (s + 1)) (fun _ => .inl ()) k l = if dw m l = [] then .inl () else .inr (.inl ((k + (tw m l).length : Nat) : Int))
  | [], _ => rfl
  | x :: l, k => by
    simp only [foldE]
    by_cases c : x.2.1 ≥ m
    · have c' : ¬ x.2.1 < m := by omega
      rw [if_pos c]
      simp [dw, tw, c']
    · have c' : x.2.1 < m := by omega
      rw [if_neg c]
      simp only
      rw [foldE_first m l (k + 1)]
      have e1 : dw m (x :: l) = dw m l := by simp [dw, c']
      have e2 : (tw m (x :: l)).length = (tw m l).length + 1 := by simp [tw, c']
      rw [e1, e2, show k + 1 + (tw m l).length = k + ((tw m l).length + 1) by omega]

theorem first_loop (l : List OutT) (m : Int) (hl : l.length ≤ 1000) {Z : Type} : loop (Y := Unit ⊕ (Int ⊕ Z)) (fun (x1 : Int) =>
        bif decide (x1 < (l.length : Int)) then
          if 0 ≤ x1 ∧ x1 < (l.length : Int) then
            bif decide ((((nth ((0 : Int), (0 : Int), (0 : Int), (⟨#[]⟩ : ByteArray)) l x1).2).1) ≥ m) then
              some (.inr (.inr (.inl x1)))
            else
              some (.inl (IntKind.wrap .i64 (x1 + 1)))
          else none
        else
          some (.inr (.inl ()))) (0 : Int) = some (if dw m l = [] then .inl () else .inr (.inl (((tw m l).length : Nat) : Int))) := by
  have h0 := foldE_first (Z := Z) m l 0
  rw [Nat.zero_add] at h0
  rw [← h0]
  refine loop_list (fun (s : Nat) i => i) l _ _ (0 : Nat) (fun s i => s = i) rfl (fun i x s hx hI => ⟨?_, fun s' hs => ?_⟩) (fun s _ => ?_)
  · subst hI
    have hi := idx_lt hx
    have h2 : 0 ≤ (s : Int) ∧ (s : Int) < l.length := ⟨by omega, hi⟩
    try dsimp only
    rw [decide_eq_true hi, cond_true, if_pos h2, nth_some hx]
    by_cases c : x.2.1 ≥ m
    · rw [decide_eq_true c, if_pos c]; rfl
    · rw [decide_eq_false c, if_neg c, wrap_i64 (by omega) (by omega)]; rfl
  · subst hI
    by_cases c : x.2.1 ≥ m
    · rw [if_pos c] at hs; cases hs
    · rw [if_neg c] at hs; cases hs; rfl
  · have : ¬ ((l.length : Int) < l.length) := by omega
    try dsimp only
    rw [decide_eq_false this]; rfl

theorem relStep_len (s : Gate × List RelT) (o : OutT) : (relStep s o).2.length = s.2.length + 1 := by
  unfold relStep
  by_cases c : o.1 = 1
  · rw [if_pos c]; simp
  · rw [if_neg c]; simp

theorem rel_loop (g : Gate) (t : List OutT) (y : Int) (hy : y = t.length) (hl : t.length ≤ 1000) : loop (Y := (((List (Int × Int × Int × ByteArray)) × Int × Int) × List ((Int × Int × Int × ByteArray) × Int)) ⊕ (((List (Int × Int × Int × ByteArray)) × Int × Int) × List ((Int × Int × Int × ByteArray) × Int))) (fun (x5 : ((List (Int × Int × Int × ByteArray)) × Int × Int) × (List ((Int × Int × Int × ByteArray) × Int)) × (List (Int × Int × Int × ByteArray)) × Int) =>
              bif decide (x5.2.2.2 < (y - (0 : Int))) then
                if 0 ≤ x5.2.2.2 ∧ x5.2.2.2 < (x5.2.2.1.length : Int) then
                  (bif decide (((nth ((0 : Int), (0 : Int), (0 : Int), (⟨#[]⟩ : ByteArray)) x5.2.2.1 x5.2.2.2).1) = 1) then
                    some (.inl ((x5.1.1, x5.1.2.1, IntKind.wrap .u64 (x5.1.2.2 + 1)), ((nth ((0 : Int), (0 : Int), (0 : Int), (⟨#[]⟩ : ByteArray)) x5.2.2.1 x5.2.2.2).1, ((nth ((0 : Int), (0 : Int), (0 : Int), (⟨#[]⟩ : ByteArray)) x5.2.2.1 x5.2.2.2).2).1, (((nth ((0 : Int), (0 : Int), (0 : Int), (⟨#[]⟩ : ByteArray)) x5.2.2.1 x5.2.2.2).2).2)), x5.1.2.2))
                  else
                    some (.inl (x5.1, ((nth ((0 : Int), (0 : Int), (0 : Int), (⟨#[]⟩ : ByteArray)) x5.2.2.1 x5.2.2.2).1, ((nth ((0 : Int), (0 : Int), (0 : Int), (⟨#[]⟩ : ByteArray)) x5.2.2.1 x5.2.2.2).2).1, (((nth ((0 : Int), (0 : Int), (0 : Int), (⟨#[]⟩ : ByteArray)) x5.2.2.1 x5.2.2.2).2).2)), (0 : Int))) : Option ((((List (Int × Int × Int × ByteArray)) × Int × Int) × (Int × Int × Int × ByteArray) × Int) ⊕ ((((List (Int × Int × Int × ByteArray)) × Int × Int) × (List ((Int × Int × Int × ByteArray) × Int)) × (List (Int × Int × Int × ByteArray)) × Int) ⊕ ((((List (Int × Int × Int × ByteArray)) × Int × Int) × List ((Int × Int × Int × ByteArray) × Int)) ⊕ (((List (Int × Int × Int × ByteArray)) × Int × Int) × List ((Int × Int × Int × ByteArray) × Int)))))).bind fun o => match o with
                  | .inl y6 =>
                    if (x5.2.1.length + ([y6.2] : List ((Int × Int × Int × ByteArray) × Int)).length) * 48 ≤ 70368744177664 then
                      some (.inl (y6.1, (x5.2.1 ++ ([y6.2] : List ((Int × Int × Int × ByteArray) × Int))), x5.2.2.1, IntKind.wrap .i64 (x5.2.2.2 + 1)))
                    else none
                  | .inr r => some r
                else none
              else
                some (.inr (.inl (x5.1, x5.2.1)))) (g, [], t, (0 : Int)) = some (.inl (t.foldl relStep (g, []))) := by
  rw [← foldE_foldl relStep (fun s => (Sum.inl s : (Gate × List RelT) ⊕ (Gate × List RelT)))]
  subst hy
  refine loop_list (fun (s : Gate × List RelT) i => (s.1, s.2, t, i)) t _ _ (g, []) (fun s i => s.2.length = i) rfl (fun i x s hx hI => ⟨?_, fun s' hs => ?_⟩) (fun s _ => ?_)
  · have hi := idx_lt hx
    have h2 : 0 ≤ (i : Int) ∧ (i : Int) < t.length := ⟨by omega, hi⟩
    have h3 : (i : Int) < (t.length : Int) - 0 := by omega
    have hw : IntKind.wrap .i64 ((i : Int) + 1) = (i : Int) + 1 := wrap_i64 (by omega) (by omega)
    have hcap : ∀ z : RelT, (s.2.length + ([z] : List RelT).length) * 48 ≤ 70368744177664 := fun z => by simp; omega
    dsimp only
    rw [decide_eq_true h3, cond_true, if_pos h2, nth_some hx, eta4, hw]
    unfold relStep
    by_cases c : x.1 = 1
    · rw [decide_eq_true c, cond_true, Option.bind_some]
      dsimp only
      rw [if_pos (hcap _), if_pos c]
    · rw [decide_eq_false c, cond_false, Option.bind_some]
      dsimp only
      rw [if_pos (hcap _), if_neg c]
  · cases hs
    rw [relStep_len, hI]
  · have : ¬ ((t.length : Int) < (t.length : Int) - 0) := by omega
    try dsimp only
    rw [decide_eq_false this]; rfl

theorem relStep_held : ∀ (t : List OutT) (s : Gate × List RelT), (t.foldl relStep s).1.1 = s.1.1 ∧ (t.foldl relStep s).1.2.1 = s.1.2.1
  | [], s => ⟨rfl, rfl⟩
  | x :: t, s => by
    have h := relStep_held t (relStep s x)
    simp only [List.foldl_cons]
    rw [h.1, h.2]
    unfold relStep
    by_cases c : x.1 = 1
    · rw [if_pos c]; exact ⟨rfl, rfl⟩
    · rw [if_neg c]; exact ⟨rfl, rfl⟩

def relC (g : Gate) (m : Int) : Gate × List RelT :=
  if validL g.2.1 g.1 = true ∧ g.2.1 < m then ((dw m g.1, m, ((tw m g.1).foldl relStep ((g.1, m, g.2.2), [])).1.2.2), ((tw m g.1).foldl relStep ((g.1, m, g.2.2), [])).2) else (g, [])

theorem rel_eq (g : Gate) (m : Int) (hg : g.1.length ≤ 1000) : commit_Release.f g m = some (relC g m) := by
  unfold commit_Release.f relC
  rw [gate_eq g (by omega), Option.bind_some, valid25_eq g (by omega), Option.bind_some]
  cases hv : validL g.2.1 g.1 with
  | false => rw [if_neg (fun hh => by cases hh.1)]; rfl
  | true =>
    rw [Bool.not_true, cond_false]
    by_cases c : m ≤ g.2.1
    · rw [decide_eq_true c, cond_true, if_neg (fun hh => by omega)]
    rw [decide_eq_false c, cond_false, if_pos ⟨rfl, by omega⟩]
    have hsp := tw_dw m g.1
    have hlen : (tw m g.1).length + (dw m g.1).length = g.1.length := by
      have := congrArg List.length hsp
      rw [List.length_append] at this
      exact this
    refine bind25 (a := Sum.inl (if dw m g.1 = [] then (-1 : Int) else ((tw m g.1).length : Int))) (bind25 (first_loop g.1 m hg) ?_) ?_
    · by_cases hd : dw m g.1 = []
      · rw [if_pos hd, if_pos hd]
      · rw [if_neg hd, if_neg hd]
    dsimp only
    refine bind25 (a := Sum.inl ((tw m g.1).length : Int)) ?_ ?_
    · by_cases hd : dw m g.1 = []
      · rw [if_pos hd]
        rw [hd] at hlen
        have : (-1 : Int) < 0 := by decide
        rw [decide_eq_true this, cond_true]
        simp at hlen
        rw [hlen]
      · rw [if_neg hd]
        have : ¬ ((tw m g.1).length : Int) < 0 := by omega
        rw [decide_eq_false this, cond_false]
    dsimp only
    rw [if_pos (by omega)]
    have hs : slc g.1 (0 : Int) ((tw m g.1).length : Int) = tw m g.1 := by
      rw [slc_take]
      have := @List.take_left _ (tw m g.1) (dw m g.1)
      rw [hsp] at this
      exact this
    rw [hs]
    refine bind25 (rel_loop (g.1, m, g.2.2) (tw m g.1) _ rfl (by omega)) ?_
    have hh := relStep_held (tw m g.1) ((g.1, m, g.2.2), [])
    generalize (tw m g.1).foldl relStep ((g.1, m, g.2.2), []) = z at hh ⊢
    obtain ⟨⟨z1, z2, z3⟩, z4⟩ := z
    obtain ⟨h1, h2⟩ := hh
    dsimp only at h1 h2 ⊢
    rw [h1, h2, if_pos (by omega)]
    have hs2 : slc g.1 ((tw m g.1).length : Int) (g.1.length : Int) = dw m g.1 := by
      rw [slc_drop]
      have := @List.drop_left _ (tw m g.1) (dw m g.1)
      rw [hsp] at this
      exact this
    rw [hs2, clone25_eq _ (by omega)]
    rfl

/-! ### The same, in words without wrapping -/
def is1 (o : OutT) : Bool := decide (o.1 = 1)
def n1 (l : List OutT) : Nat := (l.filter is1).length
def relL : Int → List OutT → List RelT
  | _, [] => []
  | b, o :: l => if o.1 = 1 then (o, b) :: relL (b + 1) l else (o, 0) :: relL b l

theorem n1_cons (o : OutT) (l : List OutT) : n1 (o :: l) = (if o.1 = 1 then 1 else 0) + n1 l := by
  unfold n1 is1
  by_cases c : o.1 = 1
  · rw [List.filter_cons_of_pos (by simpa using c), if_pos c, List.length_cons]; omega
  · rw [List.filter_cons_of_neg (by simpa using c), if_neg c]; omega

theorem n1_append (l k : List OutT) : n1 (l ++ k) = n1 l + n1 k := by unfold n1; rw [List.filter_append, List.length_append]
theorem n1_le (l : List OutT) : n1 l ≤ l.length := List.length_filter_le _ _

theorem relL_spec : ∀ (t : List OutT) (h : List OutT) (m b : Int) (out : List RelT), 0 ≤ b → b + t.length ≤ 1000000000 → t.foldl relStep ((h, m, b), out) = ((h, m, b + n1 t), out ++ relL b t)
  | [], h, m, b, out, _, _ => by simp [relL, n1]
  | x :: t, h, m, b, out, hb, hl => by
    simp only [List.length_cons] at hl
    simp only [List.foldl_cons, relL]
    rw [n1_cons]
    unfold relStep
    by_cases c : x.1 = 1
    · rw [if_pos c, if_pos c, if_pos c]
      dsimp only
      rw [wrap_u64 (by omega) (by omega)]
      have := relL_spec t h m (b + 1) (out ++ [(x, b)]) (by omega) (by omega)
      unfold relStep at this
      rw [this]
      simp only [List.append_assoc, List.cons_append, List.nil_append]
      rw [show b + ((1 + n1 t : Nat) : Int) = b + 1 + (n1 t : Int) by omega]
    · rw [if_neg c, if_neg c, if_neg c]
      have := relL_spec t h m b (out ++ [(x, 0)]) hb (by omega)
      unfold relStep at this
      dsimp only
      rw [this]
      simp only [List.append_assoc, List.cons_append, List.nil_append, Nat.zero_add]

theorem relC_eq (g : Gate) (m : Int) (hv : validL g.2.1 g.1 = true) (hm : g.2.1 < m) (hb : 0 ≤ g.2.2) (hl : g.2.2 + g.1.length ≤ 1000000000) : relC g m = ((dw m g.1, m, g.2.2 + n1 (tw m g.1)), relL g.2.2 (tw m g.1)) := by
  unfold relC
  have h2 : (tw m g.1).length ≤ g.1.length := by
    have := congrArg List.length (tw_dw m g.1)
    rw [List.length_append] at this
    omega
  rw [if_pos ⟨hv, hm⟩, relL_spec _ _ _ _ _ hb (by omega)]
  rfl

theorem relC_no (g : Gate) (m : Int) (hm : m ≤ g.2.1) : relC g m = (g, []) := by
  unfold relC
  rw [if_neg (fun hh => by omega)]

/-! ### In order -/
def Ordered (l : List OutT) : Prop := l.Pairwise fun a b => a.2.1 ≤ b.2.1

theorem valid_of : ∀ (l : List OutT) (a : Int), Ordered l → (∀ o ∈ l, okO o = true) → (∀ o ∈ l, a ≤ o.2.1) → validL a l = true
  | [], _, _, _, _ => rfl
  | x :: l, a, h, ho, ha => by
    simp only [validL, ho x (by simp), Bool.true_and]
    have h' := List.pairwise_cons.1 h
    rw [decide_eq_true (ha x (by simp)), Bool.true_and]
    exact valid_of l _ h'.2 (fun o hm => ho o (by simp [hm])) (fun o hm => h'.1 o hm)

theorem tw_filter : ∀ (l : List OutT) (m : Int), Ordered l → tw m l = l.filter (fun o => decide (o.2.1 < m))
  | [], _, _ => rfl
  | x :: l, m, h => by
    have h' := List.pairwise_cons.1 h
    unfold tw
    by_cases c : x.2.1 < m
    · rw [List.takeWhile_cons_of_pos (by simpa using c), List.filter_cons_of_pos (by simpa using c)]
      congr 1
      exact tw_filter l m h'.2
    · rw [List.takeWhile_cons_of_neg (by simpa using c), List.filter_cons_of_neg (by simpa using c)]
      symm
      rw [List.filter_eq_nil_iff]
      intro o ho
      have := h'.1 o ho
      simp; omega

theorem dw_filter : ∀ (l : List OutT) (m : Int), Ordered l → dw m l = l.filter (fun o => decide (m ≤ o.2.1))
  | [], _, _ => rfl
  | x :: l, m, h => by
    have h' := List.pairwise_cons.1 h
    unfold dw
    by_cases c : x.2.1 < m
    · rw [List.dropWhile_cons_of_pos (by simpa using c), List.filter_cons_of_neg (by simp; omega)]
      exact dw_filter l m h'.2
    · rw [List.dropWhile_cons_of_neg (by simpa using c)]
      symm
      rw [List.filter_eq_self]
      intro o ho
      rcases List.mem_cons.1 ho with rfl | ho
      · simp; omega
      · have := h'.1 o ho
        simp; omega

/-- Holding. -/
theorem holdFold : ∀ (l : List OutT) (h : List OutT) (a b : Int), 0 ≤ b → b + l.length ≤ 1000000000 → l.foldl holdStep (h, a, b) = (h ++ l.filter (fun o => gateB o && decide (a ≤ o.2.1)), a, b + ((l.filter (fun o => is1 o && decide (o.2.1 < a))).length : Nat))
  | [], h, a, b, _, _ => by simp
  | x :: l, h, a, b, hb, hl => by
    simp only [List.length_cons] at hl
    simp only [List.foldl_cons]
    unfold holdStep
    by_cases c1 : gateB x = true
    · rw [if_pos c1]
      dsimp only
      by_cases c2 : x.2.1 ≥ a
      · have c2' : ¬ x.2.1 < a := by omega
        rw [if_pos c2, List.filter_cons_of_pos (by simp only [c1, Bool.true_and]; simp; omega), List.filter_cons_of_neg (by simp [c2'])]
        have := holdFold l (h ++ [x]) a b hb (by omega)
        unfold holdStep at this
        rw [this]
        simp
      · have c2' : x.2.1 < a := by omega
        rw [if_neg c2, List.filter_cons_of_neg (by simp; omega)]
        by_cases c3 : x.1 = 1
        · rw [if_pos c3, List.filter_cons_of_pos (by simp [is1, c3, c2'])]
          rw [wrap_u64 (by omega) (by omega)]
          have := holdFold l h a (b + 1) (by omega) (by omega)
          unfold holdStep at this
          rw [this, List.length_cons]
          congr 2
          omega
        · rw [if_neg c3, List.filter_cons_of_neg (by simp [is1, c3])]
          have := holdFold l h a b hb (by omega)
          unfold holdStep at this
          exact this
    · have c3 : ¬ x.1 = 1 := fun hh => c1 (by simp [gateB, hh])
      rw [if_neg c1, List.filter_cons_of_neg (by simp [c1]), List.filter_cons_of_neg (by simp [is1, c3])]
      have := holdFold l h a b hb (by omega)
      unfold holdStep at this
      exact this

/-! ### The law's own functions -/
theorem plain_eq (l : List RelT) (hl : l.length ≤ 1000) : vmfleetlaw25_plain.f l = some (l.map (·.1)) := by
  unfold vmfleetlaw25_plain.f
  refine bind25 (a := Sum.inl (l.map (·.1))) ?_ rfl
  have e : l.map (·.1) = l.foldl (fun s x => s ++ [x.1]) [] := by
    have : ∀ (l : List RelT) (s : List OutT), l.foldl (fun s x => s ++ [x.1]) s = s ++ l.map (·.1) := by
      intro l
      induction l with
      | nil => intro s; simp
      | cons x l ih => intro s; simp only [List.foldl_cons]; rw [ih]; simp
    rw [this, List.nil_append]
  rw [e, ← foldE_foldl (fun s (x : RelT) => s ++ [x.1]) (fun s => (Sum.inl s : List OutT ⊕ List OutT))]
  refine loop_list (fun (s : List OutT) i => (s, i)) l _ _ [] (fun s i => s.length = i) rfl (fun i x s hx hI => ⟨?_, fun s' hs => ?_⟩) (fun s _ => ?_)
  · have hi := idx_lt hx
    have h2 : 0 ≤ (i : Int) ∧ (i : Int) < l.length := ⟨by omega, hi⟩
    dsimp only
    rw [decide_eq_true hi, cond_true, if_pos h2, nth_some hx, eta4, if_pos (by simp; omega), wrap_i64 (by omega) (by omega)]
  · cases hs; simp [hI]
  · have : ¬ ((l.length : Int) < l.length) := by omega
    try dsimp only
    rw [decide_eq_false this]; rfl

def gated (l : List OutT) (m : Int) : List OutT := l.filter fun o => decide (o.2.1 < m) && gateB o

theorem gated_eq (l : List OutT) (m : Int) (hl : l.length ≤ 1000) : vmfleetlaw25_gated.f l m = some (gated l m) := by
  unfold vmfleetlaw25_gated.f gated
  refine bind25 (a := Sum.inl (l.filter fun o => decide (o.2.1 < m) && gateB o)) ?_ rfl
  have e : (l.filter fun o => decide (o.2.1 < m) && gateB o) = l.foldl (fun s x => if (decide (x.2.1 < m) && gateB x) = true then s ++ [x] else s) [] := by
    have : ∀ (l : List OutT) (s : List OutT), l.foldl (fun s x => if (decide (x.2.1 < m) && gateB x) = true then s ++ [x] else s) s = s ++ (l.filter fun o => decide (o.2.1 < m) && gateB o) := by
      intro l
      induction l with
      | nil => intro s; simp
      | cons x l ih =>
        intro s
        simp only [List.foldl_cons]
        rw [ih]
        by_cases c : (decide (x.2.1 < m) && gateB x) = true
        · rw [if_pos c, List.filter_cons, if_pos c]; simp
        · rw [if_neg c, List.filter_cons, if_neg c]
    rw [this, List.nil_append]
  rw [e, ← foldE_foldl (fun s (x : OutT) => if (decide (x.2.1 < m) && gateB x) = true then s ++ [x] else s) (fun s => (Sum.inl s : List OutT ⊕ List OutT))]
  refine loop_list (fun (s : List OutT) i => (s, i)) l _ _ [] (fun s i => s.length ≤ i) (Nat.le_refl _) (fun i x s hx hI => ⟨?_, fun s' hs => ?_⟩) (fun s _ => ?_)
  · have hi := idx_lt hx
    have h2 : 0 ≤ (i : Int) ∧ (i : Int) < l.length := ⟨by omega, hi⟩
    have hcap : (s.length + ([x] : List OutT).length) * 40 ≤ 70368744177664 := by simp; omega
    have hw : IntKind.wrap .i64 ((i : Int) + 1) = (i : Int) + 1 := wrap_i64 (by omega) (by omega)
    dsimp only
    rw [decide_eq_true hi, cond_true, nth_some hx, eta4, hw]
    simp only [if_pos h2, if_pos hcap]
    unfold gateB
    cases decide (x.2.1 < m) with
    | false => simp
    | true =>
      cases decide (x.1 = 1) with
      | true => simp
      | false => cases decide (x.1 = 2) <;> simp
  · cases hs
    by_cases c : (decide (x.2.1 < m) && gateB x) = true
    · rw [if_pos c, List.length_append, List.length_singleton]; omega
    · rw [if_neg c]; omega
  · have : ¬ ((l.length : Int) < l.length) := by omega
    try dsimp only
    rw [decide_eq_false this]; rfl

theorem same25 (a : List OutT) (hl : a.length ≤ 1000) : vmfleetref24_SameOutputs.f a a = some true := by
  unfold vmfleetref24_SameOutputs.f
  rw [decide_eq_true rfl, Bool.not_true, cond_false]
  refine bind25 (a := Sum.inl ()) ?_ rfl
  have := loop_all (Z := Unit ⊕ Bool) a (fun _ => true) (.inr false) (.inl ()) (step := (fun (x1 : Int) =>
      bif decide (x1 < (a.length : Int)) then
        if 0 ≤ x1 ∧ x1 < (a.length : Int) then
          if 0 ≤ x1 ∧ x1 < (a.length : Int) then
            bif (!decide (((nth ((0 : Int), (0 : Int), (0 : Int), (⟨#[]⟩ : ByteArray)) a x1).1, ((nth ((0 : Int), (0 : Int), (0 : Int), (⟨#[]⟩ : ByteArray)) a x1).2).1, (((nth ((0 : Int), (0 : Int), (0 : Int), (⟨#[]⟩ : ByteArray)) a x1).2).2)) = ((nth ((0 : Int), (0 : Int), (0 : Int), (⟨#[]⟩ : ByteArray)) a x1).1, ((nth ((0 : Int), (0 : Int), (0 : Int), (⟨#[]⟩ : ByteArray)) a x1).2).1, (((nth ((0 : Int), (0 : Int), (0 : Int), (⟨#[]⟩ : ByteArray)) a x1).2).2)))) then
              some (.inr (.inr false))
            else
              some (.inl (IntKind.wrap .i64 (x1 + 1)))
          else none
        else none
      else
        some (.inr (.inl ())))) ?h1 ?h2
  · rw [this]; simp
  case h1 =>
    intro i x hx
    have hi := idx_lt hx
    have hb : 0 ≤ (i : Int) ∧ (i : Int) < a.length := ⟨by omega, hi⟩
    simp only [hi, decide_true, cond_true, hb, and_self, if_true, Bool.not_true, cond_false]
    rw [wrap_i64 (n := (i : Int) + 1) (by omega) (by omega)]
  case h2 =>
    have : ¬ ((a.length : Int) < a.length) := by omega
    try dsimp only
    rw [decide_eq_false this]; rfl

end Go.Proofs.Ytapngmfecjhlfaa.Fn
