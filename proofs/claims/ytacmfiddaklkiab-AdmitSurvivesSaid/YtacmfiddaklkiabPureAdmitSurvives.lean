/- The law AdmitSurvives, in plain Lean: at every input its function is true. -/
import Derived.Test.YtacmfiddaklkiabPureAdm
set_option linter.unusedVariables false
set_option linter.unusedSimpArgs false
namespace Go.Proofs.Ytacmfiddaklkiab.Fn
open Go Lift

abbrev Cap := Int × Int × Bool
abbrev Plc := ByteArray × Dem × List Int
abbrev cap0 : Cap := ((0 : Int), (0 : Int), false)
abbrev plc0 : Plc := ((⟨#[]⟩ : ByteArray), ((0 : Int), (0 : Int), (0 : Int), (0 : Int)), List.replicate 2 (0 : Int))

theorem bindE {α β : Type} {a : Option α} {x : α} {f : α → Option β} {r : Option β} (h : a = some x) (k : f x = r) : a.bind f = r := by
  rw [h]; exact k

theorem bindI {X Y β : Type} {step : X → Option (X ⊕ Y)} {x : X} {f : Y → Option β} {r : Option β} (I : X → Prop) (Q : Y → Prop) (μ : X → Nat) (h0 : I x)
    (h : ∀ x, I x → (∃ x', step x = some (.inl x') ∧ I x' ∧ μ x' < μ x) ∨ ∃ y, step x = some (.inr y) ∧ Q y) (k : ∀ y, Q y → f y = r) : (loop step x).bind f = r := by
  obtain ⟨y, hy, hq⟩ := loop_ind (I := I) (Q := Q) μ h0 h
  exact bindE hy (k y hq)

theorem take_snoc {α : Type} {l : List α} {i : Nat} (h : i < l.length) : l.take (i + 1) = l.take i ++ [l[i]] := by
  rw [List.take_add_one, List.getElem?_eq_getElem h]; rfl
theorem nth_lt {α : Type} {d : α} {l : List α} {i : Nat} (h : i < l.length) : nth d l i = l[i] := nth_some (List.getElem?_eq_getElem h)
theorem range_get {n i x : Nat} (h : (List.range n)[i]? = some x) : i < n ∧ x = i := by
  obtain ⟨hi, he⟩ := List.getElem?_eq_some_iff.1 h
  simp at hi he
  exact ⟨hi, he.symm⟩

/-- The demands that a guest puts on a host. -/
def onP (h : Int) (p : Plc) : List Dem := (if nth (0 : Int) p.2.2 (0 : Int) = h then [p.2.1] else []) ++ (if nth (0 : Int) p.2.2 (1 : Int) = h then [p.2.1] else [])
def onOf (l : List Plc) (h : Int) : List Dem := l.flatMap (onP h)

theorem onOf_len (h : Int) : ∀ l : List Plc, (onOf l h).length ≤ 2 * l.length
  | [] => by simp [onOf]
  | p :: l => by
    have := onOf_len h l
    simp only [onOf, List.flatMap_cons, List.length_append, List.length_cons] at *
    have : (onP h p).length ≤ 2 := by
      unfold onP
      split <;> split <;> simp
    omega

theorem on_eq (l : List Plc) (h : Int) (hb : l.length ≤ 1000000) : admission_On.f l h = some (onOf l h) := by
  unfold admission_On.f
  refine bindE (loop_at (fun i => (onOf (l.take i) h, (i : Int))) l.length (.inl (onOf l h)) (fun i hi => ?_) ?_) rfl
  · have h1 : (i : Int) < l.length := by omega
    have h2 : 0 ≤ (i : Int) ∧ (i : Int) < l.length := ⟨by omega, h1⟩
    have d1 : decide ((i : Int) < l.length) = true := decide_eq_true h1
    simp only [d1, cond_true, h2, and_self, if_true, nth_lt hi]
    have hl := onOf_len h (l.take i)
    simp only [List.length_take] at hl
    have e : onOf (l.take (i + 1)) h = onOf (l.take i) h ++ onP h l[i] := by
      rw [take_snoc hi]; unfold onOf; rw [List.flatMap_append]; simp only [List.flatMap_cons, List.flatMap_nil, List.append_nil]
    rw [e]
    generalize onOf (l.take i) h = acc at hl
    generalize l[i] = p
    refine bindE (x := .inl (acc ++ onP h p)) ?_ ?_
    · have one : ∀ (acc : List Dem) (j : Int), acc.length ≤ 2000000 → 0 ≤ j → j < 2 → ∀ z, z = (if nth (0 : Int) p.2.2 j = h then [p.2.1] else []) →
          (bif decide (j < 2) then
            if 0 ≤ j ∧ j < (2 : Int) then
              bif decide ((nth (0 : Int) p.2.2 j) = h) then
                if (acc.length + ([(p.2.1.1, p.2.1.2.1, p.2.1.2.2)] : List (Int × Int × Int × Int)).length) * 32 ≤ 70368744177664 then
                  some (.inl ((acc ++ ([(p.2.1.1, p.2.1.2.1, p.2.1.2.2)] : List (Int × Int × Int × Int))), IntKind.wrap .i64 (j + 1)))
                else none
              else
                some (.inl (acc, IntKind.wrap .i64 (j + 1)))
            else none
          else
            some (.inr (.inl acc)) : Option ((List Dem × Int) ⊕ (List Dem ⊕ ((List Dem × Int) ⊕ (List Dem ⊕ List Dem))))) = some (.inl (acc ++ z, j + 1)) := by
        intro acc j ha j0 j1 z hz
        have g : 0 ≤ j ∧ j < (2 : Int) := ⟨j0, j1⟩
        rw [wrap_i64 (n := j + 1) (by omega) (by omega), if_pos g]
        subst hz
        by_cases c : nth (0 : Int) p.2.2 j = h
        · rw [if_pos (show (acc.length + ([(p.2.1.1, p.2.1.2.1, p.2.1.2.2)] : List Dem).length) * 32 ≤ 70368744177664 by simp only [List.length_singleton]; omega)]
          simp only [j1, c, decide_true, cond_true, if_true]
        · simp only [j1, c, decide_true, decide_false, cond_true, cond_false, if_false, List.append_nil]
      rw [loop_eq]
      rw [show (_ : Option _) = _ from one acc 0 (by omega) (by omega) (by omega) _ rfl]
      dsimp only
      rw [loop_eq]
      rw [show (_ : Option _) = _ from one (acc ++ (if nth (0 : Int) p.2.2 0 = h then [p.2.1] else [])) (0 + 1) (by rw [List.length_append]; split <;> simp <;> omega) (by omega) (by omega) _ rfl]
      dsimp only
      rw [loop_eq]
      have : decide ((0 : Int) + 1 + 1 < 2) = false := by decide
      simp only [this, cond_false]
      unfold onP
      rw [List.append_assoc]
      rfl
    · dsimp only
      rw [wrap_i64 (n := (i : Int) + 1) (by omega) (by omega)]
      rfl
  · simp only [Int.lt_irrefl, decide_false, cond_false, List.take_length]

/-- A side may stand there. -/
def sideB (hosts : List Cap) (x : Int) : Bool := decide (0 ≤ x) && (decide (x < (hosts.length : Int)) && (nth cap0 hosts x).2.2)
def goodB (hosts : List Cap) (p : Plc) : Bool := !decide (nth (0 : Int) p.2.2 (0 : Int) = nth (0 : Int) p.2.2 (1 : Int)) && (sideB hosts (nth (0 : Int) p.2.2 (0 : Int)) && sideB hosts (nth (0 : Int) p.2.2 (1 : Int)))
def survB (hosts : List Cap) (l : List Plc) : Bool :=
  decide (1 ≤ hosts.length) && (decide (hosts.length ≤ 6) && (decide (l.length ≤ 8) && (l.all (goodB hosts) && (List.range hosts.length).all fun h => fitsOf (nth cap0 hosts h) (onOf l h))))

theorem surv_eq (hosts : List Cap) (l : List Plc) : admission_Survives.f hosts l = some (survB hosts l) := by
  unfold admission_Survives.f survB
  by_cases h1 : 1 ≤ hosts.length
  · by_cases h2 : hosts.length ≤ 6
    · by_cases h3 : l.length ≤ 8
      · have e1 : ¬ (hosts.length : Int) < 1 := by omega
        have e2 : ¬ (hosts.length : Int) > 6 := by omega
        have e3 : ¬ (l.length : Int) > 8 := by omega
        simp only [e1, e2, e3, h1, h2, h3, decide_true, decide_false, cond_false, Bool.true_and]
        rw [loop_all l (goodB hosts) (.inr false) (.inl ()) ?h1 ?h2]
        · cases l.all (goodB hosts) with
          | false => rfl
          | true =>
            simp only [if_true, Option.bind_some, Bool.true_and]
            rw [loop_all (List.range hosts.length) (fun h => fitsOf (nth cap0 hosts h) (onOf l h)) (.inr false) (.inl ()) ?h3 ?h4]
            · cases (List.range hosts.length).all (fun h => fitsOf (nth cap0 hosts h) (onOf l h)) <;> rfl
            case h3 =>
              intro i x hx
              obtain ⟨hi, rfl⟩ := range_get hx
              have h5 : (x : Int) < hosts.length := by omega
              have h6 : 0 ≤ (x : Int) ∧ (x : Int) < hosts.length := ⟨by omega, h5⟩
              simp only [h5, decide_true, cond_true, h6, and_self, if_true]
              rw [on_eq l x (by omega), Option.bind_some, wrap_i64 (n := (x : Int) + 1) (by omega) (by omega)]
              have e : ((nth ((0 : Int), (0 : Int), false) hosts x).1, (nth ((0 : Int), (0 : Int), false) hosts x).2) = nth cap0 hosts x := rfl
              have hg := onOf_len x l
              rw [e, fits_eq _ _ (by omega)]
              cases fitsOf (nth cap0 hosts x) (onOf l x) <;> rfl
            case h4 => simp
        case h1 =>
          intro i p hx
          have hi := idx_lt hx
          have hb : 0 ≤ (i : Int) ∧ (i : Int) < l.length := ⟨by omega, hi⟩
          simp only [hi, decide_true, cond_true, hb, and_self, if_true, nth_some hx]
          rw [wrap_i64 (n := (i : Int) + 1) (by omega) (by omega)]
          unfold goodB
          by_cases c0 : nth (0 : Int) p.2.2 (0 : Int) = nth (0 : Int) p.2.2 (1 : Int)
          · simp [c0]
          · simp only [c0, decide_false, cond_false, Bool.not_false, Bool.true_and]
            have one : ∀ (j : Int), 0 ≤ j → j < 2 →
                (bif decide (j < 2) then
                    if 0 ≤ j ∧ j < (2 : Int) then
                      bif decide ((nth (0 : Int) p.2.2 j) < 0) then
                        some (.inr (.inr (.inr (.inr false))))
                      else
                        bif (decide ((nth (0 : Int) p.2.2 j) ≥ (hosts.length : Int))) then
                          some (.inr (.inr (.inr (.inr false))))
                        else
                          if 0 ≤ (nth (0 : Int) p.2.2 j) ∧ (nth (0 : Int) p.2.2 j) < (hosts.length : Int) then
                            bif (!(((nth ((0 : Int), (0 : Int), false) hosts (nth (0 : Int) p.2.2 j)).2).2)) then
                              some (.inr (.inr (.inr (.inr false))))
                            else
                              some (.inl (IntKind.wrap .i64 (j + 1)))
                          else none
                    else none
                  else
                    some (.inr (.inl ())) : Option (Int ⊕ (Unit ⊕ ((Int) ⊕ ((Unit) ⊕ (Bool)))))) = some (if sideB hosts (nth (0 : Int) p.2.2 j) = true then .inl (j + 1) else .inr (.inr (.inr (.inr false)))) := by
              intro j j0 j1
              have g : 0 ≤ j ∧ j < (2 : Int) := ⟨j0, j1⟩
              rw [wrap_i64 (n := j + 1) (by omega) (by omega), if_pos g]
              unfold sideB
              generalize nth (0 : Int) p.2.2 j = x
              by_cases c1 : x < 0
              · have c1' : ¬ 0 ≤ x := by omega
                simp [j1, c1, c1']
              · have c1' : 0 ≤ x := by omega
                by_cases c2 : x ≥ (hosts.length : Int)
                · have c2' : ¬ x < (hosts.length : Int) := by omega
                  simp only [j1, c1, c2, c2', decide_true, decide_false, cond_true, cond_false, Bool.false_and, Bool.and_false, Bool.false_eq_true, if_false]
                · have c2' : x < (hosts.length : Int) := by omega
                  have e : (nth ((0 : Int), (0 : Int), false) hosts x).2.2 = (nth cap0 hosts x).2.2 := rfl
                  simp only [j1, c1, c2, c1', c2', decide_true, decide_false, cond_true, cond_false, Bool.true_and, and_self, if_true]
                  cases (nth cap0 hosts x).2.2 <;> rfl
            cases s0 : sideB hosts (nth (0 : Int) p.2.2 (0 : Int)) with
            | false =>
              refine bindE (x := .inr (.inr (.inr false))) ?_ rfl
              rw [loop_eq]
              rw [show (_ : Option _) = _ from one 0 (by omega) (by omega)]
              rw [s0]
              rfl
            | true =>
              cases s1 : sideB hosts (nth (0 : Int) p.2.2 (1 : Int)) with
              | false =>
                refine bindE (x := .inr (.inr (.inr false))) ?_ rfl
                rw [loop_eq]
                rw [show (_ : Option _) = _ from one 0 (by omega) (by omega)]
                rw [s0]
                simp only [if_true]
                rw [loop_eq]
                rw [show (_ : Option _) = _ from one (0 + 1) (by omega) (by omega)]
                have e : nth (0 : Int) p.2.2 (0 + 1) = nth (0 : Int) p.2.2 (1 : Int) := rfl
                rw [e, s1]
                rfl
              | true =>
                refine bindE (x := .inl ()) ?_ rfl
                rw [loop_eq]
                rw [show (_ : Option _) = _ from one 0 (by omega) (by omega)]
                rw [s0]
                simp only [if_true]
                rw [loop_eq]
                rw [show (_ : Option _) = _ from one (0 + 1) (by omega) (by omega)]
                have e : nth (0 : Int) p.2.2 (0 + 1) = nth (0 : Int) p.2.2 (1 : Int) := rfl
                rw [e, s1]
                simp only [if_true]
                rw [loop_eq]
                rfl
        case h2 => simp
      · have e1 : ¬ (hosts.length : Int) < 1 := by omega
        have e2 : ¬ (hosts.length : Int) > 6 := by omega
        have e3 : (l.length : Int) > 8 := by omega
        simp [e1, e2, e3, h1, h2, h3]
    · have e1 : ¬ (hosts.length : Int) < 1 := by omega
      have e2 : (hosts.length : Int) > 6 := by omega
      simp [e1, e2, h1, h2]
  · have e1 : (hosts.length : Int) < 1 := by omega
    simp [e1, h1]

theorem demand_some (n : Int) : ∃ d, vmfleetlaw39_demand.f n = some d := by
  unfold vmfleetlaw39_demand.f vmfleetmake_Mix.f vmfleetref1_Next.f
  exact ⟨_, rfl⟩

theorem nth_put_ne {α : Type} (d : α) (l : List α) (i : Nat) (j : Int) (x : α) (h0 : 0 ≤ j) (h : ¬ (i : Int) = j) : nth d (put l i x) j = nth d l j := by
  obtain ⟨j, rfl⟩ := Int.eq_ofNat_of_zero_le h0
  have : ¬ i = j := by omega
  simp [nth, put, List.getD_eq_getElem?_getD, List.getElem?_set_ne this]
theorem nth_put_self {α : Type} (d : α) (l : List α) (i : Nat) (x : α) (h : i < l.length) : nth d (put l i x) i = x := by
  simp [nth, put, List.getD_eq_getElem?_getD, h]

theorem admitSurvives (hosts l on : List Int) : vmfleetlaw39_AdmitSurvives.f hosts l on = some true := by
  unfold vmfleetlaw39_AdmitSurvives.f
  rw [vmfleetlaw39_awake.ok]
  by_cases h1 : (hosts.length : Int) > 6
  · simp [h1]
  by_cases h2 : (l.length : Int) > 8
  · simp [h1, h2]
  rw [wrap_i64 (n := 2 * (l.length : Int)) (by omega) (by omega)]
  by_cases h3 : (on.length : Int) < 2 * (l.length : Int)
  · simp [h1, h2, h3]
  by_cases h4 : (hosts.length : Int) < 1
  · simp [h1, h2, h3, h4]
  simp only [h1, h2, h3, h4, decide_false, cond_false]
  -- the hosts
  refine bindI (fun s => ∃ n : Nat, s.2 = n ∧ n ≤ hosts.length ∧ s.1.length = n ∧ ∀ c ∈ s.1, c.2.2 = true) (fun y => ∃ hs : List Cap, y = .inl hs ∧ hs.length = hosts.length ∧ ∀ c ∈ hs, c.2.2 = true) (fun s => hosts.length - s.2.toNat) ⟨0, rfl, Nat.zero_le _, rfl, fun c hc => (by cases hc)⟩ ?_ ?_
  · rintro ⟨s, j⟩ ⟨n, hj, hn, hl, hc⟩
    simp only at hj hl hc
    subst hj
    by_cases hlt : n < hosts.length
    · have g1 : (n : Int) < hosts.length := by omega
      have g2 : 0 ≤ (n : Int) ∧ (n : Int) < hosts.length := ⟨by omega, g1⟩
      obtain ⟨r, hr, _⟩ := round_some (nth (0 : Int) hosts n) 40 (by decide) (by decide)
      refine .inl ⟨(s ++ [(r, 40, true)], ((n + 1 : Nat) : Int)), ?_, ⟨n + 1, rfl, by omega, by simp [hl], fun c hc' => ?_⟩, ?_⟩
      · simp only [g1, decide_true, cond_true, g2, and_self, if_true, hr, Option.bind_some]
        rw [if_pos (by simp only [List.length_singleton]; omega), wrap_i64 (by omega) (by omega)]
        rfl
      · rcases List.mem_append.1 hc' with h | h
        · exact hc c h
        · rw [List.mem_singleton.1 h]
      · simp only; omega
    · have g1 : ¬ (n : Int) < hosts.length := by omega
      have hn' : n = hosts.length := by omega
      refine .inr ⟨.inl s, ?_, s, rfl, by omega, hc⟩
      simp only [g1, decide_false, cond_false]
  rintro y ⟨hs, rfl, hhl, hup⟩
  dsimp only
  -- the guests
  refine bindI (fun s => ∃ n : Nat, s.2 = n ∧ n ≤ l.length ∧ s.1.length = n) (fun y => ∃ ps : List Plc, y = .inl ps ∧ ps.length = l.length) (fun s => l.length - s.2.toNat) ⟨0, rfl, Nat.zero_le _, rfl⟩ ?_ ?_
  · rintro ⟨s, j⟩ ⟨n, hj, hn, hl⟩
    simp only at hj hl
    subst hj
    by_cases hlt : n < l.length
    · have g1 : (n : Int) < l.length := by omega
      have g2 : 0 ≤ (n : Int) ∧ (n : Int) < l.length := ⟨by omega, g1⟩
      obtain ⟨d, hd⟩ := demand_some (nth (0 : Int) l n)
      obtain ⟨a, ha, _⟩ := round_some (nth (0 : Int) on (2 * (n : Int))) hs.length (by omega) (by omega)
      obtain ⟨b, hb, _⟩ := round_some (nth (0 : Int) on (2 * (n : Int) + 1)) hs.length (by omega) (by omega)
      refine .inl ⟨(s ++ [((⟨#[]⟩ : ByteArray), d, [a, b])], ((n + 1 : Nat) : Int)), ?_, ⟨n + 1, rfl, by omega, by simp [hl]⟩, ?_⟩
      · simp only [g1, decide_true, cond_true, g2, and_self, if_true, hd, Option.bind_some]
        rw [wrap_i64 (n := 2 * (n : Int)) (by omega) (by omega), if_pos (by omega), ha, Option.bind_some, wrap_i64 (n := 2 * (n : Int) + 1) (by omega) (by omega), if_pos (by omega), hb, Option.bind_some, if_pos (by simp only [List.length_singleton]; omega), wrap_i64 (n := (n : Int) + 1) (by omega) (by omega)]
        rfl
      · simp only; omega
    · have g1 : ¬ (n : Int) < l.length := by omega
      refine .inr ⟨.inl s, ?_, s, rfl, by omega⟩
      simp only [g1, decide_false, cond_false]
  rintro y ⟨ps, rfl, hpl⟩
  dsimp only
  rw [surv_eq, Option.bind_some]
  cases hsv : survB hs ps with
  | false => rfl
  | true =>
    simp only [Bool.not_true, cond_false]
    simp only [survB, Bool.and_eq_true, decide_eq_true_eq, List.all_eq_true, List.mem_range] at hsv
    obtain ⟨q1, q2, q3, q4, q5⟩ := hsv
    refine bindE (loop_all (List.range hs.length) (fun _ => true) (.inr false) (.inl ()) (fun i x hx => ?_) ?_) ?_
    · obtain ⟨hi, rfl⟩ := range_get hx
      have g1 : (x : Int) < hs.length := by omega
      have g2 : 0 ≤ (x : Int) ∧ (x : Int) < hs.length := ⟨by omega, g1⟩
      have d1 : decide ((x : Int) < hs.length) = true := decide_eq_true g1
      rw [List.nil_append, d1, wrap_i64 (n := (x : Int) + 1) (by omega) (by omega)]
      simp only [cond_true]
      rw [if_pos (show (([] : List Cap).length + hs.length) * 24 ≤ 70368744177664 by simp only [List.length_nil]; omega), if_pos g2]
      generalize hdn : put hs (x : Int) ((nth ((0 : Int), (0 : Int), false) hs x).1, (nth ((0 : Int), (0 : Int), false) hs x).2.1, false) = dn
      have hdl : dn.length = hs.length := by rw [← hdn]; simp [put]
      have hdx : nth cap0 dn x = ((nth cap0 hs x).1, (nth cap0 hs x).2.1, false) := by rw [← hdn]; exact nth_put_self _ _ _ _ hi
      have hdo : ∀ j : Int, 0 ≤ j → ¬ (x : Int) = j → nth cap0 dn j = nth cap0 hs j := fun j h0 hj => by rw [← hdn]; exact nth_put_ne _ _ _ _ _ h0 hj
      have side : ∀ p ∈ ps, ¬ nth (0 : Int) p.2.2 (0 : Int) = nth (0 : Int) p.2.2 (1 : Int) ∧ (0 ≤ nth (0 : Int) p.2.2 (0 : Int) ∧ nth (0 : Int) p.2.2 (0 : Int) < (hs.length : Int) ∧ (nth cap0 hs (nth (0 : Int) p.2.2 (0 : Int))).2.2 = true) ∧ 0 ≤ nth (0 : Int) p.2.2 (1 : Int) ∧ nth (0 : Int) p.2.2 (1 : Int) < (hs.length : Int) ∧ (nth cap0 hs (nth (0 : Int) p.2.2 (1 : Int))).2.2 = true := fun p hp => by
        have := q4 p hp
        simp only [goodB, sideB, Bool.and_eq_true, Bool.not_eq_true', decide_eq_true_eq, decide_eq_false_iff_not] at this
        exact this
      refine bindE (loop_all ps (fun _ => true) (.inr (.inr (.inr false))) (.inl ()) (fun j p hp => ?_) ?_) ?_
      · have hj := idx_lt hp
        have hb : 0 ≤ (j : Int) ∧ (j : Int) < ps.length := ⟨by omega, hj⟩
        obtain ⟨s1, ⟨s2, s3, s4⟩, s5, s6, s7⟩ := side p (List.mem_of_getElem? hp)
        simp only [hj, decide_true, cond_true, hb, and_self, if_true, nth_some hp]
        rw [wrap_i64 (n := (j : Int) + 1) (by omega) (by omega), hdl, if_pos ⟨s2, s3⟩, if_pos ⟨s5, s6⟩]
        by_cases ca : (x : Int) = nth (0 : Int) p.2.2 (0 : Int)
        · have e2 : (nth ((0 : Int), (0 : Int), false) dn (nth (0 : Int) p.2.2 (1 : Int))).2.2 = true := by
            have := hdo _ s5 (by omega)
            have e : nth ((0 : Int), (0 : Int), false) dn (nth (0 : Int) p.2.2 (1 : Int)) = nth cap0 dn (nth (0 : Int) p.2.2 (1 : Int)) := rfl
            rw [e, this]; exact s7
          rw [e2]
          cases (nth ((0 : Int), (0 : Int), false) dn (nth (0 : Int) p.2.2 (0 : Int))).2.2 <;> rfl
        · have e1 : (nth ((0 : Int), (0 : Int), false) dn (nth (0 : Int) p.2.2 (0 : Int))).2.2 = true := by
            have := hdo _ s2 ca
            have e : nth ((0 : Int), (0 : Int), false) dn (nth (0 : Int) p.2.2 (0 : Int)) = nth cap0 dn (nth (0 : Int) p.2.2 (0 : Int)) := rfl
            rw [e, this]; exact s4
          rw [e1]
          rfl
      · simp
      have t1 : ps.all (fun _ => true) = true := by simp
      rw [if_pos t1]
      dsimp only
      refine bindE (loop_all (List.range hs.length) (fun _ => true) (.inr (.inr (.inr false))) (.inl ()) (fun j k hk => ?_) ?_) ?_
      · obtain ⟨hj, rfl⟩ := range_get hk
        have k1 : (k : Int) < hs.length := by omega
        have k2 : 0 ≤ (k : Int) ∧ (k : Int) < dn.length := ⟨by omega, by omega⟩
        have d2 : decide ((k : Int) < hs.length) = true := decide_eq_true k1
        rw [d2, wrap_i64 (n := (k : Int) + 1) (by omega) (by omega)]
        simp only [cond_true, if_true]
        by_cases ck : (k : Int) = x
        · simp only [ck, decide_true, Bool.not_true, cond_false]
        · have hg := onOf_len k ps
          have e : ((nth ((0 : Int), (0 : Int), false) dn k).1, (nth ((0 : Int), (0 : Int), false) dn k).2) = nth cap0 dn k := rfl
          have d3 : decide ((k : Int) = x) = false := decide_eq_false ck
          rw [d3, if_pos k2, on_eq ps k (by omega), Option.bind_some, e, hdo k (by omega) (fun h => ck h.symm), fits_eq _ _ (by omega), q5 k hj]
          rfl
      · simp
      have t2 : (List.range hs.length).all (fun _ => true) = true := by simp
      rw [if_pos t2]
      dsimp only
      rw [on_eq ps x (by omega), Option.bind_some, surv_eq]
      cases hon : onOf ps x with
      | nil => rfl
      | cons d0 rest =>
        have hgt : ((d0 :: rest).length : Int) > 0 := by simp only [List.length_cons]; omega
        have hmem : d0 ∈ onOf ps x := by rw [hon]; simp
        obtain ⟨p, hp, hd⟩ := List.mem_flatMap.1 hmem
        have hbad : survB dn ps = false := by
          rw [Bool.eq_false_iff]
          intro h
          simp only [survB, Bool.and_eq_true, decide_eq_true_eq, List.all_eq_true, List.mem_range] at h
          have := h.2.2.2.1 p hp
          simp only [goodB, sideB, Bool.and_eq_true, Bool.not_eq_true', decide_eq_true_eq, decide_eq_false_iff_not] at this
          obtain ⟨_, ⟨_, _, u1⟩, _, _, u2⟩ := this
          unfold onP at hd
          rcases List.mem_append.1 hd with hd | hd
          · split at hd
            · rename_i he; rw [he, hdx] at u1; cases u1
            · cases hd
          · split at hd
            · rename_i he; rw [he, hdx] at u2; cases u2
            · cases hd
        rw [hbad]
        simp only [hgt, decide_true, cond_true, Option.bind_some, cond_false, if_true]
    · simp
    · have t : (List.range hs.length).all (fun _ => true) = true := by simp
      rw [if_pos t]
      rfl

theorem vmfleetlaw39_AdmitSurvives.pure (x : (tup vmfleetlaw39_AdmitSurvives.sp.args).den) (h : WfL vmfleetlaw39_AdmitSurvives.sp.args x) : vmfleetlaw39_AdmitSurvives.sp.f x = some true := admitSurvives x.1 x.2.1 x.2.2

end Go.Proofs.Ytacmfiddaklkiab.Fn
