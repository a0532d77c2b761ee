/- The law BalloonTells, in plain Lean: at every input its function is true. No condition but the arguments' ranges. -/
import Derived.Test.YtapngmfecjhlfaaPureCh11
import Derived.Test.YtapngmfecjhlfaaPureMemCopy
set_option linter.unusedVariables false
set_option linter.unusedSimpArgs false
namespace Go.Proofs.Ytapngmfecjhlfaa.Fn
open Go Lift

theorem setN_congr (m : List Int) (b : Nat) {w w' : Nat → Int} {n : Nat} (h : ∀ i, i < n → w i = w' i) : setN m b w n = setN m b w' n := by
  induction n with
  | zero => rfl
  | succ n ih => rw [setN_succ, setN_succ, ih fun i hi => h i (by omega), h n (by omega)]

theorem word_zero : ((List.range 32).all fun i => decide (wordOf zeroPage i = 0)) = true := by kernel_rfl

theorem zero_setP (m : List Int) (v : Nat) : setP m v zeroPage = setN m (32 * v) (fun _ => 0) 32 := by
  unfold setP
  refine setN_congr m _ fun i hi => ?_
  have := List.all_eq_true.1 word_zero i (List.mem_range.2 hi)
  exact of_decide_eq_true this

theorem bit_zero {g v : Nat} (hg : g ≤ 4294967295) (hv : v ≤ 32) : decide (andI .u32 (shrI .u32 (g : Int) (v : Int)) 1 = 0) = !g.testBit v := by
  have hs : g >>> v ≤ 4294967295 := by rw [Nat.shiftRight_eq_div_pow]; exact Nat.le_trans (Nat.div_le_self _ _) hg
  rw [shr_nat hv, show andI .u32 ((g >>> v : Nat) : Int) 1 = (((g >>> v) &&& 1 : Nat) : Int) from and_nat hs (by decide), bit_and_one]
  cases g.testBit v <;> rfl

theorem bit_one {g v : Nat} (hg : g ≤ 4294967295) (hv : v ≤ 32) : decide (andI .u32 (shrI .u32 (g : Int) (v : Int)) 1 = 1) = g.testBit v := by
  have hs : g >>> v ≤ 4294967295 := by rw [Nat.shiftRight_eq_div_pow]; exact Nat.le_trans (Nat.div_le_self _ _) hg
  rw [shr_nat hv, show andI .u32 ((g >>> v : Nat) : Int) 1 = (((g >>> v) &&& 1 : Nat) : Int) from and_nat hs (by decide), bit_and_one]
  cases g.testBit v <;> rfl

theorem balOutR_eq {m : List Int} {k : Nat} (h : m.length = 32 * k) (hk : k ≤ 32) (t : Int) {g : Nat} (hg : g ≤ 4294967295) (port : Int) {v : Nat} (hv : v ≤ 4294967295) : vmfleetref7_BalloonOut.f (t, (g : Int)) m port (v : Int) = some (balOut t g m k port v) := by
  unfold vmfleetref7_BalloonOut.f balOut
  rw [copyR_eq m (by omega), Option.bind_some]
  have hv0 : 0 ≤ (v : Int) := by omega
  by_cases c1 : port = 10
  · have n11 : ¬ port = 11 := by omega
    rw [decide_eq_true c1, cond_true, pageT_eq h hk hv, Option.bind_some, decide_eq_false n11, cond_false]
    by_cases c2 : v < k
    · rw [decide_eq_true c2, cond_true, if_pos hv0, if_neg (show ¬ 32 ≤ v by omega), if_pos c1, bit_zero hg (by omega), Option.bind_some]
      dsimp only
      cases c3 : g.testBit v with
      | true =>
        rw [Bool.not_true, cond_false, Option.bind_some, if_neg (show ¬ (v < k ∧ true = false) from fun hh => by cases hh.2)]
        dsimp only
        rw [cond_false]
      | false =>
        rw [Bool.not_false, cond_true, if_pos hv0, if_pos ⟨c2, rfl⟩, zero_setP]
        have w0 : IntKind.wrap .i64 (v : Int) = (v : Int) := wrap_i64 (by omega) (by omega)
        have w1 : IntKind.wrap .i64 ((v : Int) * 32) = (v : Int) * 32 := wrap_i64 (by omega) (by omega)
        refine bind_of (loop_from ((0 : Int), m) (fun i : Nat => ((i : Int), setN m (32 * v) (fun _ => 0) i)) 32 (Sum.inl ((), setN m (32 * v) (fun _ => 0) 32)) rfl ?h1 ?h2) ?_
        case h1 =>
          intro i hi
          have b1 : (i : Int) < 32 := by omega
          have w2 : IntKind.wrap .i64 ((v : Int) * 32 + (i : Int)) = (v : Int) * 32 + (i : Int) := wrap_i64 (by omega) (by omega)
          dsimp only
          rw [decide_eq_true b1, cond_true, w0, w1, w2, if_pos (by rw [setN_len]; omega), wrap_i64 (n := (i : Int) + 1) (by omega) (by omega), setN_succ]
          have e : ((v : Int) * 32 + (i : Int)).toNat = 32 * v + i := by omega
          have e3 : ((i + 1 : Nat) : Int) = (i : Int) + 1 := by omega
          unfold put
          rw [e, e3]
        case h2 =>
          have hq : ¬ (((32 : Nat) : Int) < 32) := by decide
          generalize setN m (32 * v) (fun _ => (0 : Int)) 32 = z
          simp only [hq, decide_false, cond_false]
        · generalize setN m (32 * v) (fun _ => (0 : Int)) 32 = z
          dsimp only
          rw [(shl_one (v := v) (by omega)).1, (or_nat hg (shl_one (v := v) (by omega)).2).1]
    · rw [decide_eq_false c2, cond_false, Option.bind_some]
      dsimp only
      rw [cond_false, Option.bind_some]
      dsimp only
      rw [cond_false]
      by_cases c0 : 32 ≤ v
      · rw [if_pos c0]
      · rw [if_neg c0, if_pos c1, if_neg (fun hh => c2 hh.1)]
  · rw [decide_eq_false c1, cond_false, Option.bind_some]
    dsimp only
    rw [cond_false]
    by_cases c2 : port = 11
    · rw [decide_eq_true c2, cond_true, Option.bind_some]
      dsimp only
      by_cases c0 : 32 ≤ v
      · rw [decide_eq_false (by omega), cond_false, if_pos c0]
      · rw [decide_eq_true (by omega), cond_true, if_pos hv0, if_neg c0, if_neg c1, if_pos c2, (clrB_eq hg (by omega)).1]
    · rw [decide_eq_false c2, cond_false, Option.bind_some]
      dsimp only
      rw [cond_false, if_neg c1, if_neg c2]
      by_cases c0 : 32 ≤ v
      · rw [if_pos c0]
      · rw [if_neg c0]

theorem given_eq {t : Int} {g : Nat} (hg : g ≤ 4294967295) : vmfleetref7_Given.f (t, (g : Int)) = some ((popB g 32 : Nat) : Int) := by
  unfold vmfleetref7_Given.f
  refine bind_of (loop_from ((0 : Int), (0 : Int)) (fun i : Nat => (((popB g i : Nat) : Int), (i : Int))) 32 (Sum.inl ((popB g 32 : Nat) : Int)) rfl ?h1 ?h2) rfl
  case h2 => rfl
  case h1 =>
    intro i hi
    have b1 : (i : Int) < 32 := by omega
    have w : IntKind.wrap .u64 (i : Int) = (i : Int) := wrap_u64 (by omega) (by omega)
    have hs : g >>> i ≤ 4294967295 := by rw [Nat.shiftRight_eq_div_pow]; exact Nat.le_trans (Nat.div_le_self _ _) hg
    have hp := popB_le g i
    have ht : (g.testBit i).toNat ≤ 1 := by cases g.testBit i <;> decide
    dsimp only
    rw [decide_eq_true b1, cond_true, w, if_pos (by omega), shr_nat (by omega), show andI .u32 ((g >>> i : Nat) : Int) 1 = (((g >>> i) &&& 1 : Nat) : Int) from and_nat hs (by decide), bit_and_one]
    rw [wrap_i64 (n := (((g.testBit i).toNat : Nat) : Int)) (by omega) (by omega), wrap_i64 (n := _ + (((g.testBit i).toNat : Nat) : Int)) (by omega) (by omega), wrap_i64 (n := (i : Int) + 1) (by omega) (by omega)]
    rfl

theorem shr_zero_iff {g k : Nat} (hg : g ≤ 4294967295) : g >>> k = 0 ↔ ∀ j, j < 32 → g.testBit j = true → j < k := by
  constructor
  · intro h j hj hb
    refine Classical.byContradiction fun hk => ?_
    have : (g >>> k).testBit (j - k) = true := by rw [Nat.testBit_shiftRight, show k + (j - k) = j by omega]; exact hb
    rw [h, Nat.zero_testBit] at this
    cases this
  · intro h
    refine shr_zero_of fun i hi => ?_
    cases hb : g.testBit i with
    | false => rfl
    | true =>
      by_cases h32 : i < 32
      · have := h i h32 hb; omega
      · rw [bit_high hg (by omega)] at hb; cases hb

theorem may_same (t : Int) {g : Nat} (hg : g ≤ 4294967295) (pages : Int) : ∃ r, balloon_May.f (t, (g : Int)) pages = some r ∧ vmfleetref7_BalloonMay.f (t, (g : Int)) pages = some r := by
  have hP : ∃ r : Bool, (r = true ↔ ∀ j : Nat, j < 32 → g.testBit j = true → (j : Int) < pages) := by
    by_cases h : ∀ j : Nat, j < 32 → g.testBit j = true → (j : Int) < pages
    · exact ⟨true, fun _ => h, fun _ => rfl⟩
    · exact ⟨false, fun hh => (by cases hh), fun hh => absurd hh h⟩
  obtain ⟨r, hr⟩ := hP
  refine ⟨r, ?_, ?_⟩
  · unfold balloon_May.f
    have key : ∀ q : Nat, (∀ j : Nat, j < 32 → ((j : Int) < pages ↔ j < q)) → (bif decide ((q : Int) ≥ 32) then some true else if 0 ≤ (q : Int) then some (decide (shrI .u32 (g : Int) (q : Int) = 0)) else none) = some r := by
      intro q hq
      by_cases c : (q : Int) ≥ 32
      · rw [decide_eq_true c, cond_true]
        congr 1
        symm
        exact hr.2 fun j hj _ => (hq j hj).2 (by omega)
      · rw [decide_eq_false c, cond_false, if_pos (by omega), shr_nat (by omega)]
        congr 1
        have hi := shr_zero_iff (g := g) (k := q) hg
        by_cases hz : g >>> q = 0
        · rw [hz, decide_eq_true (by rfl)]
          symm
          exact hr.2 fun j hj hb => (hq j hj).2 (hi.1 hz j hj hb)
        · rw [decide_eq_false (by omega)]
          cases r with
          | false => rfl
          | true => exact absurd (hi.2 fun j hj hb => (hq j hj).1 (hr.1 rfl j hj hb)) hz
    by_cases c0 : pages < 0
    · rw [decide_eq_true c0, cond_true, Option.bind_some]
      exact key 0 fun j _ => by omega
    · rw [decide_eq_false c0, cond_false, Option.bind_some]
      obtain ⟨q, hq⟩ := Int.eq_ofNat_of_zero_le (show 0 ≤ pages by omega)
      rw [hq]
      rw [hq] at hr
      exact key q fun j _ => by omega
  · unfold vmfleetref7_BalloonMay.f
    have lk := loop_ind (step := (fun (x1 : Int) =>
    bif decide (x1 < 32) then
      if 0 ≤ (IntKind.wrap .u64 x1) then
        bif decide ((andI .u32 (shrI .u32 (g : Int) (IntKind.wrap .u64 x1)) (1 : Int)) = 1) then
          bif decide (x1 ≥ pages) then
            some (.inr (.inr false))
          else
            some (.inl (IntKind.wrap .i64 (x1 + 1)))
        else
          some (.inl (IntKind.wrap .i64 (x1 + 1)))
      else none
    else
      some (.inr (.inl ())))) (I := fun x : Int => 0 ≤ x ∧ x ≤ 32 ∧ ∀ j : Nat, (j : Int) < x → g.testBit j = true → (j : Int) < pages)
      (Q := fun y : (Unit) ⊕ (Bool) => (y = .inl () ∧ r = true) ∨ (y = .inr false ∧ r = false)) (fun x => ((32 : Int) - x).toNat) (x := (0 : Int)) ⟨Int.le_refl 0, by omega, fun j hj => by omega⟩ (fun x hI => by
        obtain ⟨i1, i2, i3⟩ := hI
        by_cases hx : x < 32
        · obtain ⟨i, rfl⟩ := Int.eq_ofNat_of_zero_le i1
          have w : IntKind.wrap .u64 (i : Int) = (i : Int) := wrap_u64 (by omega) (by omega)
          have w' : IntKind.wrap .i64 ((i : Int) + 1) = (i : Int) + 1 := wrap_i64 (by omega) (by omega)
          rw [decide_eq_true hx, cond_true, w, if_pos (by omega), bit_one hg (by omega), w']
          cases hb : g.testBit i with
          | false =>
            left
            refine ⟨_, rfl, ⟨by omega, by omega, fun j hj hbj => ?_⟩, by omega⟩
            by_cases hji : j = i
            · subst hji; rw [hb] at hbj; cases hbj
            · exact i3 j (by omega) hbj
          | true =>
            rw [cond_true]
            by_cases hp : (i : Int) ≥ pages
            · right
              rw [decide_eq_true hp]
              refine ⟨_, rfl, .inr ⟨rfl, ?_⟩⟩
              cases r with
              | false => rfl
              | true => have := hr.1 rfl i (by omega) hb; omega
            · left
              rw [decide_eq_false hp]
              refine ⟨_, rfl, ⟨by omega, by omega, fun j hj hbj => ?_⟩, by omega⟩
              by_cases hji : j = i
              · subst hji; omega
              · exact i3 j (by omega) hbj
        · right
          rw [decide_eq_false hx]
          exact ⟨_, rfl, .inl ⟨rfl, hr.2 fun j hj hb => i3 j (by omega) hb⟩⟩)
    obtain ⟨y, h1, h2⟩ := lk
    refine bind_of h1 ?_
    rcases h2 with ⟨rfl, rfl⟩ | ⟨rfl, rfl⟩ <;> rfl

theorem balOut_len {t : Int} {g : Nat} {m : List Int} {k : Nat} {port : Int} {v : Nat} : (balOut t g m k port v).2.length = m.length := by
  unfold balOut
  have hz := setP_len m v zeroPage
  generalize setP m v zeroPage = z at hz ⊢
  by_cases c0 : 32 ≤ v
  · rw [if_pos c0]
  rw [if_neg c0]
  by_cases c1 : port = 10
  · rw [if_pos c1]
    by_cases c2 : v < k ∧ g.testBit v = false
    · rw [if_pos c2]; exact hz
    · rw [if_neg c2]
  rw [if_neg c1]
  by_cases c2 : port = 11
  · rw [if_pos c2]
  · rw [if_neg c2]

theorem tells11 {m : List Int} {k : Nat} (h : m.length = 32 * k) (hk : k ≤ 8) {t : Int} (ht0 : 0 ≤ t) (ht : t ≤ 4294967295) {g : Nat} (hg : g ≤ 4294967295) (port : Int) {v : Nat} (hv : v ≤ 4294967295) (pages : Int) :
    ((balloon_Out.f (t, (g : Int)) m port (v : Int)).bind fun r3 =>
    (vmfleetref7_BalloonOut.f (t, (g : Int)) m port (v : Int)).bind fun r4 =>
    bif decide (r3.1 = r4.1) then
      (vmfleetref1_SameWords.f r3.2 r4.2).bind fun r5 =>
      bif r5 then
        (balloon_In.f (t, (g : Int)) port).bind fun r6 =>
        (vmfleetref7_BalloonIn.f (t, (g : Int)) port).bind fun r7 =>
        bif decide (r6 = r7) then
          (balloon_Count.f (t, (g : Int))).bind fun r8 =>
          (vmfleetref7_Given.f (t, (g : Int))).bind fun r9 =>
          bif decide (r8 = r9) then
            (balloon_Pending.f (t, (g : Int))).bind fun r10 =>
            (vmfleetref7_BalloonPending.f (t, (g : Int))).bind fun r11 =>
            bif r10 == r11 then
              (balloon_May.f (t, (g : Int)) pages).bind fun r12 =>
              (vmfleetref7_BalloonMay.f (t, (g : Int)) pages).bind fun r13 =>
              bif r12 == r13 then
                (vmfleetlaw11_awake.f).bind fun r14 =>
                some r14
              else
                some false
            else
              some false
          else
            some false
        else
          some false
      else
        some false
    else
      some false) = some true := by
  have hp := popB_le g 32
  have eIn : ∃ z, balloon_In.f (t, (g : Int)) port = some z ∧ vmfleetref7_BalloonIn.f (t, (g : Int)) port = some z := by
    unfold balloon_In.f vmfleetref7_BalloonIn.f
    rw [count_eq hg, given_eq hg]
    by_cases c1 : port = 10
    · rw [decide_eq_true c1]; exact ⟨_, rfl, rfl⟩
    · rw [decide_eq_false c1]
      by_cases c2 : port = 11
      · rw [decide_eq_true c2]; exact ⟨_, rfl, rfl⟩
      · rw [decide_eq_false c2]; exact ⟨_, rfl, rfl⟩
  have ePe : ∃ z, balloon_Pending.f (t, (g : Int)) = some z ∧ vmfleetref7_BalloonPending.f (t, (g : Int)) = some z := by
    unfold balloon_Pending.f vmfleetref7_BalloonPending.f
    rw [count_eq hg, given_eq hg, Option.bind_some, Option.bind_some]
    generalize popB g 32 = q at hp
    dsimp only
    rw [wrap_u32 (by omega) (by omega), wrap_u64 (n := (q : Int)) (by omega) (by omega), wrap_u64 (n := t) (by omega) (by omega)]
    exact ⟨_, rfl, rfl⟩
  obtain ⟨z1, i1, i2⟩ := eIn
  obtain ⟨z2, p1, p2⟩ := ePe
  obtain ⟨z3, m1, m2⟩ := may_same t hg pages
  rw [balOut_eq h (by omega) t hg port hv, Option.bind_some, balOutR_eq h (by omega) t hg port hv, Option.bind_some, decide_eq_true rfl, cond_true]
  rw [sameWords_self _ (by rw [balOut_len]; omega), Option.bind_some, cond_true, i1, Option.bind_some, i2, Option.bind_some, decide_eq_true rfl, cond_true]
  rw [count_eq hg, Option.bind_some, given_eq hg, Option.bind_some, decide_eq_true rfl, cond_true, p1, Option.bind_some, p2, Option.bind_some, beq_self_eq_true, cond_true]
  rw [m1, Option.bind_some, m2, Option.bind_some, beq_self_eq_true, cond_true, vmfleetlaw11_awake.ok]
  rfl

theorem balloonTells (b : Int × Int) (n pages port v : Int) (small : Bool) (h0 : 0 ≤ b.1) (h1 : b.1 ≤ 4294967295) (h2 : 0 ≤ b.2) (h3 : b.2 ≤ 4294967295) (h4 : 0 ≤ v) (h5 : v ≤ 4294967295) : vmfleetlaw11_BalloonTells.f b n pages port v small = some true := by
  unfold vmfleetlaw11_BalloonTells.f
  obtain ⟨m, k, e2, q1, q2, hm, _⟩ := words11_ok n pages
  obtain ⟨t, g0⟩ := b
  dsimp only at h0 h1 h2 h3 ⊢
  obtain ⟨g, rfl⟩ := Int.eq_ofNat_of_zero_le h2
  obtain ⟨u, rfl⟩ := Int.eq_ofNat_of_zero_le h4
  rw [e2, Option.bind_some]
  cases small with
  | false =>
    rw [cond_false, Option.bind_some]
    exact tells11 hm q2 h0 h1 (by omega) port (by omega) pages
  | true =>
    obtain ⟨r, er, _, _⟩ := round_ok port 4 (by decide) (by decide)
    have a1 : andI .u32 (g : Int) 255 = ((g &&& 255 : Nat) : Int) := and_nat (by omega) (by decide)
    have a2 := (and_255 g).1
    have a3 : Int.tmod (u : Int) 34 = ((u % 34 : Nat) : Int) := by rw [Int.tmod_eq_emod_of_nonneg (by omega)]; omega
    rw [cond_true, er, Option.bind_some, Option.bind_some, a1, a3]
    exact tells11 hm q2 h0 h1 (by omega) _ (by omega) pages

theorem vmfleetlaw11_BalloonTells.pure (x : (tup vmfleetlaw11_BalloonTells.sp.args).den) (h : WfL vmfleetlaw11_BalloonTells.sp.args x) : vmfleetlaw11_BalloonTells.sp.f x = some true :=
  balloonTells x.1 x.2.1 x.2.2.1 x.2.2.2.1 x.2.2.2.2.1 x.2.2.2.2.2 h.1.1.1 h.1.1.2 h.1.2.1 h.1.2.2 h.2.2.2.2.1.1 h.2.2.2.2.1.2

end Go.Proofs.Ytapngmfecjhlfaa.Fn
