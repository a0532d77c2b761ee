/- The law NicReceives, in plain Lean: at every input its function is true. No condition but the arguments' ranges. -/
import Derived.Test.YteiepkkkphkncaaPureCh10
import Derived.Test.YteiepkkkphkncaaPureMemFill
import Derived.Test.YteiepkkkphkncaaPureMemCopy
import Derived.Test.YteiepkkkphkncaaPureMemSame
import Derived.Test.YteiepkkkphkncaaPureNicKeeps
set_option linter.unusedVariables false
set_option linter.unusedSimpArgs false
namespace Go.Proofs.Yteiepkkkphkncaa.Fn
open Go Lift

theorem nicReceiveR_eq {m : List Int} {k : Nat} (h : m.length = 32 * k) (hk : k ≤ 32) (hu : U32 m) (n : Nic) (hn : NicOk n) (frame : ByteArray) : vmfleetref7_Receive.f n m frame = some (nicReceive n m k frame) := by
  obtain ⟨_, _, _, h1, h2⟩ := hn
  obtain ⟨a, b, p, c, q, l⟩ := n
  dsimp only at h1 h2
  obtain ⟨f, rfl⟩ := Int.eq_ofNat_of_zero_le h1
  unfold vmfleetref7_Receive.f nicReceive
  rw [copyR_eq m (by omega), Option.bind_some]
  dsimp only
  cases p with
  | false => rw [if_neg (fun hh => by cases hh.1)]; rfl
  | true =>
    rw [Bool.not_true, cond_false]
    by_cases c1 : (frame.size : Int) < 1
    · rw [decide_eq_true c1, cond_true, if_neg (by omega)]
    rw [decide_eq_false c1, cond_false]
    by_cases c2 : (frame.size : Int) > 128
    · rw [decide_eq_true c2, cond_true, if_neg (by omega)]
    rw [decide_eq_false c2, cond_false, pageB_eq h hk h1 h2, Option.bind_some]
    by_cases c3 : (f : Int) < (k : Int)
    · rw [decide_eq_true c3, Bool.not_true, cond_false, if_pos ⟨rfl, by omega, by omega, c3⟩]
      refine bindS (fill_loop h hk (by omega) hu frame (by omega)) ?_
      rw [fill_page h hk (show f < k by omega) frame (by omega), Int.toNat_natCast, wrap_u32 (by omega) (by omega)]
    · rw [decide_eq_false c3, Bool.not_false, cond_true, if_neg (fun hh => c3 hh.2.2.2)]

theorem nicMay_same (n : Nic) (pages : Int) : ∃ r, nic_May.f n pages = some r ∧ vmfleetref7_NicMay.f n pages = some r := by
  obtain ⟨a, b, p, c, q, l⟩ := n
  unfold nic_May.f vmfleetref7_NicMay.f
  dsimp only
  cases p with
  | true =>
    cases q with
    | true => exact ⟨false, rfl, rfl⟩
    | false =>
      by_cases c1 : IntKind.wrap .i64 c < pages
      · have c2 : ¬ IntKind.wrap .i64 c ≥ pages := by omega
        rw [decide_eq_true c1, decide_eq_false c2]
        exact ⟨_, rfl, rfl⟩
      · have c2 : IntKind.wrap .i64 c ≥ pages := by omega
        rw [decide_eq_false c1, decide_eq_true c2]
        exact ⟨_, rfl, rfl⟩
  | false =>
    by_cases c1 : c = 0
    · rw [decide_eq_true c1]
      cases q with
      | false => exact ⟨_, rfl, rfl⟩
      | true =>
        by_cases c2 : l ≥ 1
        · rw [decide_eq_true c2]; exact ⟨_, rfl, rfl⟩
        · rw [decide_eq_false c2]; exact ⟨_, rfl, rfl⟩
    · rw [decide_eq_false c1]
      cases q with
      | false => exact ⟨_, rfl, rfl⟩
      | true =>
        by_cases c2 : l ≥ 1
        · rw [decide_eq_true c2]; exact ⟨_, rfl, rfl⟩
        · rw [decide_eq_false c2]; exact ⟨_, rfl, rfl⟩

theorem nicReceive_len2 (n : Nic) (m : List Int) (k : Nat) (fr : ByteArray) : (nicReceive n m k fr).2.1.length = m.length := by
  unfold nicReceive
  have hz := setP_len m n.2.2.2.1.toNat (fr ++ cut (pageOf m n.2.2.2.1.toNat) fr.size 128)
  generalize setP m n.2.2.2.1.toNat (fr ++ cut (pageOf m n.2.2.2.1.toNat) fr.size 128) = z at hz ⊢
  by_cases c : n.2.2.1 = true ∧ 1 ≤ fr.size ∧ fr.size ≤ 128 ∧ n.2.2.2.1 < k
  · rw [if_pos c]; exact hz
  · rw [if_neg c]

theorem nicReceives (n : Nic) (raw : Bool) (k pages : Int) (frame : ByteArray) (made : Bool) (hn : NicOk n) : vmfleetlaw10_NicReceives.f n raw k pages frame made = some true := by
  unfold vmfleetlaw10_NicReceives.f
  rw [vmfleetlaw10_awake.ok]
  obtain ⟨r1, e1, hr⟩ := shaped10_ok n raw k hn
  obtain ⟨m, q, e2, q1, q2, hm, hu⟩ := words10_ok k pages
  rw [e1, Option.bind_some, e2, Option.bind_some]
  have key : ∀ y1 : ByteArray, (bif decide ((y1.size : Int) > 300) then
      ((some true : Option Bool)).bind fun r6 =>
      some r6
    else
      (nic_Receive.f r1 m y1).bind fun r7 =>
      (vmfleetref7_Receive.f r1 m y1).bind fun r8 =>
      bif decide (r7.1 = r8.1) then
        (vmfleetref1_SameWords.f r7.2.1 r8.2.1).bind fun r9 =>
        bif r9 then
          bif r7.2.2 == r8.2.2 then
            (nic_Pending.f r1).bind fun r10 =>
            (vmfleetref7_NicPending.f r1).bind fun r11 =>
            bif r10 == r11 then
              (nic_May.f r1 pages).bind fun r12 =>
              (vmfleetref7_NicMay.f r1 pages).bind fun r13 =>
              bif r12 == r13 then
                ((some true : Option Bool)).bind fun r14 =>
                some r14
              else
                some false
            else
              some false
          else
            some false
        else
          some false
      else
        some false) = some true := by
    intro y
    by_cases c : (y.size : Int) > 300
    · rw [decide_eq_true c]; rfl
    rw [decide_eq_false c, cond_false, nicReceive_eq hm (by omega) r1 hr, Option.bind_some, nicReceiveR_eq hm (by omega) hu r1 hr, Option.bind_some]
    have hl := nicReceive_len2 r1 m q y
    generalize nicReceive r1 m q y = z at hl ⊢
    rw [decide_eq_true rfl, cond_true, sameW_self _ (by omega), Option.bind_some, cond_true, beq_self_eq_true, cond_true]
    obtain ⟨b, b1, b2⟩ := nicMay_same r1 pages
    unfold nic_Pending.f vmfleetref7_NicPending.f
    rw [Option.bind_some, Option.bind_some, beq_self_eq_true, cond_true, b1, Option.bind_some, b2, Option.bind_some, beq_self_eq_true, cond_true]
    rfl
  cases made with
  | false => rw [cond_false, Option.bind_some]; exact key frame
  | true =>
    obtain ⟨r3, e3⟩ := mix_ok k 13
    obtain ⟨r4, e4, p1, p2⟩ := round_ok r3 140 (by decide) (by decide)
    obtain ⟨t, rfl⟩ := Int.eq_ofNat_of_zero_le p1
    obtain ⟨s, es, _⟩ := data_ok k t (by omega)
    rw [cond_true, e3, Option.bind_some, e4, Option.bind_some, es, Option.bind_some, Option.bind_some]
    exact key s

theorem vmfleetlaw10_NicReceives.pure (x : (tup vmfleetlaw10_NicReceives.sp.args).den) (h : WfL vmfleetlaw10_NicReceives.sp.args x) : vmfleetlaw10_NicReceives.sp.f x = some true :=
  nicReceives x.1 x.2.1 x.2.2.1 x.2.2.2.1 x.2.2.2.2.1 x.2.2.2.2.2 ⟨h.1.1.1, h.1.1.2, h.1.2.1.1, h.1.2.2.2.1.1, h.1.2.2.2.1.2⟩

end Go.Proofs.Yteiepkkkphkncaa.Fn
