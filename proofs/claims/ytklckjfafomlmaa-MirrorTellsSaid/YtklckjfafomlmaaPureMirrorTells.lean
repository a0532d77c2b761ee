/- The law MirrorTells, in plain Lean: at every input its function is true. -/
import Derived.Test.YtklckjfafomlmaaPureCh32
set_option linter.unusedVariables false
set_option linter.unusedSimpArgs false
namespace Go.Proofs.Ytklckjfafomlmaa.Fn
open Go Lift

theorem light_iff (l : List ByteArray) : ∃ b, vmfleetlaw32_light.f l = some b ∧ (b = true → l.length ≤ 100) := by
  unfold vmfleetlaw32_light.f
  have key := loop_ind (step := (fun (x1 : Int) =>
    bif decide (x1 < (l.length : Int)) then
      bif decide (x1 < 200) then
        if 0 ≤ x1 ∧ x1 < (l.length : Int) then
          bif decide (((nth (⟨#[]⟩ : ByteArray) l x1).size : Int) > 300) then
            some (.inr (.inr false))
          else
            some (.inl (IntKind.wrap .i64 (x1 + 1)))
        else none
      else
        some (.inr (.inl ()))
    else
      some (.inr (.inl ())))) (I := fun x : Int => 0 ≤ x ∧ x ≤ l.length) (Q := fun y : Unit ⊕ Bool => y = .inl () ∨ y = .inr false) (fun x => ((l.length : Int) - x).toNat) (x := (0 : Int)) ⟨Int.le_refl 0, by omega⟩ (fun x hI => by
      obtain ⟨i1, i2⟩ := hI
      by_cases hx : x < (l.length : Int)
      · rw [decide_eq_true hx, cond_true]
        by_cases c1 : x < 200
        · rw [decide_eq_true c1, cond_true, if_pos ⟨i1, hx⟩]
          by_cases c2 : ((nth (⟨#[]⟩ : ByteArray) l x).size : Int) > 300
          · right; rw [decide_eq_true c2]; exact ⟨_, rfl, .inr rfl⟩
          · left
            rw [decide_eq_false c2, cond_false, wrap_i64 (by omega) (by omega)]
            exact ⟨_, rfl, ⟨by omega, by omega⟩, by omega⟩
        · right; rw [decide_eq_false c1]; exact ⟨_, rfl, .inl rfl⟩
      · right; rw [decide_eq_false hx]; exact ⟨_, rfl, .inl rfl⟩)
  obtain ⟨y, h1, h2⟩ := key
  rcases h2 with rfl | rfl
  · refine ⟨decide ((l.length : Int) ≤ 100), bind32 h1 rfl, fun hh => ?_⟩
    have := of_decide_eq_true hh
    omega
  · exact ⟨false, bind32 h1 rfl, fun hh => (by cases hh)⟩

theorem not_valid {m : Mir} (h1 : m.1.length ≤ 1000000) (h : ¬ MOk m) : mirror_Valid.f m = some false ∧ vmfleetref30_ValidMirror.f m = some false := by
  obtain ⟨b, e1, e2, i⟩ := valid_both m h1
  cases b with
  | true => exact absurd (i.1 rfl) h
  | false => exact ⟨e1, e2⟩

theorem mirrorTells (m : Mir) (n block : Int) (data : ByteArray) (hn : n ≤ 9223372036854775807) : vmfleetlaw32_MirrorTells.f m n block data = some true := by
  unfold vmfleetlaw32_MirrorTells.f
  rw [vmfleetlaw32_awake.ok]
  obtain ⟨b1, e1, i1⟩ := light_iff m.1
  obtain ⟨b2, e2, i2⟩ := light_iff m.2.1
  rw [e1, Option.bind_some]
  cases b1 with
  | false => rfl
  | true =>
  rw [Bool.not_true, cond_false, e2, Option.bind_some]
  cases b2 with
  | false => rfl
  | true =>
  have l1 := i1 rfl
  have l2 := i2 rfl
  rw [Bool.not_true, cond_false]
  by_cases c0 : (data.size : Int) > 300
  · rw [decide_eq_true c0]; rfl
  rw [decide_eq_false c0, cond_false]
  -- beginning
  have hbegin : ∃ r : Mir × Bool, mirror_Begin.f m.1 = some r ∧ vmfleetref30_BeginMirror.f m.1 = some r ∧ r.1.1.length ≤ 1000 ∧ r.1.2.1.length ≤ 1000 := by
    by_cases hb : Blk m.1
    · refine ⟨_, (begin_iff m.1).1 hb, (beginR_iff m.1 (by omega)).1 hb, ?_, ?_⟩
      · unfold beginC; dsimp only; omega
      · unfold beginC; dsimp only; rw [List.length_replicate]; omega
    · exact ⟨_, (begin_iff m.1).2 hb, (beginR_iff m.1 (by omega)).2 hb, by simp, by simp⟩
  obtain ⟨r6, b1, b2, b3, b4⟩ := hbegin
  rw [b1, Option.bind_some, b2, Option.bind_some]
  by_cases h : MOk m
  · obtain ⟨r8, w1, w2, w3⟩ := write_both h block data
    have hw : r8.1.1.length ≤ 1000 ∧ r8.1.2.1.length ≤ 1000 := by
      rw [w3]
      by_cases c : 0 ≤ block ∧ block < (m.1.length : Int) ∧ data.size = 128
      · rw [if_pos c]
        have := writeC_ok h c.1 c.2.1 c.2.2
        have q1 := this.s1.2.1
        have q2 := this.s2.2.1
        dsimp only
        omega
      · rw [if_neg c]; dsimp only; omega
    have hc := copyC_ok h n
    have q1 := hc.s1.2.1
    have q2 := hc.s2.2.1
    rw [w1, Option.bind_some, w2, Option.bind_some, switch_eq h, Option.bind_some, (done_true h).2, Option.bind_some]
    refine bind32 (a := Sum.inl (if m.2.2 = (m.1.length : Int) then m.2.1 else [])) ?_ ?_
    · by_cases c : m.2.2 = (m.1.length : Int)
      · rw [decide_eq_true c, if_pos c]; rfl
      · rw [decide_eq_false c, if_neg c]; rfl
    dsimp only
    rw [(valid_true h).1, Option.bind_some, (valid_true h).2, Option.bind_some, beq_self_eq_true, cond_true, sameMirror_self _ (by omega) (by omega), Option.bind_some, cond_true, beq_self_eq_true, cond_true]
    rw [copy_eq h n hn, Option.bind_some, copyR_eq h n hn, Option.bind_some, sameMirror_self _ (by omega) (by omega), Option.bind_some, cond_true]
    rw [sameMirror_self _ (by omega) (by omega), Option.bind_some, cond_true, beq_self_eq_true, cond_true, (done_true h).1, Option.bind_some, beq_self_eq_true, cond_true]
    by_cases c : m.2.2 = (m.1.length : Int)
    · rw [if_pos c, if_pos c, decide_eq_true c]
      dsimp only
      rw [beq_self_eq_true, cond_true, same_self _ (by omega)]
      rfl
    · rw [if_neg c, if_neg c, decide_eq_false c]
      dsimp only
      rw [beq_self_eq_true, cond_true, same_self _ (by simp)]
      rfl
  · obtain ⟨v1, v2⟩ := not_valid (by omega) h
    have w1 : mirror_Write.f m block data = some (m, false) := by
      unfold mirror_Write.f
      rw [copied_eq m (by omega) (by omega), Option.bind_some, v1]; rfl
    have w2 : vmfleetref30_WriteBlock.f m block data = some (m, false) := by
      unfold vmfleetref30_WriteBlock.f
      rw [v2]; rfl
    have d1 : mirror_Done.f m = some false := by unfold mirror_Done.f; rw [v1]; rfl
    have d2 : vmfleetref30_DoneMirror.f m = some false := by unfold vmfleetref30_DoneMirror.f; rw [v2]; rfl
    have s1 : mirror_Switch.f m = some ([], false) := by unfold mirror_Switch.f; rw [d1]; rfl
    have c1 : mirror_Copy.f m n = some m := by
      unfold mirror_Copy.f
      rw [copied_eq m (by omega) (by omega), Option.bind_some, v1]; rfl
    have c2 : vmfleetref30_CopyBlocks.f m n = some m := by unfold vmfleetref30_CopyBlocks.f; rw [v2]; rfl
    rw [w1, Option.bind_some, w2, Option.bind_some, s1, Option.bind_some, d2, Option.bind_some, Bool.not_false, cond_true, Option.bind_some]
    dsimp only
    rw [v1, Option.bind_some, v2, Option.bind_some, beq_self_eq_true, cond_true, sameMirror_self _ (by omega) (by omega), Option.bind_some, cond_true, beq_self_eq_true, cond_true]
    rw [c1, Option.bind_some, c2, Option.bind_some]
    simp only [sameMirror_self m (by omega) (by omega), Option.bind_some, cond_true, beq_self_eq_true, d1, same_self [] (by simp)]

theorem vmfleetlaw32_MirrorTells.pure (x : (tup vmfleetlaw32_MirrorTells.sp.args).den) (h : WfL vmfleetlaw32_MirrorTells.sp.args x) : vmfleetlaw32_MirrorTells.sp.f x = some true :=
  mirrorTells x.1 x.2.1 x.2.2.1 x.2.2.2 h.2.1.2

end Go.Proofs.Ytklckjfafomlmaa.Fn
