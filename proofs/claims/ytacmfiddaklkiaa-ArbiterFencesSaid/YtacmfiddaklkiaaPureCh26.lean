/- The arbiter's functions (chapter 26), in plain Lean: what each computes. -/
import Derived.Test.YtacmfiddaklkiaaFns
set_option linter.unusedVariables false
set_option linter.unusedSimpArgs false
namespace Go.Proofs.Ytacmfiddaklkiaa.Fn
open Go Lift

abbrev Sto := List ByteArray × Int × Int
abbrev Cmd := Int × Int × Int × ByteArray
abbrev Evn := Int × Int × ByteArray

def bytesB (b : ByteArray) : Bool := decide ((b.size : Int) = 128)
def validS (s : Sto) : Bool := decide (1 ≤ s.1.length) && (decide (s.1.length ≤ 64) && (decide (s.2.1 ≤ 4611686018427387904) && (s.1.all bytesB && (if s.2.1 = 0 then decide (s.2.2 = -1) else decide (0 ≤ s.2.2)))))

theorem clone_eq (s : List ByteArray) (h : s.length ≤ 1000000) : slices_Clone_string_string.f s = some s := by
  unfold slices_Clone_string_string.f
  have h1 : (([] : List ByteArray).length + s.length) * 16 ≤ 70368744177664 := by simp; omega
  rw [if_pos h1, List.nil_append]
  cases s with
  | nil => simp [both]
  | cons x l => simp

theorem round_ok (n k : Int) (hk : 0 < k) (hk2 : k < 9223372036854775807) : ∃ r, vmfleetmake_Round.f n k = some r ∧ 0 ≤ r ∧ r < k := by
  unfold vmfleetmake_Round.f
  have h0 : ¬ k = 0 := by omega
  simp only [h0, if_false]
  have h1 := Int.tmod_lt_of_pos n hk
  have h2 : -k < Int.tmod n k := by have := Int.lt_tmod_of_pos n hk; omega
  by_cases h : Int.tmod n k < 0
  · simp only [h, decide_true, cond_true, Option.some.injEq, exists_eq_left']
    rw [wrap_i64 (by omega) (by omega)]
    omega
  · simp only [h, decide_false, cond_false, Option.some.injEq, exists_eq_left']
    omega

theorem mix_ok (n k : Int) : ∃ r, vmfleetmake_Mix.f n k = some r := by
  unfold vmfleetmake_Mix.f vmfleetref1_Next.f
  exact ⟨_, rfl⟩

theorem data_ok (n : Int) (k : Nat) (hk : k ≤ 1000000) : ∃ s, vmfleetmake_Data.f n k = some s ∧ s.size = k := by
  unfold vmfleetmake_Data.f
  have hl : ∃ y : List Int ⊕ ByteArray, loop (Y := List Int ⊕ ByteArray) (fun (x1 : List Int × Int) =>
      bif decide (x1.2 < (k : Int)) then
        (vmfleetmake_Mix.f n (IntKind.wrap .i64 (Int.tdiv x1.2 (9 : Int)))).bind fun r1 =>
        if (x1.1.length + ([IntKind.wrap .u8 r1] : List Int).length) * 1 ≤ 70368744177664 then
          some (.inl ((x1.1 ++ ([IntKind.wrap .u8 r1] : List Int)), IntKind.wrap .i64 (x1.2 + 1)))
        else none
      else
        some (.inr (.inl x1.1))) ([], (0 : Int)) = some y ∧ ∃ l, y = .inl l ∧ l.length = k := by
    refine loop_ind (I := fun x => 0 ≤ x.2 ∧ x.2 ≤ (k : Int) ∧ (x.1.length : Int) = x.2) (fun x => ((k : Int) - x.2).toNat) ⟨by decide, by simp, by simp⟩ fun x hI => ?_
    obtain ⟨l, i⟩ := x
    obtain ⟨i1, i2, i3⟩ := hI
    simp only at i1 i2 i3 ⊢
    by_cases hi : i < k
    · left
      obtain ⟨r, hr⟩ := mix_ok n (IntKind.wrap .i64 (Int.tdiv i 9))
      have hs : (l.length + ([IntKind.wrap .u8 r] : List Int).length) * 1 ≤ 70368744177664 := by simp; omega
      simp only [hi, decide_true, cond_true, hr, Option.bind_some, hs, if_true]
      rw [wrap_i64 (by omega) (by omega)]
      exact ⟨_, rfl, ⟨by simp only; omega, by simp only; omega, by simp; omega⟩, by simp only; omega⟩
    · right
      exact ⟨.inl l, by simp only [hi, decide_false, cond_false], l, rfl, by omega⟩
  obtain ⟨y, hy, l, rfl, hlen⟩ := hl
  rw [hy]
  exact ⟨strOf l, rfl, by rw [strOf_size]; exact hlen⟩

theorem blocks_ok (n : Int) : ∃ bs, vmfleetplan_Blocks.f n = some bs ∧ bs.length = 4 ∧ bs.all bytesB = true := by
  unfold vmfleetplan_Blocks.f
  have hl : ∃ y : List ByteArray ⊕ List ByteArray, loop (Y := List ByteArray ⊕ List ByteArray) (fun (x1 : List ByteArray × Int) =>
      bif decide (x1.2 < 4) then
        (vmfleetmake_Data.f (IntKind.wrap .i64 (n + x1.2)) (128 : Int)).bind fun r1 =>
        if (x1.1.length + ([r1] : List ByteArray).length) * 16 ≤ 70368744177664 then
          some (.inl (x1.1 ++ ([r1] : List ByteArray), IntKind.wrap .i64 (x1.2 + 1)))
        else none
      else
        some (.inr (.inl x1.1))) ([], (0 : Int)) = some y ∧ ∃ l, y = .inl l ∧ l.length = 4 ∧ l.all bytesB = true := by
    refine loop_ind (I := fun x => 0 ≤ x.2 ∧ x.2 ≤ 4 ∧ (x.1.length : Int) = x.2 ∧ x.1.all bytesB = true) (fun x => (4 - x.2).toNat) ⟨by decide, by decide, by decide, by decide⟩ fun x hI => ?_
    obtain ⟨l, i⟩ := x
    obtain ⟨i1, i2, i3, i4⟩ := hI
    simp only at i1 i2 i3 i4 ⊢
    by_cases hi : i < 4
    · left
      obtain ⟨r, hr, hr2⟩ := data_ok (IntKind.wrap .i64 (n + i)) 128 (by decide)
      have hr : vmfleetmake_Data.f (IntKind.wrap .i64 (n + i)) (128 : Int) = some r := hr
      have hs : (l.length + ([r] : List ByteArray).length) * 16 ≤ 70368744177664 := by simp; omega
      simp only [hi, decide_true, cond_true, hr, Option.bind_some, hs, if_true]
      rw [wrap_i64 (by omega) (by omega)]
      refine ⟨_, rfl, ⟨by simp only; omega, by simp only; omega, by simp; omega, ?_⟩, by simp only; omega⟩
      simp only [List.all_append, i4, List.all_cons, List.all_nil, bytesB, hr2]
      decide
    · right
      exact ⟨.inl l, by simp only [hi, decide_false, cond_false], l, rfl, by omega, i4⟩
  obtain ⟨y, hy, l, rfl, hlen, hall⟩ := hl
  rw [hy]
  exact ⟨l, rfl, hlen, hall⟩

theorem valid_eqA (s : Sto) (hl : s.1.length ≤ 1000000) : arbiter_Valid.f s = some (validS s) := by
  unfold arbiter_Valid.f validS
  by_cases h1 : 1 ≤ s.1.length
  · by_cases h2 : s.1.length ≤ 64
    · by_cases h3 : s.2.1 ≤ 4611686018427387904
      · have g1 : ¬ (s.1.length : Int) < 1 := by omega
        have g2 : ¬ (s.1.length : Int) > 64 := by omega
        have g3 : ¬ s.2.1 > 4611686018427387904 := by omega
        simp only [h1, h2, h3, g1, g2, g3, decide_true, decide_false, cond_false, Bool.true_and]
        rw [loop_all s.1 bytesB (.inr false) (.inl ()) ?h1 ?h2]
        · cases hb : s.1.all bytesB with
          | false => simp
          | true =>
            simp only [if_true, Option.bind_some, Bool.true_and]
            by_cases h0 : s.2.1 = 0
            · simp [h0]
            · simp [h0]
        case h1 =>
          intro i x hx
          have hi := idx_lt hx
          have hb : 0 ≤ (i : Int) ∧ (i : Int) < s.1.length := ⟨by omega, hi⟩
          simp only [hi, decide_true, cond_true, hb, and_self, if_true, nth_some hx]
          rw [wrap_i64 (n := (i : Int) + 1) (by omega) (by omega)]
          unfold bytesB
          cases decide ((x.size : Int) = 128) <;> simp
        case h2 => simp
      · have g1 : ¬ (s.1.length : Int) < 1 := by omega
        have g2 : ¬ (s.1.length : Int) > 64 := by omega
        have g3 : s.2.1 > 4611686018427387904 := by omega
        simp [h3, g1, g2, g3]
    · have g1 : ¬ (s.1.length : Int) < 1 := by omega
      have g2 : (s.1.length : Int) > 64 := by omega
      simp [h2, g1, g2]
  · have g1 : (s.1.length : Int) < 1 := by omega
    simp [h1, g1]

theorem valid_eqR (s : Sto) (hl : s.1.length ≤ 1000000) (hg : 0 ≤ s.2.1) : vmfleetref24_ValidStore.f s = some (validS s) := by
  unfold vmfleetref24_ValidStore.f validS
  have hloop : loop (Y := Unit ⊕ Bool) (fun (x2 : Int) =>
      bif decide (x2 < (s.1.length : Int)) then
        if 0 ≤ x2 ∧ x2 < (s.1.length : Int) then
          bif !decide (((nth (⟨#[]⟩ : ByteArray) s.1 x2).size : Int) = 128) then
            some (.inr (.inr false))
          else
            some (.inl (IntKind.wrap .i64 (x2 + 1)))
        else none
      else
        some (.inr (.inl ()))) (0 : Int) = some (if s.1.all bytesB = true then .inl () else .inr false) := by
    rw [loop_all s.1 bytesB (.inr false) (.inl ()) ?h1 ?h2]
    case h1 =>
      intro i x hx
      have hi := idx_lt hx
      have hb : 0 ≤ (i : Int) ∧ (i : Int) < s.1.length := ⟨by omega, hi⟩
      simp only [hi, decide_true, cond_true, hb, and_self, if_true, nth_some hx]
      rw [wrap_i64 (n := (i : Int) + 1) (by omega) (by omega)]
      unfold bytesB
      cases decide ((x.size : Int) = 128) <;> simp
    case h2 => simp
  rw [hloop]
  by_cases h1 : 1 ≤ s.1.length
  · by_cases h2 : s.1.length ≤ 64
    · by_cases h3 : s.2.1 ≤ 4611686018427387904
      · have g1 : ¬ (s.1.length : Int) < 1 := by omega
        have g2 : ¬ (s.1.length : Int) > 64 := by omega
        have g3 : ¬ s.2.1 > 4611686018427387904 := by omega
        simp only [h1, h2, h3, g1, g2, g3, decide_true, decide_false, cond_false, Bool.true_and]
        by_cases h0 : s.2.1 = 0
        · have h0' : ¬ s.2.1 > 0 := by omega
          by_cases h4 : s.2.2 = -1
          · cases s.1.all bytesB <;> simp [h0, h4]
          · cases s.1.all bytesB <;> simp [h0, h4]
        · have h0' : s.2.1 > 0 := by omega
          by_cases h4 : s.2.2 < 0
          · have : ¬ 0 ≤ s.2.2 := by omega
            cases s.1.all bytesB <;> simp [h0, h0', h4, this]
          · have : 0 ≤ s.2.2 := by omega
            cases s.1.all bytesB <;> simp [h0, h0', h4, this]
      · have g1 : ¬ (s.1.length : Int) < 1 := by omega
        have g2 : ¬ (s.1.length : Int) > 64 := by omega
        have g3 : s.2.1 > 4611686018427387904 := by omega
        simp [h3, g1, g2, g3]
    · have g1 : ¬ (s.1.length : Int) < 1 := by omega
      have g2 : (s.1.length : Int) > 64 := by omega
      simp [h2, g1, g2]
  · have g1 : (s.1.length : Int) < 1 := by omega
    simp [h1, g1]

def newOf (b : List ByteArray) : Sto × Bool := if validS (b, 0, -1) = true then ((b, 0, -1), true) else (([], 0, 0), false)
def claimOf (s : Sto) (host seen : Int) : Sto × Bool := if validS s = true ∧ 0 ≤ host ∧ s.2.1 = seen ∧ seen < 4611686018427387904 then ((s.1, s.2.1 + 1, host), true) else (s, false)
def execOf (s : Sto) (g : Int) (o : Cmd) : Sto × Evn × Bool :=
  if validS s = true ∧ g ≠ 0 ∧ g = s.2.1 ∧ (o.1 = 3 ∨ o.1 = 4) then
    if o.2.2.1 ≥ s.1.length then (s, (4, 0, ⟨#[]⟩), true)
    else if o.1 = 4 then
      if (o.2.2.2.size : Int) = 128 then ((put s.1 o.2.2.1 o.2.2.2, s.2), (4, 1, ⟨#[]⟩), true) else (s, (4, 0, ⟨#[]⟩), true)
    else (s, (4, 1, nth ⟨#[]⟩ s.1 o.2.2.1), true)
  else (s, (0, 0, ⟨#[]⟩), false)

theorem new_eqA (b : List ByteArray) (hl : b.length ≤ 1000000) : arbiter_New.f b = some (newOf b) := by
  unfold arbiter_New.f newOf
  rw [clone_eq b hl]
  simp only [Option.bind_some]
  rw [valid_eqA _ hl]
  cases validS (b, 0, -1) <;> simp

theorem new_eqR (b : List ByteArray) (hl : b.length ≤ 1000000) : vmfleetref24_NewStore.f b = some (newOf b) := by
  unfold vmfleetref24_NewStore.f newOf
  have h1 : (([] : List ByteArray).length + b.length) * 16 ≤ 70368744177664 := by simp; omega
  rw [if_pos h1, List.nil_append, valid_eqR _ hl (Int.le_refl 0)]
  cases validS (b, 0, -1) <;> simp

theorem copy_eq (s : Sto) (hl : s.1.length ≤ 1000000) : copies_Store.f s = some s := by
  unfold copies_Store.f
  rw [clone_eq _ hl]
  rfl

theorem claim_eqA (s : Sto) (host seen : Int) (hl : s.1.length ≤ 1000000) (hg : 0 ≤ seen) : arbiter_Claim.f s host seen = some (claimOf s host seen) := by
  unfold arbiter_Claim.f claimOf
  rw [copy_eq s hl]
  simp only [Option.bind_some]
  rw [valid_eqA s hl]
  cases validS s with
  | false => simp
  | true =>
    simp only [Option.bind_some, Bool.not_true, cond_false, true_and]
    by_cases h1 : host < 0
    · have : ¬ 0 ≤ host := by omega
      simp [h1, this]
    · have g1 : 0 ≤ host := by omega
      by_cases h2 : s.2.1 = seen
      · by_cases h3 : seen ≥ 4611686018427387904
        · have : ¬ seen < 4611686018427387904 := by omega
          simp [h1, h2, h3, this]
        · have g3 : seen < 4611686018427387904 := by omega
          simp only [h1, h2, h3, g1, g3, decide_true, decide_false, Bool.not_true, cond_false, and_self, if_true]
          rw [wrap_u64 (by omega) (by omega)]
      · simp [h1, h2]

theorem claim_eqR (s : Sto) (host seen : Int) (hl : s.1.length ≤ 1000000) (hg : 0 ≤ s.2.1) : vmfleetref24_Claim.f s host seen = some (claimOf s host seen) := by
  unfold vmfleetref24_Claim.f claimOf
  rw [valid_eqR s hl hg]
  cases validS s with
  | false => simp
  | true =>
    simp only [Option.bind_some, Bool.not_true, cond_false, true_and]
    by_cases h1 : host < 0
    · have : ¬ 0 ≤ host := by omega
      simp [h1, this]
    · have g1 : 0 ≤ host := by omega
      by_cases h2 : s.2.1 = seen
      · by_cases h3 : seen ≥ 4611686018427387904
        · have : ¬ seen < 4611686018427387904 := by omega
          simp [h1, h2, h3, this]
        · have g3 : seen < 4611686018427387904 := by omega
          simp only [h1, h2, h3, g1, g3, decide_true, decide_false, Bool.not_true, cond_false, and_self, if_true]
          rw [wrap_u64 (by omega) (by omega)]
      · simp [h1, h2]

theorem exec_eqA (s : Sto) (g : Int) (o : Cmd) (hl : s.1.length ≤ 1000000) (ho : 0 ≤ o.2.2.1) (ho2 : o.2.2.1 ≤ 4294967295) : arbiter_Execute.f s g o = some (execOf s g o) := by
  unfold arbiter_Execute.f execOf
  rw [copy_eq s hl]
  simp only [Option.bind_some]
  rw [valid_eqA s hl]
  cases hv : validS s with
  | false => simp
  | true =>
    simp only [Option.bind_some, Bool.not_true, cond_false, true_and]
    by_cases h1 : g = 0
    · simp [h1]
    · by_cases h2 : g = s.2.1
      · simp only [h1, ← h2, decide_false, decide_true, cond_false, Bool.not_true, ne_eq, not_false_eq_true, true_and]
        rw [wrap_u64 (by omega) (by omega), wrap_u64 (by omega) (by omega)]
        by_cases h5 : o.2.2.1 ≥ (s.1.length : Int)
        · by_cases h3 : o.1 = 3
          · simp [h3, h5]
          · by_cases h4 : o.1 = 4
            · simp [h4, h5]
            · simp [h3, h4]
        · have hb : 0 ≤ o.2.2.1 ∧ o.2.2.1 < (s.1.length : Int) := ⟨ho, by omega⟩
          by_cases h3 : o.1 = 3
          · have e : ¬ (3 : Int) = 4 := by decide
            simp [h3, h5, hb]
          · by_cases h4 : o.1 = 4
            · by_cases h6 : (o.2.2.2.size : Int) = 128
              · simp [h4, h5, hb, h6]
              · simp [h4, h5, h6]
            · simp [h3, h4]
      · simp [h1, h2]

theorem exec_eqR (s : Sto) (g : Int) (o : Cmd) (hl : s.1.length ≤ 1000000) (hg : 0 ≤ s.2.1) (ho : 0 ≤ o.2.2.1) (ho2 : o.2.2.1 ≤ 4294967295) : vmfleetref24_Execute.f s g o = some (execOf s g o) := by
  unfold vmfleetref24_Execute.f execOf
  rw [valid_eqR s hl hg]
  cases hv : validS s with
  | false => simp
  | true =>
    simp only [Option.bind_some, Bool.not_true, cond_false, true_and]
    by_cases h1 : g = 0
    · simp [h1]
    · by_cases h2 : g = s.2.1
      · simp only [h1, ← h2, decide_false, decide_true, cond_false, Bool.not_true, ne_eq, not_false_eq_true, true_and]
        rw [wrap_u32 (n := (s.1.length : Int)) (by omega) (by omega), wrap_i64 (n := o.2.2.1) (by omega) (by omega)]
        have hsz : (([] : List ByteArray).length + s.1.length) * 16 ≤ 70368744177664 := by simp; omega
        by_cases h5 : o.2.2.1 ≥ (s.1.length : Int)
        · by_cases h3 : o.1 = 3
          · simp [h3, h5]
          · by_cases h4 : o.1 = 4
            · simp [h4, h5]
            · simp [h3, h4]
        · have hb : 0 ≤ o.2.2.1 ∧ o.2.2.1 < (s.1.length : Int) := ⟨ho, by omega⟩
          by_cases h3 : o.1 = 3
          · simp [h3, h5, hb]
          · by_cases h4 : o.1 = 4
            · by_cases h6 : (o.2.2.2.size : Int) = 128
              · rw [if_pos hsz]
                simp [h4, h5, hb, h6]
              · simp [h4, h5, h6]
            · simp [h3, h4]
      · simp [h1, h2]

theorem sameStrings_refl (a : List ByteArray) (hl : a.length ≤ 1000000) : vmfleetref1_SameStrings.f a a = some true := by
  unfold vmfleetref1_SameStrings.f
  simp only [decide_true, Bool.not_true, cond_false]
  rw [loop_all a (fun _ => true) (.inr false) (.inl ()) ?h1 ?h2]
  · simp
  case h1 =>
    intro i x hx
    have hi := idx_lt hx
    have hb : 0 ≤ (i : Int) ∧ (i : Int) < a.length := ⟨by omega, hi⟩
    simp only [hi, decide_true, cond_true, hb, and_self, if_true, Bool.not_true, cond_false]
    rw [wrap_i64 (n := (i : Int) + 1) (by omega) (by omega)]
  case h2 => simp

theorem sameStore_refl (a : Sto) (hl : a.1.length ≤ 1000000) : vmfleetref24_SameStore.f a a = some true := by
  unfold vmfleetref24_SameStore.f
  rw [sameStrings_refl _ hl]
  simp

theorem put_all {l : List ByteArray} {i : Int} {x : ByteArray} (h : l.all bytesB = true) (hx : bytesB x = true) : (put l i x).all bytesB = true := by
  rw [List.all_eq_true] at h ⊢
  intro y hy
  rcases List.mem_or_eq_of_mem_set hy with hy | rfl
  · exact h y hy
  · exact hx

/-- A store made of blocks, in the hands of a host. -/
theorem valid_mk {b : List ByteArray} (h1 : b.length = 4) (h2 : b.all bytesB = true) {g h : Int} (hg : g ≤ 4611686018427387904) (hh : if g = 0 then h = -1 else 0 ≤ h) : validS (b, g, h) = true := by
  unfold validS
  simp only [h1, h2, hg, Bool.and_eq_true, decide_eq_true_eq, and_true, true_and]
  refine ⟨by decide, by decide, ?_⟩
  split at hh
  · rename_i h0; simp [h0, hh]
  · rename_i h0; simp [h0, hh]

theorem arbiter_awake : vmfleetlaw26_awake.f = some true := by
  unfold vmfleetlaw26_awake.f
  obtain ⟨bs, e1, h1, h2⟩ := blocks_ok 1
  have v0 : validS (bs, 0, -1) = true := valid_mk h1 h2 (by decide) (by decide)
  have v1 : validS (bs, 1, 0) = true := valid_mk h1 h2 (by decide) (by decide)
  have hn : newOf bs = ((bs, 0, -1), true) := by simp [newOf, v0]
  have c1 : claimOf (bs, 0, -1) 0 0 = ((bs, 1, 0), true) := by simp [claimOf, v0]
  have c2 : claimOf (bs, 1, 0) 1 0 = ((bs, 1, 0), false) := by simp [claimOf]
  have x1 : execOf (bs, 1, 0) 1 (3, 0, 2, ⟨#[]⟩) = ((bs, 1, 0), (4, 1, nth ⟨#[]⟩ bs 2), true) := by simp [execOf, v1, h1]
  have x2 : execOf (bs, 1, 0) 0 (3, 0, 2, ⟨#[]⟩) = ((bs, 1, 0), (0, 0, ⟨#[]⟩), false) := by simp [execOf]
  have hlen : bs.length ≤ 1000000 := by omega
  rw [e1]
  simp only [Option.bind_some]
  rw [new_eqA _ hlen, hn]
  simp only [Option.bind_some, Bool.not_true, cond_false, h1]
  rw [claim_eqA _ _ _ hlen (by decide), c1]
  simp only [Option.bind_some]
  rw [claim_eqA _ _ _ hlen (by decide), c2, exec_eqA _ _ _ hlen (by decide) (by decide), x1, exec_eqA _ _ _ hlen (by decide) (by decide), x2]
  simp [h1]

end Go.Proofs.Ytacmfiddaklkiaa.Fn
