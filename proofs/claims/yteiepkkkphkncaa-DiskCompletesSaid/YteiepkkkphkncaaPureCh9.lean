/- The disk controller's functions (chapter 9), in plain Lean: what each computes. -/
import Derived.Test.YteiepkkkphkncaaPureMemPage
set_option linter.unusedVariables false
set_option linter.unusedSimpArgs false
namespace Go.Proofs.Yteiepkkkphkncaa.Fn
open Go Lift

abbrev Dsk := Int × Int × Int × Int × Int × Int × Int × ByteArray
abbrev OutD := Int × Int × Int × ByteArray

def DskOk (d : Dsk) : Prop := 0 ≤ d.2.2.1 ∧ d.2.2.1 ≤ 4294967295 ∧ 0 ≤ d.2.2.2.2.2.2.1 ∧ d.2.2.2.2.2.2.1 ≤ 4294967295

theorem words9_ok (n p : Int) : ∃ m k, vmfleetlaw9_words.f n p = some m ∧ 1 ≤ k ∧ k ≤ 6 ∧ m.length = 32 * k ∧ U32 m := by
  unfold vmfleetlaw9_words.f
  obtain ⟨r, er, h1, h2⟩ := round_ok p 6 (by decide) (by decide)
  obtain ⟨q, rfl⟩ := Int.eq_ofNat_of_zero_le h1
  have e1 : IntKind.wrap .i64 (1 + (q : Int)) = ((q + 1 : Nat) : Int) := by rw [wrap_i64 (by omega) (by omega)]; omega
  rw [er]
  simp only [Option.bind_some, e1]
  rw [new_eq (q + 1) (by omega) (by omega)]
  simp only [Option.bind_some]
  obtain ⟨m, hm, hl, hu⟩ := fill_ok n (List.replicate (32 * (q + 1)) 0) (zeros_u32 _) (by simp; omega)
  rw [hm]
  exact ⟨m, q + 1, rfl, by omega, by omega, by rw [hl]; simp, hu⟩

def reqOf (d : Dsk) (at_ : Int) : OutD × Bool :=
  if d.2.2.2.1 = 1 then
    if d.2.2.2.2.1 = 1 then ((3, at_, d.2.2.2.2.2.1, ⟨#[]⟩), true)
    else if d.2.2.2.2.1 = 2 then ((4, at_, d.2.2.2.2.2.1, d.2.2.2.2.2.2.2), true)
    else ((0, 0, 0, ⟨#[]⟩), false)
  else ((0, 0, 0, ⟨#[]⟩), false)

theorem req_eq (d : Dsk) (at_ : Int) : disk_Request.f d at_ = some (reqOf d at_) := by
  unfold disk_Request.f reqOf
  by_cases h1 : d.2.2.2.1 = 1
  · by_cases h2 : d.2.2.2.2.1 = 1
    · simp [h1, h2]
    · by_cases h3 : d.2.2.2.2.1 = 2
      · simp [h1, h3]
      · simp [h1, h2, h3]
  · simp [h1]

theorem reqR_eq (d : Dsk) (at_ : Int) : vmfleetref7_Request.f d at_ = some (reqOf d at_) := req_eq d at_

def withSt (d : Dsk) (s : Int) : Dsk := (d.1, d.2.1, d.2.2.1, s, d.2.2.2.2)
def issue (d : Dsk) (m : List Int) (v : Int) : Dsk := (d.1, d.2.1, d.2.2.1, 1, v, d.2.1, d.2.2.1, if v = 2 then pageOf m d.2.2.1.toNat else ⟨#[]⟩)

def dskOut (d : Dsk) (m : List Int) (k : Nat) (port v at_ : Int) : Dsk × List OutD :=
  if port = 4 then ((d.1, v, d.2.2), [])
  else if port = 5 then ((d.1, d.2.1, v, d.2.2.2), [])
  else if port = 6 then
    if v = 0 then (if d.2.2.2.1 = 2 ∨ d.2.2.2.1 = 3 then (withSt d 0, []) else (d, []))
    else if v = 1 ∨ v = 2 then
      if d.2.2.2.1 = 0 then
        if d.2.1 < d.1 ∧ d.2.2.1 < k then (issue d m v, [(reqOf (issue d m v) at_).1]) else (withSt d 3, [])
      else (d, [])
    else (d, [])
  else (d, [])

theorem dskOut_eqA {m : List Int} {k : Nat} (h : m.length = 32 * k) (hk : k ≤ 32) (d : Dsk) (hd : DskOk d) (port v at_ : Int) : disk_Out.f d m port v at_ = some (dskOut d m k port v at_) := by
  obtain ⟨h1, h2, _, _⟩ := hd
  unfold disk_Out.f dskOut disk_command.f disk_Pending.f
  obtain ⟨f, hf⟩ := Int.eq_ofNat_of_zero_le h1
  have e1 : IntKind.wrap .i64 d.2.2.1 = (f : Int) := by rw [wrap_i64 (by omega) (by omega), hf]
  have e2 : d.2.2.1.toNat = f := by omega
  have e3 : d.2.2.1 < (k : Int) ↔ f < k := by omega
  by_cases p4 : port = 4
  · simp [p4]
  · by_cases p5 : port = 5
    · simp [p5]
    · by_cases p6 : port = 6
      · simp only [p4, p5, p6, decide_false, cond_false, decide_true, cond_true, if_true, if_false]
        by_cases v0 : v = 0
        · by_cases s2 : d.2.2.2.1 = 2
          · simp [v0, s2, withSt]
          · by_cases s3 : d.2.2.2.1 = 3
            · simp [v0, s3, withSt]
            · simp [v0, s2, s3]
        · by_cases v1 : v = 1
          · have n2 : ¬ (1 : Int) = 2 := by decide
            by_cases s0 : d.2.2.2.1 = 0
            · by_cases hb : d.2.1 < d.1
              · have hb' : ¬ d.2.1 ≥ d.1 := by omega
                by_cases hfk : f < k
                · simp only [v1, s0, show ¬ (1 : Int) = 0 by decide, decide_true, decide_false, cond_true, cond_false, Option.bind_some, Bool.not_true, e1, hb, hb', e3, hfk, and_self, true_or, if_true, if_false, n2]
                  rw [page_eq h hk]
                  simp only [hfk, if_true, Option.bind_some, Bool.not_true, cond_false, req_eq]
                  have w1 : IntKind.wrap .i64 1 = 1 := by decide
                  rw [w1]
                  simp [issue]
                · have hfk' : ¬ d.2.2.1 < (k : Int) := fun hh => hfk (e3.1 hh)
                  simp only [v1, s0, show ¬ (1 : Int) = 0 by decide, decide_true, decide_false, cond_true, cond_false, Option.bind_some, Bool.not_true, e1, hb, hb', hfk', and_false, true_or, if_true, if_false, n2]
                  rw [page_eq h hk]
                  simp [hfk, withSt]
              · have hb' : d.2.1 ≥ d.1 := by omega
                simp only [v1, s0, show ¬ (1 : Int) = 0 by decide, decide_true, decide_false, cond_true, cond_false, Option.bind_some, Bool.not_true, e1, hb, hb', false_and, true_or, if_true, if_false]
                rw [page_eq h hk]
                simp [withSt]
            · simp [v1, s0]
          · by_cases v2 : v = 2
            · by_cases s0 : d.2.2.2.1 = 0
              · by_cases hb : d.2.1 < d.1
                · have hb' : ¬ d.2.1 ≥ d.1 := by omega
                  by_cases hfk : f < k
                  · simp only [v2, s0, show ¬ (2 : Int) = 0 by decide, show ¬ (2 : Int) = 1 by decide, decide_true, decide_false, cond_true, cond_false, Option.bind_some, Bool.not_true, e1, hb, hb', e3, hfk, and_self, or_true, if_true, if_false]
                    rw [page_eq h hk]
                    simp only [hfk, if_true, Option.bind_some, Bool.not_true, cond_false, req_eq]
                    have w1 : IntKind.wrap .i64 2 = 2 := by decide
                    rw [w1]
                    simp [issue, e2]
                  · have hfk' : ¬ d.2.2.1 < (k : Int) := fun hh => hfk (e3.1 hh)
                    simp only [v2, s0, show ¬ (2 : Int) = 0 by decide, show ¬ (2 : Int) = 1 by decide, decide_true, decide_false, cond_true, cond_false, Option.bind_some, Bool.not_true, e1, hb, hb', hfk', and_false, or_true, if_true, if_false]
                    rw [page_eq h hk]
                    simp [hfk, withSt]
                · have hb' : d.2.1 ≥ d.1 := by omega
                  simp only [v2, s0, show ¬ (2 : Int) = 0 by decide, show ¬ (2 : Int) = 1 by decide, decide_true, decide_false, cond_true, cond_false, Option.bind_some, Bool.not_true, e1, hb, hb', false_and, or_true, if_true, if_false]
                  rw [page_eq h hk]
                  simp [withSt]
              · simp [v2, s0]
            · simp [v0, v1, v2]
      · simp [p4, p5, p6]

theorem pageB9_eq {m : List Int} {k : Nat} (h : m.length = 32 * k) (hk : k ≤ 32) {x : Int} (h1 : 0 ≤ x) (h2 : x ≤ 4294967295) : vmfleetref7_page.f m x = some (decide (x < k)) := by
  unfold vmfleetref7_page.f
  rw [pagesR_eq h hk]
  simp only [Option.bind_some]
  rw [wrap_u64 (by omega) (by omega), wrap_u64 (by omega) (by omega)]

theorem dskOut_eqR {m : List Int} {k : Nat} (h : m.length = 32 * k) (hk : k ≤ 32) (d : Dsk) (hd : DskOk d) (port v at_ : Int) : vmfleetref7_DiskOut.f d m port v at_ = some (dskOut d m k port v at_) := by
  obtain ⟨h1, h2, _, _⟩ := hd
  unfold vmfleetref7_DiskOut.f dskOut
  rw [pageB9_eq h hk h1 h2]
  obtain ⟨f, hf⟩ := Int.eq_ofNat_of_zero_le h1
  have e1 : IntKind.wrap .i64 d.2.2.1 = (f : Int) := by rw [wrap_i64 (by omega) (by omega), hf]
  have e2 : d.2.2.1.toNat = f := by omega
  have e3 : d.2.2.1 < (k : Int) ↔ f < k := by omega
  by_cases p4 : port = 4
  · simp [p4]
  · by_cases p5 : port = 5
    · simp [p5]
    · by_cases p6 : port = 6
      · simp only [p4, p5, p6, decide_false, cond_false, decide_true, cond_true, if_true, if_false, Bool.not_true]
        by_cases v0 : v = 0
        · by_cases s2 : d.2.2.2.1 = 2
          · simp [v0, s2, withSt]
          · by_cases s3 : d.2.2.2.1 = 3
            · simp [v0, s3, withSt]
            · simp [v0, s2, s3]
        · by_cases v1 : v = 1
          · have n2 : ¬ (1 : Int) = 2 := by decide
            by_cases s0 : d.2.2.2.1 = 0
            · by_cases hb : d.2.1 < d.1
              · have hb' : ¬ d.2.1 ≥ d.1 := by omega
                by_cases hfk : f < k
                · have w1 : IntKind.wrap .i64 1 = 1 := by decide
                  simp [v1, s0, hb, hb', e3, hfk, issue, reqR_eq, w1]
                · have hfk' : ¬ d.2.2.1 < (k : Int) := fun hh => hfk (e3.1 hh)
                  simp [v1, s0, hb, hb', hfk', hfk, e3, withSt]
              · have hb' : d.2.1 ≥ d.1 := by omega
                simp [v1, s0, hb, hb', withSt]
            · simp [v1, s0]
          · by_cases v2 : v = 2
            · by_cases s0 : d.2.2.2.1 = 0
              · by_cases hb : d.2.1 < d.1
                · have hb' : ¬ d.2.1 ≥ d.1 := by omega
                  by_cases hfk : f < k
                  · have w1 : IntKind.wrap .i64 2 = 2 := by decide
                    have hp : vmfleetref1_Page.f m (f : Int) = some (pageOf m f, true) := by rw [pageR_eq h hk, if_pos hfk]
                    simp [v2, s0, hb, hb', e3, hfk, issue, reqR_eq, w1, e1, hp, e2]
                  · have hfk' : ¬ d.2.2.1 < (k : Int) := fun hh => hfk (e3.1 hh)
                    simp [v2, s0, hb, hb', hfk', hfk, e3, withSt]
                · have hb' : d.2.1 ≥ d.1 := by omega
                  simp [v2, s0, hb, hb', withSt]
              · simp [v2, s0]
            · simp [v0, v1, v2]
      · simp [p4, p5, p6]

theorem dskOut_len (d : Dsk) (m : List Int) (k : Nat) (port v at_ : Int) : (dskOut d m k port v at_).2.length ≤ 1000000 := by
  unfold dskOut
  repeat' split
  all_goals simp

theorem sameOutputs9 (a : List OutD) (hl : a.length ≤ 1000000) : vmfleetref7_SameOutputs.f a a = some true := by
  unfold vmfleetref7_SameOutputs.f
  simp only [decide_true, Bool.not_true, cond_false]
  rw [loop_all a (fun _ => true) (.inr false) (.inl ()) ?h1 ?h2]
  · simp
  case h1 =>
    intro i x hx
    have hi := idx_lt hx
    have hb : 0 ≤ (i : Int) ∧ (i : Int) < a.length := ⟨by omega, hi⟩
    simp only [hi, decide_true, cond_true, hb, and_self, if_true, Bool.not_true, cond_false]
    rw [wrap_i64 (n := (i : Int) + 1) (by omega) (by omega)]
  case h2 => simp

theorem data9_ok (n : Int) (k : Nat) (hk : k ≤ 1000000) : ∃ s, vmfleetmake_Data.f n k = some s ∧ s.size = k := by
  unfold vmfleetmake_Data.f
  have hl : ∃ y : List Int ⊕ ByteArray, loop (Y := List Int ⊕ ByteArray) (fun (x1 : List Int × Int) =>
      bif decide (x1.2 < (k : Int)) then
        (vmfleetmake_Mix.f n (IntKind.wrap .i64 (Int.tdiv x1.2 (9 : Int)))).bind fun r1 =>
        if (x1.1.length + ([IntKind.wrap .u8 r1] : List Int).length) * 1 ≤ 70368744177664 then
          some (.inl ((x1.1 ++ ([IntKind.wrap .u8 r1] : List Int)), IntKind.wrap .i64 (x1.2 + 1)))
        else none
      else
        some (.inr (.inl x1.1))) ([], (0 : Int)) = some y ∧ ∃ l, y = .inl l ∧ l.length = k := by
    refine loop_ind (I := fun x => 0 ≤ x.2 ∧ x.2 ≤ (k : Int) ∧ (x.1.length : Int) = x.2) (fun x => ((k : Int) - x.2).toNat) ⟨by decide, by simp, by simp⟩ fun x hI => ?_
    obtain ⟨l, i⟩ := x
    obtain ⟨i1, i2, i3⟩ := hI
    simp only at i1 i2 i3 ⊢
    by_cases hi : i < k
    · left
      obtain ⟨r, hr⟩ := mix_ok n (IntKind.wrap .i64 (Int.tdiv i 9))
      have hs : (l.length + ([IntKind.wrap .u8 r] : List Int).length) * 1 ≤ 70368744177664 := by simp; omega
      simp only [hi, decide_true, cond_true, hr, Option.bind_some, hs, if_true]
      rw [wrap_i64 (by omega) (by omega)]
      exact ⟨_, rfl, ⟨by simp only; omega, by simp only; omega, by simp; omega⟩, by simp only; omega⟩
    · right
      exact ⟨.inl l, by simp only [hi, decide_false, cond_false], l, rfl, by omega⟩
  obtain ⟨y, hy, l, rfl, hlen⟩ := hl
  rw [hy]
  exact ⟨strOf l, rfl, by rw [strOf_size]; exact hlen⟩

theorem zero_le_u32 : (0 : Int) ≤ 4294967295 := by decide

theorem shaped9_ok (d : Dsk) (raw : Bool) (n : Int) (hd : DskOk d) : ∃ r, vmfleetlaw9_shaped.f d raw n = some r ∧ DskOk r := by
  unfold vmfleetlaw9_shaped.f
  obtain ⟨r, hr⟩ := mix_ok n 11
  have a1 := wrap_u32_range (andI .i64 (shrI .i64 r 3) 7)
  have a2 := wrap_u32_range (andI .i64 (shrI .i64 r 11) 3)
  obtain ⟨s, es, _⟩ := data9_ok r 128 (by decide)
  have es : vmfleetmake_Data.f r (128 : Int) = some s := es
  cases raw with
  | true =>
    rw [cond_true]
    cases hs : decide ((d.2.2.2.2.2.2.2.size : Int) ≤ 300) with
    | true => exact ⟨d, rfl, hd⟩
    | false =>
      rw [cond_false, Option.bind_some]
      try dsimp only
      rw [hr, Option.bind_some]
      try dsimp only
      by_cases c1 : andI .i64 (shrI .i64 r (6 : Int)) (3 : Int) = 1
      · by_cases c2 : (IntKind.wrap .i64 (1 + andI .i64 (shrI .i64 r (8 : Int)) (1 : Int))) = 2
        · rw [c1, c2, decide_eq_true (rfl : (1 : Int) = 1), decide_eq_true (rfl : (2 : Int) = 2), cond_true, cond_true, es, Option.bind_some]
          exact ⟨_, rfl, a1.1, a1.2, a2.1, a2.2⟩
        · rw [c1, decide_eq_true (rfl : (1 : Int) = 1), decide_eq_false c2, cond_true, cond_false]
          exact ⟨_, rfl, a1.1, a1.2, a2.1, a2.2⟩
      · rw [decide_eq_false c1, cond_false]
        exact ⟨_, rfl, a1.1, a1.2, Int.le_refl 0, zero_le_u32⟩
  | false =>
    rw [cond_false, Option.bind_some]
    try dsimp only
    rw [hr, Option.bind_some]
    try dsimp only
    by_cases c1 : andI .i64 (shrI .i64 r (6 : Int)) (3 : Int) = 1
    · by_cases c2 : (IntKind.wrap .i64 (1 + andI .i64 (shrI .i64 r (8 : Int)) (1 : Int))) = 2
      · rw [c1, c2, decide_eq_true (rfl : (1 : Int) = 1), decide_eq_true (rfl : (2 : Int) = 2), cond_true, cond_true, es, Option.bind_some]
        exact ⟨_, rfl, a1.1, a1.2, a2.1, a2.2⟩
      · rw [c1, decide_eq_true (rfl : (1 : Int) = 1), decide_eq_false c2, cond_true, cond_false]
        exact ⟨_, rfl, a1.1, a1.2, a2.1, a2.2⟩
    · rw [decide_eq_false c1, cond_false]
      exact ⟨_, rfl, a1.1, a1.2, Int.le_refl 0, zero_le_u32⟩

end Go.Proofs.Yteiepkkkphkncaa.Fn
