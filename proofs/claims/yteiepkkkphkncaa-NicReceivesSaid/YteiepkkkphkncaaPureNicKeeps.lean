/- The law NicKeeps, in plain Lean: at every input its function is true. No condition but the arguments' ranges. -/
import Derived.Test.YteiepkkkphkncaaPureCh10
set_option linter.unusedVariables false
set_option linter.unusedSimpArgs false
namespace Go.Proofs.Yteiepkkkphkncaa.Fn
open Go Lift

theorem data_ok (n : Int) (k : Nat) (hk : k ≤ 1000000) : ∃ s, vmfleetmake_Data.f n k = some s ∧ s.size = k := by
  unfold vmfleetmake_Data.f
  have hl : ∃ y : List Int ⊕ ByteArray, loop (Y := List Int ⊕ ByteArray) (fun (x1 : List Int × Int) =>
      bif decide (x1.2 < (k : Int)) then
        (vmfleetmake_Mix.f n (IntKind.wrap .i64 (Int.tdiv x1.2 (9 : Int)))).bind fun r1 =>
        if (x1.1.length + ([IntKind.wrap .u8 r1] : List Int).length) * 1 ≤ 70368744177664 then
          some (.inl ((x1.1 ++ ([IntKind.wrap .u8 r1] : List Int)), IntKind.wrap .i64 (x1.2 + 1)))
        else none
      else
        some (.inr (.inl x1.1))) ([], (0 : Int)) = some y ∧ ∃ l, y = .inl l ∧ l.length = k := by
    refine loop_ind (I := fun x => 0 ≤ x.2 ∧ x.2 ≤ (k : Int) ∧ (x.1.length : Int) = x.2) (fun x => ((k : Int) - x.2).toNat) ⟨by decide, by simp, by simp⟩ fun x hI => ?_
    obtain ⟨l, i⟩ := x
    obtain ⟨i1, i2, i3⟩ := hI
    simp only at i1 i2 i3 ⊢
    by_cases hi : i < k
    · left
      obtain ⟨r, hr⟩ := mix_ok n (IntKind.wrap .i64 (Int.tdiv i 9))
      have hs : (l.length + ([IntKind.wrap .u8 r] : List Int).length) * 1 ≤ 70368744177664 := by simp; omega
      simp only [hi, decide_true, cond_true, hr, Option.bind_some, hs, if_true]
      rw [wrap_i64 (by omega) (by omega)]
      exact ⟨_, rfl, ⟨by simp only; omega, by simp only; omega, by simp; omega⟩, by simp only; omega⟩
    · right
      exact ⟨.inl l, by simp only [hi, decide_false, cond_false], l, rfl, by omega⟩
  obtain ⟨y, hy, l, rfl, hlen⟩ := hl
  rw [hy]
  exact ⟨strOf l, rfl, by rw [strOf_size]; exact hlen⟩

theorem nicOut_may {n : Nic} {k : Nat} (hn : NicOk n) (h : nicMay n k = true) (m : List Int) {port v at_ : Int} (hv : 0 ≤ v ∧ v ≤ 4294967295) : nicMay (nicOut n m k port v at_).1 k = true ∧ NicOk (nicOut n m k port v at_).1 := by
  obtain ⟨h1, h2, h3, h4, h5⟩ := hn
  unfold nicOut
  repeat' split
  · exact ⟨h, hv.1, hv.2, h3, h4, h5⟩
  · exact ⟨h, h1, h2, hv.1, h4, h5⟩
  · refine ⟨?_, h1, h2, h3, h4, h5⟩
    unfold nicMay at h ⊢
    cases hp : n.2.2.1 <;> simp_all
  · exact ⟨h, h1, h2, h3, h4, h5⟩
  · exact ⟨h, h1, h2, h3, h4, h5⟩
  · rename_i hc
    obtain ⟨c1, c2, c3⟩ := hc
    refine ⟨?_, h1, h2, h3, h1, h2⟩
    unfold nicMay at h ⊢
    simp_all
  · exact ⟨h, h1, h2, h3, h4, h5⟩
  · exact ⟨h, h1, h2, h3, h4, h5⟩
  · exact ⟨h, h1, h2, h3, h4, h5⟩

theorem nicReceive_may {n : Nic} {k : Nat} (hn : NicOk n) (h : nicMay n k = true) (m : List Int) (fr : ByteArray) : nicMay (nicReceive n m k fr).1 k = true ∧ NicOk (nicReceive n m k fr).1 ∧ (nicReceive n m k fr).2.1.length = m.length := by
  obtain ⟨h1, h2, h3, h4, h5⟩ := hn
  unfold nicReceive
  split
  · rename_i hc
    obtain ⟨c1, c2, c3, c4⟩ := hc
    have hlen := setP_len m n.2.2.2.1.toNat (fr ++ cut (pageOf m n.2.2.2.1.toNat) fr.size 128)
    generalize setP m n.2.2.2.1.toNat (fr ++ cut (pageOf m n.2.2.2.1.toNat) fr.size 128) = z at hlen ⊢
    refine ⟨?_, ⟨h1, h2, h3, Int.le_refl 0, (by show (0 : Int) ≤ 4294967295; decide)⟩, hlen⟩
    have c2' : 1 ≤ (fr.size : Int) := by omega
    have c3' : (fr.size : Int) ≤ 128 := by omega
    simp only [nicMay, Bool.false_and, Bool.not_false, Bool.true_and, Bool.false_eq_true, if_false, if_true, c2', c3', decide_true, Bool.and_self]
  · exact ⟨h, ⟨h1, h2, h3, h4, h5⟩, rfl⟩

theorem nicKeeps (n : Nic) (raw : Bool) (k pages port v : Int) (hn : NicOk n) (hv : 0 ≤ v) : vmfleetlaw10_NicKeeps.f n raw k pages port v = some true := by
  unfold vmfleetlaw10_NicKeeps.f
  rw [vmfleetlaw10_awake.ok]
  obtain ⟨r1, e1, hr⟩ := shaped10_ok n raw k hn
  obtain ⟨m, q, e2, q1, q2, hm, hu⟩ := words10_ok k pages
  rw [e1, e2]
  simp only [Option.bind_some]
  rw [pagesR_eq hm (by omega)]
  simp only [Option.bind_some]
  rw [nicMay_eq r1 hr q (by omega)]
  cases hmay : nicMay r1 q with
  | false => simp
  | true =>
    simp only [Option.bind_some, Bool.not_true, cond_false]
    obtain ⟨p, ep, _⟩ := round_ok port 3 (by decide) (by decide)
    obtain ⟨s, es, s1, s2⟩ := round_ok k 128 (by decide) (by decide)
    rw [ep, es]
    simp only [Option.bind_some]
    have e3 : IntKind.wrap .i64 (1 + s) = ((s.toNat + 1 : Nat) : Int) := by rw [wrap_i64 (by omega) (by omega)]; omega
    obtain ⟨d, ed, hd⟩ := data_ok k (s.toNat + 1) (by omega)
    rw [nicOut_eqA hm (by omega) r1 hr, e3, ed]
    simp only [Option.bind_some]
    rw [nicReceive_eq hm (by omega) r1 hr]
    have hv2 : 0 ≤ Int.tmod v 4 ∧ Int.tmod v 4 ≤ 4294967295 := by
      rw [Int.tmod_eq_emod_of_nonneg hv]; omega
    obtain ⟨a1, a2⟩ := nicOut_may hr hmay m (port := IntKind.wrap .i64 (7 + p)) (at_ := 0) hv2
    obtain ⟨b1, b2, b3⟩ := nicReceive_may hr hmay m d
    simp only [Option.bind_some]
    rw [nicMay_eq _ a2 q (by omega), nicMay_eq _ b2 q (by omega), a1, b1]
    simp [b3]

theorem vmfleetlaw10_NicKeeps.pure (x : (tup vmfleetlaw10_NicKeeps.sp.args).den) (h : WfL vmfleetlaw10_NicKeeps.sp.args x) : vmfleetlaw10_NicKeeps.sp.f x = some true :=
  nicKeeps x.1 x.2.1 x.2.2.1 x.2.2.2.1 x.2.2.2.2.1 x.2.2.2.2.2 ⟨h.1.1.1, h.1.1.2, h.1.2.1.1, h.1.2.2.2.1.1, h.1.2.2.2.1.2⟩ h.2.2.2.2.2.1

end Go.Proofs.Yteiepkkkphkncaa.Fn
