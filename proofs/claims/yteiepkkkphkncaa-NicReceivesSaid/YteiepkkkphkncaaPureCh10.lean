/- The card's functions (chapter 10), in plain Lean: what each computes. -/
import Derived.Test.YteiepkkkphkncaaPureMemPage
set_option linter.unusedVariables false
set_option linter.unusedSimpArgs false
namespace Go.Proofs.Yteiepkkkphkncaa.Fn
open Go Lift

abbrev Nic := Int × Int × Bool × Int × Bool × Int
abbrev OutT := Int × Int × Int × ByteArray

def NicOk (n : Nic) : Prop := 0 ≤ n.1 ∧ n.1 ≤ 4294967295 ∧ 0 ≤ n.2.1 ∧ 0 ≤ n.2.2.2.1 ∧ n.2.2.2.1 ≤ 4294967295

theorem words10_ok (n p : Int) : ∃ m k, vmfleetlaw10_words.f n p = some m ∧ 1 ≤ k ∧ k ≤ 6 ∧ m.length = 32 * k ∧ U32 m := by
  unfold vmfleetlaw10_words.f
  obtain ⟨r, er, h1, h2⟩ := round_ok p 6 (by decide) (by decide)
  obtain ⟨q, rfl⟩ := Int.eq_ofNat_of_zero_le h1
  have e1 : IntKind.wrap .i64 (1 + (q : Int)) = ((q + 1 : Nat) : Int) := by rw [wrap_i64 (by omega) (by omega)]; omega
  rw [er]
  simp only [Option.bind_some, e1]
  rw [new_eq (q + 1) (by omega) (by omega)]
  simp only [Option.bind_some]
  obtain ⟨m, hm, hl, hu⟩ := fill_ok n (List.replicate (32 * (q + 1)) 0) (zeros_u32 _) (by simp; omega)
  rw [hm]
  exact ⟨m, q + 1, rfl, by omega, by omega, by rw [hl]; simp, hu⟩

def nicOut (n : Nic) (m : List Int) (k : Nat) (port v at_ : Int) : Nic × List OutT :=
  if port = 7 then ((v, n.2), [])
  else if port = 8 then ((n.1, v, n.2.2), [])
  else if port = 9 then
    if v = 0 then ((n.1, n.2.1, n.2.2.1, n.2.2.2.1, false, 0), [])
    else if v = 1 then (if n.1 < k ∧ 1 ≤ n.2.1 ∧ n.2.1 ≤ 128 then (n, [(2, at_, 0, cut (pageOf m n.1.toNat) 0 n.2.1)]) else (n, []))
    else if v = 2 then (if n.1 < k ∧ n.2.2.1 = false ∧ n.2.2.2.2.1 = false then ((n.1, n.2.1, true, n.1, n.2.2.2.2), []) else (n, []))
    else (n, [])
  else (n, [])

theorem nicOut_eqA {m : List Int} {k : Nat} (h : m.length = 32 * k) (hk : k ≤ 32) (n : Nic) (hn : NicOk n) (port v at_ : Int) : nic_Out.f n m port v at_ = some (nicOut n m k port v at_) := by
  obtain ⟨h1, h2, h3, _, _⟩ := hn
  unfold nic_Out.f nicOut nic_command.f
  obtain ⟨f, hf⟩ := Int.eq_ofNat_of_zero_le h1
  have e1 : IntKind.wrap .i64 n.1 = (f : Int) := by rw [wrap_i64 (by omega) (by omega), hf]
  have e2 : n.1.toNat = f := by omega
  have e3 : n.1 < (k : Int) ↔ f < k := by omega
  rw [e1, page_eq h hk, e2]
  by_cases p7 : port = 7
  · simp [p7]
  · by_cases p8 : port = 8
    · simp [p8]
    · by_cases p9 : port = 9
      · simp only [p7, p8, p9, decide_false, cond_false, decide_true, cond_true, if_true, if_false, Option.bind_some]
        by_cases v0 : v = 0
        · simp [v0]
        · by_cases v1 : v = 1
          · by_cases hfk : f < k
            · by_cases a1 : n.2.1 ≥ 1
              · have a1' : 1 ≤ n.2.1 := a1
                by_cases a2 : n.2.1 ≤ 128
                · have hs : 0 ≤ n.2.1 ∧ n.2.1 ≤ ((pageOf m f).size : Int) := by rw [pageOf_size h hk hfk]; omega
                  have hs2 : n.2.1 ≤ ((pageOf m f).size : Int) := hs.2
                  simp [v1, hfk, e3, a1, a1', a2, h3, hs2]
                · simp [v1, hfk, a1, a2]
              · have a1' : ¬ 1 ≤ n.2.1 := a1
                simp [v1, hfk, a1, a1']
            · simp [v1, hfk, e3]
          · by_cases v2 : v = 2
            · by_cases hfk : f < k
              · cases hp : n.2.2.1 <;> cases hh : n.2.2.2.2.1 <;> simp [v2, hfk, e3, hp, hh]
              · simp [v2, hfk, e3]
            · simp [v0, v1, v2]
      · simp [p7, p8, p9]

theorem pageB_eq {m : List Int} {k : Nat} (h : m.length = 32 * k) (hk : k ≤ 32) {x : Int} (h1 : 0 ≤ x) (h2 : x ≤ 4294967295) : vmfleetref7_page.f m x = some (decide (x < k)) := by
  unfold vmfleetref7_page.f
  rw [pagesR_eq h hk]
  simp only [Option.bind_some]
  rw [wrap_u64 (by omega) (by omega), wrap_u64 (by omega) (by omega)]

theorem nicOut_eqR {m : List Int} {k : Nat} (h : m.length = 32 * k) (hk : k ≤ 32) (n : Nic) (hn : NicOk n) (port v at_ : Int) : vmfleetref7_NicOut.f n m port v at_ = some (nicOut n m k port v at_) := by
  obtain ⟨h1, h2, h3, _, _⟩ := hn
  unfold vmfleetref7_NicOut.f nicOut
  rw [pageB_eq h hk h1 h2]
  obtain ⟨f, hf⟩ := Int.eq_ofNat_of_zero_le h1
  have e1 : IntKind.wrap .i64 n.1 = (f : Int) := by rw [wrap_i64 (by omega) (by omega), hf]
  have e2 : n.1.toNat = f := by omega
  have e3 : n.1 < (k : Int) ↔ f < k := by omega
  rw [e1, pageR_eq h hk, e2]
  by_cases p7 : port = 7
  · simp [p7]
  · by_cases p8 : port = 8
    · simp [p8]
    · by_cases p9 : port = 9
      · simp only [p7, p8, p9, decide_false, cond_false, decide_true, cond_true, if_true, if_false, Option.bind_some, Bool.not_true]
        by_cases v0 : v = 0
        · simp [v0]
        · by_cases v1 : v = 1
          · have v2 : ¬ v = 2 := by omega
            by_cases hfk : f < k
            · by_cases a1 : n.2.1 ≥ 1
              · have a1' : 1 ≤ n.2.1 := a1
                by_cases a2 : n.2.1 ≤ 128
                · have hs2 : n.2.1 ≤ ((pageOf m f).size : Int) := by rw [pageOf_size h hk hfk]; omega
                  simp [v1, hfk, e3, a1, a1', a2, h3, hs2]
                · simp [v1, hfk, a1, a2]
              · have a1' : ¬ 1 ≤ n.2.1 := a1
                simp [v1, hfk, a1, a1']
            · by_cases a1 : n.2.1 ≥ 1
              · by_cases a2 : n.2.1 ≤ 128
                · simp [v1, hfk, e3, a1, a2]
                · simp [v1, hfk, e3, a1, a2]
              · simp [v1, hfk, e3, a1]
          · by_cases v2 : v = 2
            · by_cases hfk : f < k
              · cases hp : n.2.2.1 <;> cases hh : n.2.2.2.2.1 <;> simp [v2, hfk, e3, hp, hh]
              · simp [v2, hfk, e3]
            · simp [v0, v1, v2]
      · simp [p7, p8, p9]

theorem sameOutputs_refl (a : List OutT) (hl : a.length ≤ 1000000) : vmfleetref7_SameOutputs.f a a = some true := by
  unfold vmfleetref7_SameOutputs.f
  simp only [decide_true, Bool.not_true, cond_false]
  rw [loop_all a (fun _ => true) (.inr false) (.inl ()) ?h1 ?h2]
  · simp
  case h1 =>
    intro i x hx
    have hi := idx_lt hx
    have hb : 0 ≤ (i : Int) ∧ (i : Int) < a.length := ⟨by omega, hi⟩
    simp only [hi, decide_true, cond_true, hb, and_self, if_true, Bool.not_true, cond_false]
    rw [wrap_i64 (n := (i : Int) + 1) (by omega) (by omega)]
  case h2 => simp

theorem shaped10_ok (n : Nic) (raw : Bool) (k : Int) (hn : NicOk n) : ∃ r, vmfleetlaw10_shaped.f n raw k = some r ∧ NicOk r := by
  unfold vmfleetlaw10_shaped.f
  cases raw with
  | true => exact ⟨n, rfl, hn⟩
  | false =>
    obtain ⟨r, hr⟩ := mix_ok k 12
    simp only [cond_false, hr, Option.bind_some]
    have a1 := wrap_u32_range (andI .i64 r 7)
    have a2 := wrap_u32_range (andI .i64 (shrI .i64 r 3) 255)
    have a3 := wrap_u32_range (andI .i64 (shrI .i64 r 13) 3)
    by_cases h1 : andI .i64 (shrI .i64 r 11) 3 = 1
    · simp only [h1, decide_true, cond_true]
      exact ⟨_, rfl, a1.1, a1.2, a2.1, a3.1, a3.2⟩
    · by_cases h2 : andI .i64 (shrI .i64 r 11) 3 = 2
      · simp only [h1, h2, decide_true, decide_false, cond_true, cond_false]
        exact ⟨_, rfl, a1.1, a1.2, a2.1, Int.le_refl 0, (by show (0 : Int) ≤ 4294967295; decide)⟩
      · simp only [h1, h2, decide_false, cond_false]
        exact ⟨_, rfl, a1.1, a1.2, a2.1, Int.le_refl 0, (by show (0 : Int) ≤ 4294967295; decide)⟩

def nicReceive (n : Nic) (m : List Int) (k : Nat) (frame : ByteArray) : Nic × List Int × Bool :=
  if n.2.2.1 = true ∧ 1 ≤ frame.size ∧ frame.size ≤ 128 ∧ n.2.2.2.1 < k then
    ((n.1, n.2.1, false, 0, true, (frame.size : Int)), setP m n.2.2.2.1.toNat (frame ++ cut (pageOf m n.2.2.2.1.toNat) frame.size 128), true)
  else (n, m, false)

theorem cut_size {s : ByteArray} {a b : Nat} (h : b ≤ s.size) : (cut s a b).size = b - a := by
  simp [cut, ByteArray.size_extract]
  omega

theorem nicReceive_eq {m : List Int} {k : Nat} (h : m.length = 32 * k) (hk : k ≤ 32) (n : Nic) (hn : NicOk n) (frame : ByteArray) : nic_Receive.f n m frame = some (nicReceive n m k frame) := by
  obtain ⟨_, _, _, h1, h2⟩ := hn
  unfold nic_Receive.f nicReceive
  obtain ⟨f, hf⟩ := Int.eq_ofNat_of_zero_le h1
  have e1 : IntKind.wrap .i64 n.2.2.2.1 = (f : Int) := by rw [wrap_i64 (by omega) (by omega), hf]
  have e2 : n.2.2.2.1.toNat = f := by omega
  have e3 : n.2.2.2.1 < (k : Int) ↔ f < k := by omega
  rw [e1, page_eq h hk, e2, clone32_eq m (by omega)]
  simp only [Option.bind_some]
  cases hp : n.2.2.1 with
  | false => simp
  | true =>
    by_cases hfr : frame.size = 0
    · have := size_zero.1 hfr
      subst this
      have e : (⟨#[]⟩ : ByteArray).size = 0 := rfl
      simp [e]
    · have hne : ¬ frame = (⟨#[]⟩ : ByteArray) := fun h => hfr (size_zero.2 h)
      by_cases h128 : frame.size ≤ 128
      · have g : ¬ (frame.size : Int) > 128 := by omega
        simp only [Bool.not_true, cond_false, hne, decide_false, g]
        by_cases hfk : f < k
        · have c1 : 0 ≤ (frame.size : Int) ∧ (frame.size : Int) ≤ ((pageOf m f).size : Int) := by rw [pageOf_size h hk hfk]; omega
          have c2 : (cut (pageOf m f) (frame.size : Int) ((pageOf m f).size : Int)).size = 128 - frame.size := by rw [cut_size (Nat.le_refl _), pageOf_size h hk hfk]
          have c3 : frame.size + (128 - frame.size) ≤ 9223372036854775807 := by omega
          simp only [hfk, if_true, Bool.not_true, Option.bind_some, cond_false, c1, and_self, c2, c3]
          rw [setPage_eq h hk]
          have c4 : (frame ++ cut (pageOf m f) (frame.size : Int) ((pageOf m f).size : Int)).size = 128 := by rw [ByteArray.size_append, c2]; omega
          have c5 : n.2.2.2.1 < (k : Int) := e3.2 hfk
          have c6 : 1 ≤ frame.size := by omega
          simp only [hfk, c4, and_self, if_true, Option.bind_some, c5, c6, h128, true_and]
          rw [wrap_u32 (by omega) (by omega), pageOf_size h hk hfk]
          rfl
        · have c5 : ¬ n.2.2.2.1 < (k : Int) := fun hh => hfk (e3.1 hh)
          simp [hfk, c5]
      · have g : (frame.size : Int) > 128 := by omega
        simp [hne, g, h128]

def nicMay (n : Nic) (k : Nat) : Bool :=
  !(n.2.2.1 && n.2.2.2.2.1) && ((if n.2.2.1 = true then decide (n.2.2.2.1 < k) else decide (n.2.2.2.1 = 0)) && (if n.2.2.2.2.1 = true then decide (1 ≤ n.2.2.2.2.2) && decide (n.2.2.2.2.2 ≤ 128) else decide (n.2.2.2.2.2 = 0)))

theorem nicMay_eq (n : Nic) (hn : NicOk n) (k : Nat) (hk : k ≤ 32) : nic_May.f n k = some (nicMay n k) := by
  obtain ⟨_, _, _, h1, h2⟩ := hn
  unfold nic_May.f nicMay
  rw [wrap_i64 (by omega) (by omega)]
  cases hp : n.2.2.1 <;> cases hh : n.2.2.2.2.1
  · by_cases a : n.2.2.2.1 = 0 <;> simp [a]
  · by_cases a : n.2.2.2.1 = 0 <;> by_cases b : n.2.2.2.2.2 ≥ 1 <;> simp [a, b]
  · by_cases a : n.2.2.2.1 < (k : Int) <;> simp [a]
  · simp

end Go.Proofs.Yteiepkkkphkncaa.Fn
