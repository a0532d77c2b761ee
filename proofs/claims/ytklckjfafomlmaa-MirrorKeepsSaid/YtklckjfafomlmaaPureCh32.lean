/- The mirror's functions (chapter 32), in plain Lean: what each computes. -/
import Derived.Test.YtklckjfafomlmaaFns
import Derived.Test.YtklckjfafomlmaaLPure
set_option linter.unusedVariables false
set_option linter.unusedSimpArgs false
set_option maxRecDepth 100000
namespace Go.Proofs.Ytklckjfafomlmaa.Fn
open Go Lift

abbrev Mir := List ByteArray × List ByteArray × Int

theorem bind32 {α β : Type} {o : Option α} {a : α} {K : α → Option β} {r : Option β} (h : o = some a) (hk : K a = r) : o.bind K = r := by rw [h]; exact hk

theorem cloneM_eq (s : List ByteArray) (h : s.length ≤ 1000000) : slices_Clone_string_string.f s = some s := by
  unfold slices_Clone_string_string.f
  have h1 : (([] : List ByteArray).length + s.length) * 16 ≤ 70368744177664 := by simp; omega
  rw [if_pos h1, List.nil_append]
  cases s with
  | nil => simp [both]
  | cons x l => simp

def Blk (l : List ByteArray) : Prop := 1 ≤ l.length ∧ l.length ≤ 64 ∧ ∀ s ∈ l, s.size = 128

theorem blocks_iff (l : List ByteArray) : ∃ b, mirror_blocks.f l = some b ∧ (b = true ↔ Blk l) := by
  unfold mirror_blocks.f
  by_cases c1 : (l.length : Int) ≥ 1
  case neg => exact ⟨false, by rw [decide_eq_false c1]; rfl, fun h => (by cases h), fun h => absurd (by have := h.1; omega) c1⟩
  by_cases c2 : (l.length : Int) ≤ 64
  case neg => exact ⟨false, by rw [decide_eq_true c1, decide_eq_false c2]; rfl, fun h => (by cases h), fun h => absurd (by have := h.2.1; omega) c2⟩
  rw [decide_eq_true c1, decide_eq_true c2, cond_true, cond_true]
  have key := loop_all (Z := Unit ⊕ Bool) l (fun s => decide (s.size = 128)) (.inr false) (.inl ()) (step := (fun (x1 : Int) =>
        bif decide (x1 < (l.length : Int)) then
          if 0 ≤ x1 ∧ x1 < (l.length : Int) then
            bif !decide (((nth (⟨#[]⟩ : ByteArray) l x1).size : Int) = 128) then
              some (.inr (.inr (!(decide (x1 ≥ 0)))))
            else
              some (.inl (IntKind.wrap .i64 (x1 + 1)))
          else none
        else
          some (.inr (.inl ())))) (fun i x hx => by
    have hi := idx_lt hx
    have hb : 0 ≤ (i : Int) ∧ (i : Int) < l.length := ⟨by omega, hi⟩
    try dsimp only
    rw [decide_eq_true hi, cond_true, if_pos hb, nth_some hx]
    by_cases c : x.size = 128
    · have c' : (x.size : Int) = 128 := by omega
      rw [decide_eq_true c', decide_eq_true c, wrap_i64 (by omega) (by omega)]; rfl
    · have c' : ¬ (x.size : Int) = 128 := by omega
      have c3 : (i : Int) ≥ 0 := by omega
      rw [decide_eq_false c', decide_eq_false c, decide_eq_true c3]; rfl) (by
    have : ¬ ((l.length : Int) < l.length) := by omega
    try dsimp only
    rw [decide_eq_false this]; rfl)
  refine ⟨l.all fun s => decide (s.size = 128), bind32 key ?_, ?_⟩
  · cases l.all fun s => decide (s.size = 128) <;> rfl
  · constructor
    · intro h
      exact ⟨by omega, by omega, fun s hs => of_decide_eq_true (List.all_eq_true.1 h s hs)⟩
    · intro h
      exact List.all_eq_true.2 fun s hs => decide_eq_true (h.2.2 s hs)

/-- Two lists side by side. -/
theorem eq_loop (a b : List ByteArray) (hl : a.length = b.length) (h : a.length ≤ 1000000) : ∃ y : Unit ⊕ Bool, loop (Y := Unit ⊕ Bool) (fun (x1 : Int) =>
      bif decide (x1 < (a.length : Int)) then
        if 0 ≤ x1 ∧ x1 < (a.length : Int) then
          if 0 ≤ x1 ∧ x1 < (b.length : Int) then
            bif !decide ((nth (⟨#[]⟩ : ByteArray) a x1) = (nth (⟨#[]⟩ : ByteArray) b x1)) then
              some (.inr (.inr false))
            else
              some (.inl (IntKind.wrap .i64 (x1 + 1)))
          else none
        else none
      else
        some (.inr (.inl ()))) (0 : Int) = some y ∧ ((y = .inl () ∧ a = b) ∨ (y = .inr false ∧ a ≠ b)) := by
  refine loop_ind (I := fun x : Int => 0 ≤ x ∧ x ≤ a.length ∧ ∀ j : Nat, (j : Int) < x → a[j]? = b[j]?) (fun x => ((a.length : Int) - x).toNat) ⟨Int.le_refl 0, by omega, fun j hj => by omega⟩ fun x hI => ?_
  obtain ⟨i1, i2, i3⟩ := hI
  by_cases hx : x < (a.length : Int)
  · obtain ⟨i, rfl⟩ := Int.eq_ofNat_of_zero_le i1
    have ha : i < a.length := by omega
    have hb : i < b.length := by omega
    have na : nth (⟨#[]⟩ : ByteArray) a (i : Int) = a[i] := nth_some (List.getElem?_eq_getElem ha)
    have nb : nth (⟨#[]⟩ : ByteArray) b (i : Int) = b[i] := nth_some (List.getElem?_eq_getElem hb)
    rw [decide_eq_true hx, cond_true, if_pos ⟨i1, hx⟩, if_pos (by omega), na, nb]
    by_cases c : a[i] = b[i]
    · left
      rw [decide_eq_true c, wrap_i64 (by omega) (by omega)]
      refine ⟨_, rfl, ⟨by omega, by omega, fun j hj => ?_⟩, by omega⟩
      by_cases hji : j = i
      · subst hji; rw [List.getElem?_eq_getElem ha, List.getElem?_eq_getElem hb, c]
      · exact i3 j (by omega)
    · right
      rw [decide_eq_false c]
      refine ⟨_, rfl, .inr ⟨rfl, fun hab => c ?_⟩⟩
      subst hab
      rfl
  · right
    rw [decide_eq_false hx]
    refine ⟨_, rfl, .inl ⟨rfl, List.ext_getElem? fun j => ?_⟩⟩
    by_cases hj : j < a.length
    · exact i3 j (by omega)
    · rw [List.getElem?_eq_none (by omega), List.getElem?_eq_none (by omega)]

theorem equal_iff (a b : List ByteArray) (h : a.length ≤ 1000000) : ∃ r, slices_Equal_string_string.f a b = some r ∧ (r = true ↔ a = b) := by
  unfold slices_Equal_string_string.f
  by_cases c : (a.length : Int) = (b.length : Int)
  · rw [decide_eq_true c, Bool.not_true, cond_false]
    obtain ⟨y, h1, h2⟩ := eq_loop a b (by omega) h
    rcases h2 with ⟨rfl, h2⟩ | ⟨rfl, h2⟩
    · exact ⟨true, bind32 h1 rfl, fun _ => h2, fun _ => rfl⟩
    · exact ⟨false, bind32 h1 rfl, fun hh => (by cases hh), fun hh => absurd hh h2⟩
  · rw [decide_eq_false c]
    exact ⟨false, rfl, fun hh => (by cases hh), fun hh => absurd (by rw [hh]) c⟩

theorem same_iff (a b : List ByteArray) (h : a.length ≤ 1000000) : ∃ r, vmfleetref1_SameStrings.f a b = some r ∧ (r = true ↔ a = b) := by
  unfold vmfleetref1_SameStrings.f
  by_cases c : (a.length : Int) = (b.length : Int)
  · rw [decide_eq_true c, Bool.not_true, cond_false]
    obtain ⟨y, h1, h2⟩ := eq_loop a b (by omega) h
    rcases h2 with ⟨rfl, h2⟩ | ⟨rfl, h2⟩
    · exact ⟨true, bind32 h1 rfl, fun _ => h2, fun _ => rfl⟩
    · exact ⟨false, bind32 h1 rfl, fun hh => (by cases hh), fun hh => absurd hh h2⟩
  · rw [decide_eq_false c]
    exact ⟨false, rfl, fun hh => (by cases hh), fun hh => absurd (by rw [hh]) c⟩

theorem same_self (a : List ByteArray) (h : a.length ≤ 1000000) : vmfleetref1_SameStrings.f a a = some true := by
  obtain ⟨r, h1, h2⟩ := same_iff a a h
  rw [h1, h2.2 rfl]

theorem sameMirror_self (a : Mir) (h1 : a.1.length ≤ 1000000) (h2 : a.2.1.length ≤ 1000000) : vmfleetref30_SameMirror.f a a = some true := by
  unfold vmfleetref30_SameMirror.f
  rw [decide_eq_true rfl, cond_true, same_self _ h1, Option.bind_some, cond_true, same_self _ h2]
  rfl

structure MOk (m : Mir) : Prop where
  s1 : Blk m.1
  s2 : Blk m.2.1
  len : m.1.length = m.2.1.length
  c0 : 0 ≤ m.2.2
  c1 : m.2.2 ≤ (m.1.length : Int)
  same : m.1.take m.2.2.toNat = m.2.1.take m.2.2.toNat

theorem valid_iff (m : Mir) (h1 : m.1.length ≤ 1000000) : ∃ b, mirror_Valid.f m = some b ∧ (b = true ↔ MOk m) := by
  unfold mirror_Valid.f
  obtain ⟨b1, e1, i1⟩ := blocks_iff m.1
  obtain ⟨b2, e2, i2⟩ := blocks_iff m.2.1
  rw [e1, Option.bind_some]
  cases b1 with
  | false => exact ⟨false, rfl, fun h => (by cases h), fun h => by have := i1.2 h.s1; cases this⟩
  | true =>
    rw [cond_true, e2, Option.bind_some]
    cases b2 with
    | false => exact ⟨false, rfl, fun h => (by cases h), fun h => by have := i2.2 h.s2; cases this⟩
    | true =>
      rw [cond_true]
      by_cases c1 : (m.1.length : Int) = (m.2.1.length : Int)
      case neg => exact ⟨false, by rw [decide_eq_false c1]; rfl, fun h => (by cases h), fun h => absurd (by rw [h.len]) c1⟩
      by_cases c2 : m.2.2 ≥ 0
      case neg => exact ⟨false, by rw [decide_eq_true c1, decide_eq_false c2]; rfl, fun h => (by cases h), fun h => absurd h.c0 c2⟩
      by_cases c3 : m.2.2 ≤ (m.1.length : Int)
      case neg => exact ⟨false, by rw [decide_eq_true c1, decide_eq_true c2, decide_eq_false c3]; rfl, fun h => (by cases h), fun h => absurd h.c1 c3⟩
      rw [decide_eq_true c1, decide_eq_true c2, decide_eq_true c3, cond_true, cond_true, cond_true, if_pos ⟨c2, c3⟩, if_pos (by omega)]
      have e3 : slc m.1 (0 : Int) m.2.2 = m.1.take m.2.2.toNat := by simp [slc]
      have e4 : slc m.2.1 (0 : Int) m.2.2 = m.2.1.take m.2.2.toNat := by simp [slc]
      rw [e3, e4]
      obtain ⟨r, e5, i5⟩ := equal_iff (m.1.take m.2.2.toNat) (m.2.1.take m.2.2.toNat) (by rw [List.length_take]; omega)
      rw [e5]
      exact ⟨r, rfl, fun h => ⟨i1.1 rfl, i2.1 rfl, by omega, c2, c3, i5.1 h⟩, fun h => i5.2 h.same⟩

theorem take_eq_iff {a b : List ByteArray} (hl : a.length = b.length) (c : Nat) : a.take c = b.take c ↔ ∀ j : Nat, j < c → a[j]? = b[j]? := by
  constructor
  · intro h j hj
    have := congrArg (fun l => l[j]?) h
    simp only [List.getElem?_take, if_pos hj] at this
    exact this
  · intro h
    refine List.ext_getElem? fun j => ?_
    rw [List.getElem?_take, List.getElem?_take]
    by_cases hj : j < c
    · rw [if_pos hj, if_pos hj]; exact h j hj
    · rw [if_neg hj, if_neg hj]

theorem validR_iff (m : Mir) (h1 : m.1.length ≤ 1000000) : ∃ b, vmfleetref30_ValidMirror.f m = some b ∧ (b = true ↔ MOk m) := by
  unfold vmfleetref30_ValidMirror.f
  by_cases c1 : (m.1.length : Int) < 1
  case pos => exact ⟨false, by rw [decide_eq_true c1]; rfl, fun h => (by cases h), fun h => by have := h.s1.1; omega⟩
  by_cases c2 : (m.1.length : Int) > 64
  case pos => exact ⟨false, by rw [decide_eq_false c1, decide_eq_true c2]; rfl, fun h => (by cases h), fun h => by have := h.s1.2.1; omega⟩
  by_cases c3 : (m.2.1.length : Int) = (m.1.length : Int)
  case neg => exact ⟨false, by rw [decide_eq_false c1, decide_eq_false c2, decide_eq_false c3]; rfl, fun h => (by cases h), fun h => absurd (by rw [h.len]) c3⟩
  by_cases c4 : m.2.2 < 0
  case pos => exact ⟨false, by rw [decide_eq_false c1, decide_eq_false c2, decide_eq_true c3, decide_eq_true c4]; rfl, fun h => (by cases h), fun h => by have := h.c0; omega⟩
  by_cases c5 : m.2.2 > (m.1.length : Int)
  case pos => exact ⟨false, by rw [decide_eq_false c1, decide_eq_false c2, decide_eq_true c3, decide_eq_false c4, decide_eq_true c5]; rfl, fun h => (by cases h), fun h => by have := h.c1; omega⟩
  rw [decide_eq_false c1, decide_eq_false c2, decide_eq_true c3, decide_eq_false c4, decide_eq_false c5, cond_false, cond_false, Bool.not_true, cond_false, cond_false, cond_false]
  have key := loop_ind (step := (fun (x1 : Int) =>
              bif decide (x1 < (m.1.length : Int)) then
                if 0 ≤ x1 ∧ x1 < (m.1.length : Int) then
                  bif !decide (((nth (⟨#[]⟩ : ByteArray) m.1 x1).size : Int) = 128) then
                    some (.inr (.inr false))
                  else
                    if 0 ≤ x1 ∧ x1 < (m.2.1.length : Int) then
                      bif (!decide (((nth (⟨#[]⟩ : ByteArray) m.2.1 x1).size : Int) = 128)) then
                        some (.inr (.inr false))
                      else
                        bif decide (x1 < m.2.2) then
                          if 0 ≤ x1 ∧ x1 < (m.1.length : Int) then
                            if 0 ≤ x1 ∧ x1 < (m.2.1.length : Int) then
                              bif (!decide ((nth (⟨#[]⟩ : ByteArray) m.1 x1) = (nth (⟨#[]⟩ : ByteArray) m.2.1 x1))) then
                                some (.inr (.inr false))
                              else
                                some (.inl (IntKind.wrap .i64 (x1 + 1)))
                            else none
                          else none
                        else
                          some (.inl (IntKind.wrap .i64 (x1 + 1)))
                    else none
                else none
              else
                some (.inr (.inl ())))) (I := fun x : Int => 0 ≤ x ∧ x ≤ m.1.length ∧ (∀ j : Nat, (j : Int) < x → (∀ s, m.1[j]? = some s → s.size = 128) ∧ (∀ s, m.2.1[j]? = some s → s.size = 128) ∧ ((j : Int) < m.2.2 → m.1[j]? = m.2.1[j]?)))
    (Q := fun y : Unit ⊕ Bool => (y = .inl () ∧ MOk m) ∨ (y = .inr false ∧ ¬ MOk m)) (fun x => ((m.1.length : Int) - x).toNat) (x := (0 : Int)) ⟨Int.le_refl 0, by omega, fun j hj => by omega⟩ (fun x hI => by
      obtain ⟨i1, i2, i3⟩ := hI
      by_cases hx : x < (m.1.length : Int)
      · obtain ⟨i, rfl⟩ := Int.eq_ofNat_of_zero_le i1
        have ha : i < m.1.length := by omega
        have hb : i < m.2.1.length := by omega
        have ga : m.1[i]? = some m.1[i] := List.getElem?_eq_getElem ha
        have gb : m.2.1[i]? = some m.2.1[i] := List.getElem?_eq_getElem hb
        have na : nth (⟨#[]⟩ : ByteArray) m.1 (i : Int) = m.1[i] := nth_some ga
        have nb : nth (⟨#[]⟩ : ByteArray) m.2.1 (i : Int) = m.2.1[i] := nth_some gb
        have hbb : 0 ≤ (i : Int) ∧ (i : Int) < (m.2.1.length : Int) := by omega
        have wi : IntKind.wrap .i64 ((i : Int) + 1) = (i : Int) + 1 := wrap_i64 (by omega) (by omega)
        rw [decide_eq_true hx, cond_true, if_pos ⟨i1, hx⟩, na]
        by_cases d1 : (m.1[i].size : Int) = 128
        case neg =>
          right
          rw [decide_eq_false d1]
          exact ⟨_, rfl, .inr ⟨rfl, fun h => d1 (by have := h.s1.2.2 _ (List.getElem_mem ha); omega)⟩⟩
        rw [decide_eq_true d1, Bool.not_true, cond_false, if_pos hbb, nb]
        by_cases d2 : (m.2.1[i].size : Int) = 128
        case neg =>
          right
          rw [decide_eq_false d2]
          exact ⟨_, rfl, .inr ⟨rfl, fun h => d2 (by have := h.s2.2.2 _ (List.getElem_mem hb); omega)⟩⟩
        rw [decide_eq_true d2, Bool.not_true, cond_false]
        by_cases d3 : (i : Int) < m.2.2
        · rw [decide_eq_true d3, cond_true, if_pos ⟨i1, hx⟩, if_pos hbb]
          by_cases d4 : m.1[i] = m.2.1[i]
          · left
            rw [decide_eq_true d4, Bool.not_true, cond_false, wi]
            refine ⟨_, rfl, ⟨by omega, by omega, fun j hj => ?_⟩, by omega⟩
            by_cases hji : j = i
            · subst hji
              refine ⟨fun s hs => ?_, fun s hs => ?_, fun _ => by rw [ga, gb, d4]⟩
              · rw [ga] at hs; cases hs; omega
              · rw [gb] at hs; cases hs; omega
            · exact i3 j (by omega)
          · right
            rw [decide_eq_false d4]
            refine ⟨_, rfl, .inr ⟨rfl, fun h => d4 ?_⟩⟩
            have := (take_eq_iff h.len _).1 h.same i (by omega)
            rw [ga, gb] at this
            exact Option.some.inj this
        · left
          rw [decide_eq_false d3, cond_false, wi]
          refine ⟨_, rfl, ⟨by omega, by omega, fun j hj => ?_⟩, by omega⟩
          by_cases hji : j = i
          · subst hji
            refine ⟨fun s hs => ?_, fun s hs => ?_, fun hh => absurd hh d3⟩
            · rw [ga] at hs; cases hs; omega
            · rw [gb] at hs; cases hs; omega
          · exact i3 j (by omega)
      · right
        rw [decide_eq_false hx]
        refine ⟨_, rfl, .inl ⟨rfl, ⟨by omega, by omega, fun s hs => ?_⟩, ⟨by omega, by omega, fun s hs => ?_⟩, by omega, by omega, by omega, (take_eq_iff (by omega) _).2 fun j hj => (i3 j (by omega)).2.2 (by omega)⟩⟩
        · obtain ⟨j, hj⟩ := List.mem_iff_getElem?.1 hs
          exact (i3 j (by have := (List.getElem?_eq_some_iff.1 hj).1; omega)).1 s hj
        · obtain ⟨j, hj⟩ := List.mem_iff_getElem?.1 hs
          exact (i3 j (by have := (List.getElem?_eq_some_iff.1 hj).1; omega)).2.1 s hj)
  obtain ⟨y, k1, k2⟩ := key
  rcases k2 with ⟨rfl, k2⟩ | ⟨rfl, k2⟩
  · exact ⟨true, bind32 k1 rfl, fun _ => k2, fun _ => rfl⟩
  · exact ⟨false, bind32 k1 rfl, fun hh => (by cases hh), fun hh => absurd hh k2⟩

theorem valid_both (m : Mir) (h1 : m.1.length ≤ 1000000) : ∃ b, mirror_Valid.f m = some b ∧ vmfleetref30_ValidMirror.f m = some b ∧ (b = true ↔ MOk m) := by
  obtain ⟨b, e1, i1⟩ := valid_iff m h1
  obtain ⟨b', e2, i2⟩ := validR_iff m h1
  have : b = b' := by
    cases b with
    | true => exact (i2.2 (i1.1 rfl)).symm
    | false =>
      cases b' with
      | true => exact i1.2 (i2.1 rfl)
      | false => rfl
  subst this
  exact ⟨b, e1, e2, i1⟩

theorem valid_true {m : Mir} (h : MOk m) : mirror_Valid.f m = some true ∧ vmfleetref30_ValidMirror.f m = some true := by
  obtain ⟨b, e1, e2, i⟩ := valid_both m (by have := h.s1.2.1; omega)
  rw [e1, e2, i.2 h]
  exact ⟨rfl, rfl⟩

theorem copied_eq (m : Mir) (h1 : m.1.length ≤ 1000000) (h2 : m.2.1.length ≤ 1000000) : mirror_copied.f m = some m := by
  unfold mirror_copied.f
  rw [cloneM_eq _ h1, Option.bind_some, cloneM_eq _ h2]
  rfl

/-! ### Copying -/
def copyN (m : Mir) (k : Nat) : Mir := (m.1, m.1.take (m.2.2.toNat + k) ++ m.2.1.drop (m.2.2.toNat + k), m.2.2 + k)

theorem copyN_zero {m : Mir} (h : MOk m) : copyN m 0 = m := by
  unfold copyN
  rw [Nat.add_zero, h.same, List.take_append_drop]
  simp

theorem copyN_ok {m : Mir} (h : MOk m) {k : Nat} (hk : m.2.2 + k ≤ m.1.length) : MOk (copyN m k) := by
  have hl := h.len
  have c0 := h.c0
  have b1 := h.s1
  have b2 := h.s2
  have hlen : (m.1.take (m.2.2.toNat + k) ++ m.2.1.drop (m.2.2.toNat + k)).length = m.1.length := by
    rw [List.length_append, List.length_take, List.length_drop]; omega
  refine ⟨b1, ⟨by unfold copyN; dsimp only; have := b1.1; omega, by unfold copyN; dsimp only; have := b1.2.1; omega, fun s hs => ?_⟩, hlen.symm, by unfold copyN; dsimp only; omega, by unfold copyN; dsimp only; omega, ?_⟩
  · unfold copyN at hs
    rcases List.mem_append.1 hs with hs | hs
    · exact b1.2.2 s (List.mem_of_mem_take hs)
    · exact b2.2.2 s (List.mem_of_mem_drop hs)
  · unfold copyN
    try dsimp only
    have e : (m.2.2 + (k : Int)).toNat = m.2.2.toNat + k := by omega
    rw [e, List.take_append_of_le_length (by rw [List.length_take]; omega), List.take_take, Nat.min_self]

theorem copy_loop {m : Mir} (h : MOk m) (n : Int) (hn : n ≤ 9223372036854775807) : loop (Y := (List ByteArray × List ByteArray × Int) ⊕ (List ByteArray × List ByteArray × Int)) (fun (x1 : Int × List ByteArray × List ByteArray × Int) =>
      bif decide (x1.1 > 0) then
        bif (decide (x1.2.2.2 < (x1.2.1.length : Int))) then
          if 0 ≤ x1.2.2.2 ∧ x1.2.2.2 < (x1.2.1.length : Int) then
            if 0 ≤ x1.2.2.2 ∧ x1.2.2.2 < (x1.2.2.1.length : Int) then
              some (.inl (IntKind.wrap .i64 (x1.1 - 1), x1.2.1, (put x1.2.2.1 x1.2.2.2 (nth (⟨#[]⟩ : ByteArray) x1.2.1 x1.2.2.2)), IntKind.wrap .i64 (x1.2.2.2 + 1)))
            else none
          else none
        else
          some (.inr (.inl x1.2))
      else
        some (.inr (.inl x1.2))) (n, m) = some (.inl (copyN m (min n.toNat (m.1.length - m.2.2.toNat)))) := by
  have hl := h.len
  have c0 := h.c0
  have c1 := h.c1
  have b1 := h.s1.2.1
  have h0 : (fun i : Nat => ((n - (i : Int)), copyN m i)) 0 = (n, m) := by
    show (n - ((0 : Nat) : Int), copyN m 0) = (n, m)
    rw [copyN_zero h]
    simp
  rw [← h0]
  refine loop_at (fun i : Nat => ((n - (i : Int)), copyN m i)) (min n.toNat (m.1.length - m.2.2.toNat)) _ (fun i hi => ?_) ?_
  · have g1 : n - (i : Int) > 0 := by omega
    have g2 : m.2.2 + (i : Int) < (m.1.length : Int) := by omega
    have hj : m.2.2.toNat + i < m.1.length := by omega
    have hlen : (m.1.take (m.2.2.toNat + i) ++ m.2.1.drop (m.2.2.toNat + i)).length = m.1.length := by
      rw [List.length_append, List.length_take, List.length_drop]; omega
    have na : nth (⟨#[]⟩ : ByteArray) m.1 (m.2.2 + (i : Int)) = m.1[m.2.2.toNat + i] := by
      have e : m.2.2 + (i : Int) = ((m.2.2.toNat + i : Nat) : Int) := by omega
      rw [e]; exact nth_some (List.getElem?_eq_getElem hj)
    have hput : put (m.1.take (m.2.2.toNat + i) ++ m.2.1.drop (m.2.2.toNat + i)) (m.2.2 + (i : Int)) m.1[m.2.2.toNat + i] = m.1.take (m.2.2.toNat + (i + 1)) ++ m.2.1.drop (m.2.2.toNat + (i + 1)) := by
      unfold put
      have e : (m.2.2 + (i : Int)).toNat = m.2.2.toNat + i := by omega
      have hd : m.2.1.drop (m.2.2.toNat + i) = m.2.1[m.2.2.toNat + i]'(by omega) :: m.2.1.drop (m.2.2.toNat + i + 1) := List.drop_eq_getElem_cons (by omega)
      have ht : (m.1.take (m.2.2.toNat + i)).length = m.2.2.toNat + i := by rw [List.length_take]; omega
      rw [e, List.set_append, ht, if_neg (Nat.lt_irrefl _), Nat.sub_self, hd, List.set_cons_zero, show m.2.2.toNat + (i + 1) = m.2.2.toNat + i + 1 by omega, List.take_succ_eq_append_getElem hj, List.append_assoc]
      rfl
    unfold copyN
    try dsimp only
    rw [decide_eq_true g1, cond_true, decide_eq_true g2, cond_true, if_pos (by omega), if_pos (by rw [hlen]; omega), na, hput, wrap_i64 (by omega) (by omega), wrap_i64 (by omega) (by omega)]
    have e1 : n - (i : Int) - 1 = n - ((i + 1 : Nat) : Int) := by omega
    have e2 : m.2.2 + (i : Int) + 1 = m.2.2 + ((i + 1 : Nat) : Int) := by omega
    rw [e1, e2]
  · by_cases c : n - ((min n.toNat (m.1.length - m.2.2.toNat) : Nat) : Int) > 0
    · have g2 : ¬ (m.2.2 + ((min n.toNat (m.1.length - m.2.2.toNat) : Nat) : Int) < (m.1.length : Int)) := by omega
      try dsimp only
      rw [decide_eq_true c, cond_true, show (copyN m (min n.toNat (m.1.length - m.2.2.toNat))).2.2 = m.2.2 + ((min n.toNat (m.1.length - m.2.2.toNat) : Nat) : Int) from rfl, show (copyN m (min n.toNat (m.1.length - m.2.2.toNat))).1 = m.1 from rfl, decide_eq_false g2]
      rfl
    · dsimp only
      rw [decide_eq_false c]
      rfl

def copyC (m : Mir) (n : Int) : Mir := copyN m (min n.toNat (m.1.length - m.2.2.toNat))

theorem copyC_ok {m : Mir} (h : MOk m) (n : Int) : MOk (copyC m n) := copyN_ok h (by have := h.c0; have := h.c1; omega)

theorem copy_eq {m : Mir} (h : MOk m) (n : Int) (hn : n ≤ 9223372036854775807) : mirror_Copy.f m n = some (copyC m n) := by
  unfold mirror_Copy.f
  have b1 := h.s1.2.1
  have b2 := h.s2.2.1
  rw [copied_eq m (by omega) (by omega), Option.bind_some, (valid_true h).1, Option.bind_some, Bool.not_true, cond_false]
  exact bind32 (copy_loop h n hn) rfl

theorem copyR_eq {m : Mir} (h : MOk m) (n : Int) (hn : n ≤ 9223372036854775807) : vmfleetref30_CopyBlocks.f m n = some (copyC m n) := by
  unfold vmfleetref30_CopyBlocks.f
  have b2 := h.s2.2.1
  rw [(valid_true h).2, Option.bind_some, Bool.not_true, cond_false, if_pos (by simp; omega), List.nil_append]
  exact bind32 (copy_loop h n hn) rfl

/-! ### Writing -/
def writeC (m : Mir) (b : Int) (d : ByteArray) : Mir := (put m.1 b d, if b < m.2.2 then put m.2.1 b d else m.2.1, m.2.2)

theorem write_both {m : Mir} (h : MOk m) (b : Int) (d : ByteArray) : ∃ r, mirror_Write.f m b d = some r ∧ vmfleetref30_WriteBlock.f m b d = some r ∧ r = if 0 ≤ b ∧ b < (m.1.length : Int) ∧ d.size = 128 then (writeC m b d, true) else (m, false) := by
  have b1 := h.s1.2.1
  have b2 := h.s2.2.1
  have hl := h.len
  refine ⟨_, ?_, ?_, rfl⟩
  · unfold mirror_Write.f
    rw [copied_eq m (by omega) (by omega), Option.bind_some, (valid_true h).1, Option.bind_some, Bool.not_true, cond_false]
    by_cases c1 : b < 0
    case pos => rw [decide_eq_true c1, if_neg (show ¬ (0 ≤ b ∧ b < (m.1.length : Int) ∧ d.size = 128) by omega)]; rfl
    by_cases c2 : b ≥ (m.1.length : Int)
    case pos => rw [decide_eq_false c1, decide_eq_true c2, if_neg (show ¬ (0 ≤ b ∧ b < (m.1.length : Int) ∧ d.size = 128) by omega)]; rfl
    by_cases c3 : (d.size : Int) = 128
    case neg => rw [decide_eq_false c1, decide_eq_false c2, decide_eq_false c3, if_neg (show ¬ (0 ≤ b ∧ b < (m.1.length : Int) ∧ d.size = 128) by omega)]; rfl
    rw [decide_eq_false c1, decide_eq_false c2, decide_eq_true c3, cond_false, cond_false, Bool.not_true, cond_false]
    have hin : 0 ≤ b ∧ b < (m.1.length : Int) := by omega
    have hin2 : 0 ≤ b ∧ b < (m.2.1.length : Int) := by omega
    have hall : 0 ≤ b ∧ b < (m.1.length : Int) ∧ d.size = 128 := by omega
    rw [if_pos hin, if_pos hall]
    unfold writeC
    by_cases c4 : b < m.2.2
    · rw [decide_eq_true c4, cond_true, if_pos hin2, if_pos c4]
    · rw [decide_eq_false c4, cond_false, if_neg c4]
  · unfold vmfleetref30_WriteBlock.f
    rw [(valid_true h).2, Option.bind_some, Bool.not_true, cond_false]
    by_cases c1 : b < 0
    case pos => rw [decide_eq_true c1, if_neg (show ¬ (0 ≤ b ∧ b < (m.1.length : Int) ∧ d.size = 128) by omega)]; rfl
    by_cases c2 : b ≥ (m.1.length : Int)
    case pos => rw [decide_eq_false c1, decide_eq_true c2, if_neg (show ¬ (0 ≤ b ∧ b < (m.1.length : Int) ∧ d.size = 128) by omega)]; rfl
    by_cases c3 : (d.size : Int) = 128
    case neg => rw [decide_eq_false c1, decide_eq_false c2, decide_eq_false c3, if_neg (show ¬ (0 ≤ b ∧ b < (m.1.length : Int) ∧ d.size = 128) by omega)]; rfl
    rw [decide_eq_false c1, decide_eq_false c2, decide_eq_true c3, cond_false, cond_false, Bool.not_true, cond_false]
    have hin : 0 ≤ b ∧ b < (m.1.length : Int) := by omega
    have hin2 : 0 ≤ b ∧ b < (m.2.1.length : Int) := by omega
    have hall : 0 ≤ b ∧ b < (m.1.length : Int) ∧ d.size = 128 := by omega
    have hcap : (([] : List ByteArray).length + m.1.length) * 16 ≤ 70368744177664 := by simp; omega
    have hcap2 : (([] : List ByteArray).length + m.2.1.length) * 16 ≤ 70368744177664 := by simp; omega
    rw [if_pos hcap, List.nil_append, List.nil_append, if_pos hin, if_pos hall]
    try dsimp only
    unfold writeC
    by_cases c4 : b < m.2.2
    · rw [decide_eq_true c4, cond_true, if_pos hcap2, if_pos hin2, if_pos c4]
    · rw [decide_eq_false c4, cond_false, if_neg c4]

theorem put_blk {l : List ByteArray} (h : Blk l) (b : Int) {d : ByteArray} (hd : d.size = 128) : Blk (put l b d) := by
  unfold put
  refine ⟨by rw [List.length_set]; exact h.1, by rw [List.length_set]; exact h.2.1, fun s hs => ?_⟩
  rcases List.mem_or_eq_of_mem_set hs with hs | rfl
  · exact h.2.2 s hs
  · exact hd

theorem writeC_ok {m : Mir} (h : MOk m) {b : Int} (h0 : 0 ≤ b) (hb : b < (m.1.length : Int)) {d : ByteArray} (hd : d.size = 128) : MOk (writeC m b d) := by
  have hl := h.len
  have c0 := h.c0
  have c1 := h.c1
  have e1 : (put m.1 b d).length = m.1.length := by unfold put; exact List.length_set
  have e2 : (put m.2.1 b d).length = m.2.1.length := by unfold put; exact List.length_set
  unfold writeC
  by_cases c : b < m.2.2
  · rw [if_pos c]
    refine ⟨put_blk h.s1 b hd, put_blk h.s2 b hd, by dsimp only; omega, c0, by dsimp only; omega, ?_⟩
    try dsimp only
    refine (take_eq_iff (by omega) _).2 fun j hj => ?_
    have := (take_eq_iff hl _).1 h.same j hj
    unfold put
    rw [List.getElem?_set, List.getElem?_set, this, hl]
  · rw [if_neg c]
    refine ⟨put_blk h.s1 b hd, h.s2, by dsimp only; omega, c0, by dsimp only; omega, ?_⟩
    try dsimp only
    refine (take_eq_iff (by omega) _).2 fun j hj => ?_
    have := (take_eq_iff hl _).1 h.same j hj
    unfold put
    rw [List.getElem?_set, if_neg (by omega), this]

/-! ### Beginning, ending -/
def zeroB : ByteArray := strOf (List.replicate 128 (0 : Int))
theorem zeroB_size : zeroB.size = 128 := by unfold zeroB; rw [strOf_size, List.length_replicate]
theorem repeat_zero : strings_Repeat.f (⟨#[0]⟩ : ByteArray) (128 : Int) = some zeroB := by kernel_rfl

def beginC (s : List ByteArray) : Mir := (s, List.replicate s.length zeroB, 0)

theorem beginC_ok {s : List ByteArray} (h : Blk s) : MOk (beginC s) := by
  unfold beginC
  refine ⟨h, ⟨by dsimp only; rw [List.length_replicate]; exact h.1, by dsimp only; rw [List.length_replicate]; exact h.2.1, fun x hx => ?_⟩, by dsimp only; rw [List.length_replicate], Int.le_refl 0, by dsimp only; omega, rfl⟩
  dsimp only at hx
  rw [(List.mem_replicate.1 hx).2]
  exact zeroB_size

theorem begin_loop (s : List ByteArray) (h : s.length ≤ 1000) : loop (Y := (List ByteArray × List ByteArray × Int) ⊕ ((List ByteArray × List ByteArray × Int) × Bool)) (fun (x1 : (List ByteArray × List ByteArray × Int) × Int) =>
      bif decide (x1.2 < (s.length : Int)) then
        (strings_Repeat.f (⟨#[0]⟩ : ByteArray) (128 : Int)).bind fun r3 =>
        if (x1.1.2.1.length + ([r3] : List ByteArray).length) * 16 ≤ 70368744177664 then
          some (.inl ((x1.1.1, x1.1.2.1 ++ ([r3] : List ByteArray), x1.1.2.2), IntKind.wrap .i64 (x1.2 + 1)))
        else none
      else
        some (.inr (.inl x1.1))) ((s, [], (0 : Int)), (0 : Int)) = some (.inl (beginC s)) := by
  refine loop_at (fun i : Nat => ((s, List.replicate i zeroB, (0 : Int)), (i : Int))) s.length (Sum.inl (beginC s)) (fun i hi => ?_) ?_
  · have c : (i : Int) < (s.length : Int) := by omega
    try dsimp only
    rw [decide_eq_true c, cond_true, repeat_zero, Option.bind_some, if_pos (by simp; omega), wrap_i64 (by omega) (by omega)]
    rw [show List.replicate i zeroB ++ [zeroB] = List.replicate (i + 1) zeroB from (List.replicate_succ').symm]
    rfl
  · have c : ¬ ((s.length : Int) < (s.length : Int)) := by omega
    try dsimp only
    rw [decide_eq_false c]
    rfl

theorem begin_iff (s : List ByteArray) : (Blk s → mirror_Begin.f s = some (beginC s, true)) ∧ (¬ Blk s → mirror_Begin.f s = some (([], [], 0), false)) := by
  obtain ⟨b, e, i⟩ := blocks_iff s
  unfold mirror_Begin.f
  rw [e, Option.bind_some]
  constructor
  · intro h
    rw [i.2 h, Bool.not_true, cond_false, cloneM_eq _ (by have := h.2.1; omega), Option.bind_some]
    exact bind32 (begin_loop s (by have := h.2.1; omega)) rfl
  · intro h
    cases b with
    | true => exact absurd (i.1 rfl) h
    | false => rfl

theorem beginR_loop (s : List ByteArray) (h : s.length ≤ 1000) : loop (Y := (List ByteArray × List ByteArray × Int) ⊕ ((List ByteArray × List ByteArray × Int) × Bool)) (fun (x1 : (List ByteArray × List ByteArray × Int) × Int) =>
      bif decide (x1.2 < (s.length : Int)) then
        bif decide (x1.2 ≤ 64) then
          if (x1.1.2.1.length + ([strOf (List.replicate 128 (0 : Int))] : List ByteArray).length) * 16 ≤ 70368744177664 then
            some (.inl ((x1.1.1, (x1.1.2.1 ++ ([strOf (List.replicate 128 (0 : Int))] : List ByteArray)), x1.1.2.2), IntKind.wrap .i64 (x1.2 + 1)))
          else none
        else
          some (.inr (.inl x1.1))
      else
        some (.inr (.inl x1.1))) ((s, [], (0 : Int)), (0 : Int)) = some (.inl (s, List.replicate (min s.length 65) zeroB, 0)) := by
  refine loop_at (fun i : Nat => ((s, List.replicate i zeroB, (0 : Int)), (i : Int))) (min s.length 65) _ (fun i hi => ?_) ?_
  · have c : (i : Int) < (s.length : Int) := by omega
    have c2 : (i : Int) ≤ 64 := by omega
    try dsimp only
    rw [decide_eq_true c, cond_true, decide_eq_true c2, cond_true, if_pos (by simp; omega), wrap_i64 (by omega) (by omega)]
    rw [show List.replicate i zeroB ++ [strOf (List.replicate 128 (0 : Int))] = List.replicate (i + 1) zeroB from (List.replicate_succ' (a := zeroB)).symm]
    rfl
  · dsimp only
    by_cases c : (((min s.length 65 : Nat) : Int) < (s.length : Int))
    · have c2 : ¬ ((min s.length 65 : Nat) : Int) ≤ 64 := by omega
      rw [decide_eq_true c, cond_true, decide_eq_false c2]
      rfl
    · rw [decide_eq_false c]
      rfl

theorem beginR_iff (s : List ByteArray) (hs : s.length ≤ 1000) : (Blk s → vmfleetref30_BeginMirror.f s = some (beginC s, true)) ∧ (¬ Blk s → vmfleetref30_BeginMirror.f s = some (([], [], 0), false)) := by
  unfold vmfleetref30_BeginMirror.f
  rw [if_pos (by simp; omega), List.nil_append]
  constructor
  · intro h
    refine bind32 (beginR_loop s hs) ?_
    have e : min s.length 65 = s.length := by have := h.2.1; omega
    try dsimp only
    rw [e, show ((s, List.replicate s.length zeroB, (0 : Int)) : Mir) = beginC s from rfl, (valid_true (beginC_ok h)).2, Option.bind_some]
    rfl
  · intro h
    refine bind32 (beginR_loop s hs) ?_
    try dsimp only
    obtain ⟨b, e, i⟩ := validR_iff (s, List.replicate (min s.length 65) zeroB, 0) (by dsimp only; omega)
    rw [e, Option.bind_some]
    cases b with
    | true => exact absurd (i.1 rfl).s1 h
    | false => rfl

theorem done_true {m : Mir} (h : MOk m) : mirror_Done.f m = some (decide (m.2.2 = (m.1.length : Int))) ∧ vmfleetref30_DoneMirror.f m = some (decide (m.2.2 = (m.1.length : Int))) := by
  unfold mirror_Done.f vmfleetref30_DoneMirror.f
  rw [(valid_true h).1, (valid_true h).2]
  exact ⟨rfl, rfl⟩

theorem switch_eq {m : Mir} (h : MOk m) : mirror_Switch.f m = some (if m.2.2 = (m.1.length : Int) then (m.2.1, true) else ([], false)) := by
  unfold mirror_Switch.f
  rw [(done_true h).1, Option.bind_some]
  by_cases c : m.2.2 = (m.1.length : Int)
  · rw [decide_eq_true c, Bool.not_true, cond_false, if_pos c, cloneM_eq _ (by have := h.s2.2.1; omega)]
    rfl
  · rw [decide_eq_false c, if_neg c]
    rfl

end Go.Proofs.Ytklckjfafomlmaa.Fn
