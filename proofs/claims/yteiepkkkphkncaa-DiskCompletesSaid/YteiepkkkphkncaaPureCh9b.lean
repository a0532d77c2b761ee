/- The completion of a command and validity (chapter 9), in plain Lean. -/
import Derived.Test.YteiepkkkphkncaaPureCh9
set_option linter.unusedVariables false
set_option linter.unusedSimpArgs false
namespace Go.Proofs.Yteiepkkkphkncaa.Fn
open Go Lift

def doneD (d : Dsk) (s : Int) : Dsk := (d.1, d.2.1, d.2.2.1, s, 0, 0, 0, ⟨#[]⟩)

def dskComplete (d : Dsk) (m : List Int) (k : Nat) (e : Int × Int × ByteArray) : Dsk × List Int × Bool :=
  if d.2.2.2.1 = 1 ∧ e.1 = 4 ∧ e.2.1 ≤ 1 then
    if e.2.1 = 1 ∧ d.2.2.2.2.1 = 1 then
      if d.2.2.2.2.2.2.1 < k ∧ e.2.2.size = 128 then (doneD d 2, setP m d.2.2.2.2.2.2.1.toNat e.2.2, true) else (d, m, false)
    else if e.2.2 = ⟨#[]⟩ then (doneD d (if e.2.1 = 1 then 2 else 3), m, true) else (d, m, false)
  else (d, m, false)

theorem complete_eq {m : List Int} {k : Nat} (h : m.length = 32 * k) (hk : k ≤ 32) (d : Dsk) (hd : DskOk d) (e : Int × Int × ByteArray) : disk_Complete.f d m e = some (dskComplete d m k e) := by
  obtain ⟨_, _, h1, h2⟩ := hd
  unfold disk_Complete.f dskComplete
  obtain ⟨f, hf⟩ := Int.eq_ofNat_of_zero_le h1
  have e1 : IntKind.wrap .i64 d.2.2.2.2.2.2.1 = (f : Int) := by rw [wrap_i64 (by omega) (by omega), hf]
  have e2 : d.2.2.2.2.2.2.1.toNat = f := by omega
  have e3 : d.2.2.2.2.2.2.1 < (k : Int) ↔ f < k := by omega
  obtain ⟨P, hP, hPe⟩ : ∃ P, memory_SetPage.f m f e.2.2 = some P ∧ P = if f < k ∧ e.2.2.size = 128 then (setP m f e.2.2, true) else (m, false) := ⟨_, setPage_eq h hk f e.2.2, rfl⟩
  rw [clone32_eq m (by omega), Option.bind_some, e1, hP, Option.bind_some, e2]
  generalize setP m f e.2.2 = z at hPe ⊢
  by_cases c1 : d.2.2.2.1 = 1
  · by_cases c2 : e.1 = 4
    · by_cases c3 : e.2.1 ≤ 1
      · have c3' : ¬ e.2.1 > 1 := by omega
        rw [if_pos ⟨c1, c2, c3⟩, decide_eq_true c1, decide_eq_true c2, decide_eq_false c3']
        simp only [Bool.not_true, cond_false]
        by_cases c4 : e.2.1 = 1
        · by_cases c5 : d.2.2.2.2.1 = 1
          · rw [if_pos ⟨c4, c5⟩, decide_eq_true c4, decide_eq_true c5]
            by_cases c6 : f < k ∧ e.2.2.size = 128
            · rw [if_pos c6] at hPe
              rw [if_pos ⟨e3.2 c6.1, c6.2⟩, hPe]
              rfl
            · rw [if_neg c6] at hPe
              rw [if_neg (fun hh => c6 ⟨e3.1 hh.1, hh.2⟩), hPe]
              rfl
          · rw [if_neg (fun hh => c5 hh.2), decide_eq_true c4, decide_eq_false c5, if_pos c4]
            by_cases c8 : e.2.2 = (⟨#[]⟩ : ByteArray)
            · rw [if_pos c8, decide_eq_true c8]; rfl
            · rw [if_neg c8, decide_eq_false c8]; rfl
        · rw [if_neg (fun hh => c4 hh.1), decide_eq_false c4, if_neg c4]
          by_cases c8 : e.2.2 = (⟨#[]⟩ : ByteArray)
          · rw [if_pos c8, decide_eq_true c8]; rfl
          · rw [if_neg c8, decide_eq_false c8]; rfl
      · have c3' : e.2.1 > 1 := by omega
        rw [if_neg (fun hh => c3 hh.2.2), decide_eq_true c1, decide_eq_true c2, decide_eq_true c3']
        rfl
    · rw [if_neg (fun hh => c2 hh.2.1), decide_eq_true c1, decide_eq_false c2]
      rfl
  · rw [if_neg (fun hh => c1 hh.1), decide_eq_false c1]
    rfl

def idle (d : Dsk) : Prop := d.2.2.2.2.1 = 0 ∧ d.2.2.2.2.2.1 = 0 ∧ d.2.2.2.2.2.2.1 = 0 ∧ d.2.2.2.2.2.2.2 = ⟨#[]⟩
def busy (d : Dsk) (k : Nat) : Prop := d.2.2.2.2.2.1 < d.1 ∧ d.2.2.2.2.2.2.1 < k ∧ ((d.2.2.2.2.1 = 1 ∧ d.2.2.2.2.2.2.2 = ⟨#[]⟩) ∨ (d.2.2.2.2.1 = 2 ∧ (d.2.2.2.2.2.2.2.size : Int) = 128))
/-- A controller as it may be. -/
def May (d : Dsk) (k : Nat) : Prop := d.1 ≤ 64 ∧ 0 ≤ d.2.2.2.1 ∧ d.2.2.2.1 ≤ 3 ∧ ((d.2.2.2.1 = 1 ∧ busy d k) ∨ (d.2.2.2.1 ≠ 1 ∧ idle d))

theorem may_iff (d : Dsk) (hd : DskOk d) (k : Nat) : ∃ b, disk_May.f d k = some b ∧ (b = true ↔ May d k) := by
  obtain ⟨_, _, h1, h2⟩ := hd
  unfold disk_May.f May busy idle
  rw [wrap_i64 (n := d.2.2.2.2.2.2.1) (by omega) (by omega)]
  generalize d.2.2.2.2.2.2.2 = D
  generalize d.2.2.2.2.2.2.1 = cf at h1 h2 ⊢
  generalize d.2.2.2.2.2.1 = cb
  generalize d.2.2.2.2.1 = kd
  generalize d.2.2.2.1 = st
  generalize d.1 = bl
  by_cases a1 : bl > 64
  · exact ⟨false, by simp only [a1, decide_true, cond_true], by simp; omega⟩
  · by_cases a2 : st < 0
    · exact ⟨false, by simp only [a1, a2, decide_true, decide_false, cond_true, cond_false], by simp; omega⟩
    · by_cases a3 : st > 3
      · exact ⟨false, by simp only [a1, a2, a3, decide_true, decide_false, cond_true, cond_false], by simp; omega⟩
      · have b1 : bl ≤ 64 := by omega
        have b2 : 0 ≤ st := by omega
        have b3 : st ≤ 3 := by omega
        simp only [a1, a2, a3, decide_false, cond_false, b1, b2, b3, true_and]
        by_cases a4 : st = 1
        · simp only [a4, decide_true, Bool.not_true, cond_false, true_and, ne_eq, not_true_eq_false, false_and, or_false]
          by_cases a5 : cb ≥ bl
          · exact ⟨false, by simp only [a5, decide_true, cond_true], by simp; omega⟩
          · by_cases a6 : cf ≥ (k : Int)
            · exact ⟨false, by simp only [a5, a6, decide_true, decide_false, cond_true, cond_false], by simp; omega⟩
            · have b5 : cb < bl := by omega
              have b6 : cf < (k : Int) := by omega
              simp only [a5, a6, decide_false, cond_false, b5, b6, true_and]
              by_cases a7 : kd = 1
              · have n7 : ¬ (1 : Int) = 2 := by decide
                by_cases a8 : D = (⟨#[]⟩ : ByteArray)
                · exact ⟨true, by simp only [a7, a8, decide_true, cond_true], by simp [a7, a8]⟩
                · exact ⟨false, by simp only [a7, a8, n7, decide_true, decide_false, cond_true, cond_false], by simp only [a7, a8, n7]; simp⟩
              · by_cases a9 : kd = 2
                · have n9 : ¬ (2 : Int) = 1 := by decide
                  exact ⟨decide ((D.size : Int) = 128), by simp only [a9, n9, decide_true, decide_false, cond_true, cond_false], by simp only [a9, n9]; simp⟩
                · exact ⟨false, by simp only [a7, a9, decide_false, cond_false], by simp [a7, a9]⟩
        · simp only [a4, decide_false, Bool.not_false, cond_true, false_and, false_or, ne_eq, not_false_eq_true, true_and]
          by_cases a5 : kd = 0
          · by_cases a6 : cb = 0
            · by_cases a7 : cf = 0
              · exact ⟨decide (D = (⟨#[]⟩ : ByteArray)), by simp only [a5, a6, a7, decide_true, cond_true], by simp only [a5, a6, a7, decide_eq_true_eq, true_and]⟩
              · exact ⟨false, by simp only [a5, a6, a7, decide_true, decide_false, cond_true, cond_false], by simp [a7]⟩
            · exact ⟨false, by simp only [a5, a6, decide_true, decide_false, cond_true, cond_false], by simp [a6]⟩
          · exact ⟨false, by simp only [a5, decide_false, cond_false], by simp [a5]⟩

theorem out_may {d : Dsk} {k : Nat} {m : List Int} (hm : m.length = 32 * k) (hk : k ≤ 32) (hd : DskOk d) (h : May d k) {port v at_ : Int} (hv : 0 ≤ v ∧ v ≤ 4294967295) : May (dskOut d m k port v at_).1 k ∧ DskOk (dskOut d m k port v at_).1 := by
  obtain ⟨g1, g2, g3, g4⟩ := hd
  obtain ⟨m1, m2, m3, m4⟩ := h
  have keep : May d k ∧ DskOk d := ⟨⟨m1, m2, m3, m4⟩, g1, g2, g3, g4⟩
  unfold dskOut
  split
  · exact ⟨⟨m1, m2, m3, m4⟩, g1, g2, g3, g4⟩
  · split
    · exact ⟨⟨m1, m2, m3, m4⟩, hv.1, hv.2, g3, g4⟩
    · split
      · split
        · split
          · rename_i hs
            refine ⟨⟨m1, Int.le_refl 0, (by show (0 : Int) ≤ 3; decide), .inr ⟨(by show (0 : Int) ≠ 1; decide), ?_⟩⟩, g1, g2, g3, g4⟩
            rcases m4 with ⟨h1, _⟩ | ⟨_, hi⟩
            · omega
            · exact hi
          · exact keep
        · split
          · rename_i hv12
            split
            · rename_i hs
              have hi : idle d := by
                rcases m4 with ⟨h1, _⟩ | ⟨_, hi⟩
                · omega
                · exact hi
              split
              · rename_i hc
                refine ⟨⟨m1, (by show (0 : Int) ≤ 1; decide), (by show (1 : Int) ≤ 3; decide), .inl ⟨rfl, hc.1, hc.2, ?_⟩⟩, g1, g2, g1, g2⟩
                rcases hv12 with rfl | rfl
                · exact .inl ⟨rfl, rfl⟩
                · refine .inr ⟨rfl, ?_⟩
                  have : d.2.2.1.toNat < k := by omega
                  show ((pageOf m d.2.2.1.toNat).size : Int) = 128
                  rw [pageOf_size hm hk this]; rfl
              · exact ⟨⟨m1, (by show (0 : Int) ≤ 3; decide), Int.le_refl 3, .inr ⟨(by show (3 : Int) ≠ 1; decide), hi⟩⟩, g1, g2, g3, g4⟩
            · exact keep
          · exact keep
      · exact keep

theorem complete_may {d : Dsk} {k : Nat} {m : List Int} (hd : DskOk d) (h : May d k) (e : Int × Int × ByteArray) : May (dskComplete d m k e).1 k ∧ DskOk (dskComplete d m k e).1 ∧ (dskComplete d m k e).2.1.length = m.length := by
  obtain ⟨g1, g2, g3, g4⟩ := hd
  have h0 := h
  obtain ⟨m1, m2, m3, m4⟩ := h0
  have keep : May d k ∧ DskOk d ∧ m.length = m.length := ⟨h, ⟨g1, g2, g3, g4⟩, rfl⟩
  have done : ∀ s : Int, 0 ≤ s → s ≤ 3 → s ≠ 1 → May (doneD d s) k ∧ DskOk (doneD d s) := fun s h1 h2 h3 => ⟨⟨m1, h1, h2, .inr ⟨h3, rfl, rfl, rfl, rfl⟩⟩, g1, g2, Int.le_refl 0, (by show (0 : Int) ≤ 4294967295; decide)⟩
  have hlen := setP_len m d.2.2.2.2.2.2.1.toNat e.2.2
  unfold dskComplete
  generalize setP m d.2.2.2.2.2.2.1.toNat e.2.2 = z at hlen ⊢
  split
  · split
    · split
      · have := done 2 (by decide) (by decide) (by decide)
        exact ⟨this.1, this.2, hlen⟩
      · exact keep
    · split
      · split
        · have := done 2 (by decide) (by decide) (by decide)
          exact ⟨this.1, this.2, rfl⟩
        · have := done 3 (by decide) (by decide) (by decide)
          exact ⟨this.1, this.2, rfl⟩
      · exact keep
  · exact keep

theorem event_some (n : Int) : ∃ e, vmfleetmake_Event.f n = some e := by
  unfold vmfleetmake_Event.f
  obtain ⟨r, hr⟩ := mix_ok n 2
  obtain ⟨s, es, _⟩ := data9_ok r 128 (by decide)
  have es : vmfleetmake_Data.f r (128 : Int) = some s := es
  have h2 : ∃ s, vmfleetmake_Data.f r (IntKind.wrap .i64 (1 + (Int.tmod (shrI .i64 r (8 : Int)) (40 : Int)))) = some s := by
    have t1 := Int.tmod_lt_of_pos (shrI .i64 r 8) (b := 40) (by decide)
    have t2 := Int.lt_tmod_of_pos (shrI .i64 r 8) (b := 40) (by decide)
    generalize Int.tmod (shrI .i64 r 8) 40 = q at t1 t2 ⊢
    rw [wrap_i64 (by omega) (by omega)]
    by_cases hq : 0 ≤ 1 + q
    · obtain ⟨j, hj⟩ := Int.eq_ofNat_of_zero_le hq
      obtain ⟨s, es, _⟩ := data9_ok r j (by omega)
      exact ⟨s, by rw [hj]; exact es⟩
    · unfold vmfleetmake_Data.f
      rw [loop_eq]
      have : ¬ (0 : Int) < 1 + q := by omega
      simp only [this, decide_false, cond_false, Option.bind_some]
      exact ⟨_, rfl⟩
  obtain ⟨s2, es2⟩ := h2
  rw [hr, Option.bind_some]
  generalize Int.tmod r 7 = t
  by_cases t0 : t = 0
  · exact ⟨_, by rw [t0]; rfl⟩
  · rw [decide_eq_false t0, cond_false]
    have rest : ∀ y1 : Bool, ∃ e, (bif y1 then
          some ((3 : Int), IntKind.wrap .u32 (andI .i64 (shrI .i64 r (8 : Int)) (255 : Int)), (⟨#[]⟩ : ByteArray))
        else
          bif decide (t = 3) then
            some ((4 : Int), (1 : Int), (⟨#[]⟩ : ByteArray))
          else
            bif decide (t = 4) then
              (vmfleetmake_Data.f r (128 : Int)).bind fun r2 =>
              some ((4 : Int), (1 : Int), r2)
            else
              bif decide (t = 5) then
                (vmfleetmake_Data.f r (IntKind.wrap .i64 (1 + (Int.tmod (shrI .i64 r (8 : Int)) (40 : Int))))).bind fun r3 =>
                some ((5 : Int), (0 : Int), r3)
              else
                bif decide ((Int.tmod (shrI .i64 r (8 : Int)) (4 : Int)) = 0) then
                  some ((4 : Int), (0 : Int), (⟨#[]⟩ : ByteArray))
                else
                  some ((6 : Int), IntKind.wrap .u32 (Int.tmod (shrI .i64 r (8 : Int)) (3 : Int)), (⟨#[]⟩ : ByteArray))) = some e := by
      intro y1
      rw [es, es2]
      cases y1 with
      | true => exact ⟨_, rfl⟩
      | false =>
        rw [cond_false]
        cases decide (t = 3)
        · rw [cond_false]
          cases decide (t = 4)
          · rw [cond_false]
            cases decide (t = 5)
            · rw [cond_false]
              cases decide ((Int.tmod (shrI .i64 r (8 : Int)) (4 : Int)) = 0)
              · exact ⟨_, rfl⟩
              · exact ⟨_, rfl⟩
            · exact ⟨_, rfl⟩
          · exact ⟨_, rfl⟩
        · exact ⟨_, rfl⟩
    by_cases t1 : t = 1
    · rw [decide_eq_true t1, cond_true, Option.bind_some]
      exact rest true
    · rw [decide_eq_false t1, cond_false, Option.bind_some]
      exact rest _

end Go.Proofs.Yteiepkkkphkncaa.Fn
