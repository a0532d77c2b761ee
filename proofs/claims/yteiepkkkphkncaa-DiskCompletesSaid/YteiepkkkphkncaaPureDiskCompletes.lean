/- The law DiskCompletes, in plain Lean: at every input its function is true. No condition but the arguments' ranges. -/
import Derived.Test.YteiepkkkphkncaaPureCh9b
import Derived.Test.YteiepkkkphkncaaPureMemFill
import Derived.Test.YteiepkkkphkncaaPureMemCopy
import Derived.Test.YteiepkkkphkncaaPureMemSame
set_option linter.unusedVariables false
set_option linter.unusedSimpArgs false
namespace Go.Proofs.Yteiepkkkphkncaa.Fn
open Go Lift

theorem completeR_eq {m : List Int} {k : Nat} (h : m.length = 32 * k) (hk : k ≤ 32) (hu : U32 m) (d : Dsk) (hd : DskOk d) (e : Int × Int × ByteArray) : vmfleetref7_Complete.f d m e = some (dskComplete d m k e) := by
  obtain ⟨_, _, h1, h2⟩ := hd
  obtain ⟨a, b, c, st, cmd, ob, f0, dt⟩ := d
  obtain ⟨ek, n, s⟩ := e
  dsimp only at h1 h2
  obtain ⟨f, rfl⟩ := Int.eq_ofNat_of_zero_le h1
  unfold vmfleetref7_Complete.f dskComplete doneD
  rw [copyR_eq m (by omega), Option.bind_some]
  dsimp only
  by_cases c1 : st = 1
  case neg => rw [decide_eq_false c1, if_neg (fun hh => c1 hh.1)]; rfl
  by_cases c2 : ek = 4
  case neg => rw [decide_eq_true c1, decide_eq_false c2, if_neg (fun hh => c2 hh.2.1)]; rfl
  by_cases c3 : n > 1
  case pos => rw [decide_eq_true c1, decide_eq_true c2, decide_eq_true c3, if_neg (by omega)]; rfl
  rw [decide_eq_true c1, decide_eq_true c2, decide_eq_false c3, Bool.not_true, cond_false, cond_false, cond_false, if_pos ⟨c1, c2, by omega⟩]
  have hsz : (s.size : Int) > 0 ↔ ¬ s = (⟨#[]⟩ : ByteArray) := by
    rw [← size_zero]; omega
  by_cases c4 : n = 1
  · rw [decide_eq_true c4, cond_true, Option.bind_some]
    dsimp only
    by_cases c5 : cmd = 1
    · rw [decide_eq_true c5, cond_true, if_pos ⟨c4, c5⟩]
      by_cases c6 : (s.size : Int) = 128
      case neg => rw [decide_eq_false c6, if_neg (fun hh => c6 (by omega))]; rfl
      rw [decide_eq_true c6, Bool.not_true, cond_false, pageB9_eq h hk h1 h2, Option.bind_some]
      by_cases c7 : (f : Int) < (k : Int)
      case neg => rw [decide_eq_false c7, if_neg (fun hh => c7 hh.1)]; rfl
      rw [decide_eq_true c7, Bool.not_true, cond_false, cond_false, Option.bind_some, if_pos ⟨c7, by omega⟩]
      dsimp only
      rw [cond_true]
      have hl := fill_loop (Z := ((Unit × List Int) ⊕ ((Int × Int × Int × Int × Int × Int × Int × ByteArray) × List Int × Bool))) h hk (show f < k by omega) hu s (by omega)
      rw [fill_whole (pageOf m f) s (by omega)] at hl
      rw [Int.toNat_natCast]
      generalize setP m f s = z at hl ⊢
      refine bindS (a := Sum.inl ((), z)) (bindS hl rfl) ?_
      dsimp only
      rw [cond_true, Option.bind_some]
    · rw [decide_eq_false c5, cond_false, if_neg (fun hh => c5 hh.2), Bool.not_false, cond_true]
      by_cases c6 : s = (⟨#[]⟩ : ByteArray)
      · have c7 : ¬ (s.size : Int) > 0 := fun hh => hsz.1 hh c6
        rw [decide_eq_false c7, cond_false, Option.bind_some, if_pos c6, if_pos c4]
        rfl
      · rw [decide_eq_true (hsz.2 c6), cond_true, Option.bind_some, if_neg c6]
  · rw [decide_eq_false c4, cond_false, Option.bind_some]
    dsimp only
    rw [cond_false, if_neg (fun hh => c4 hh.1), Bool.not_false, cond_true]
    by_cases c6 : s = (⟨#[]⟩ : ByteArray)
    · have c7 : ¬ (s.size : Int) > 0 := fun hh => hsz.1 hh c6
      rw [decide_eq_false c7, cond_false, Option.bind_some, if_pos c6, if_neg c4]
      rfl
    · rw [decide_eq_true (hsz.2 c6), cond_true, Option.bind_some, if_neg c6]

theorem diskMay_some (d : Dsk) (pages : Int) : ∃ r, disk_May.f d pages = some r := by
  unfold disk_May.f
  repeat' (first | exact ⟨_, rfl⟩ | refine cond_some ?_ ?_)

theorem dskComplete_len2 (d : Dsk) (m : List Int) (k : Nat) (e : Int × Int × ByteArray) : (dskComplete d m k e).2.1.length = m.length := by
  unfold dskComplete
  have hz := setP_len m d.2.2.2.2.2.2.1.toNat e.2.2
  generalize setP m d.2.2.2.2.2.2.1.toNat e.2.2 = z at hz ⊢
  by_cases c1 : d.2.2.2.1 = 1 ∧ e.1 = 4 ∧ e.2.1 ≤ 1
  · rw [if_pos c1]
    by_cases c2 : e.2.1 = 1 ∧ d.2.2.2.2.1 = 1
    · rw [if_pos c2]
      by_cases c3 : d.2.2.2.2.2.2.1 < k ∧ e.2.2.size = 128
      · rw [if_pos c3]; exact hz
      · rw [if_neg c3]
    · rw [if_neg c2]
      by_cases c3 : e.2.2 = ⟨#[]⟩
      · rw [if_pos c3]
      · rw [if_neg c3]
  · rw [if_neg c1]

theorem diskCompletes (d : Dsk) (raw : Bool) (n pages : Int) (e : Int × Int × ByteArray) (made : Bool) (hd : DskOk d) : vmfleetlaw9_DiskCompletes.f d raw n pages e made = some true := by
  unfold vmfleetlaw9_DiskCompletes.f
  rw [vmfleetlaw9_awake.ok]
  obtain ⟨r1, e1, hr⟩ := shaped9_ok d raw n hd
  obtain ⟨m, q, e2, q1, q2, hm, hu⟩ := words9_ok n pages
  rw [e1, Option.bind_some, e2, Option.bind_some]
  have key : ∀ y1 : Int × Int × ByteArray, (bif decide ((y1.2.2.size : Int) > 300) then
      ((some true : Option Bool)).bind fun r4 =>
      some r4
    else
      (disk_Complete.f r1 m y1).bind fun r5 =>
      (vmfleetref7_Complete.f r1 m y1).bind fun r6 =>
      bif (eqD (Ty.decEq (.st (.pair (.int .u32) (.pair (.int .u32) (.pair (.int .u32) (.pair (.int .i64) (.pair (.int .i64) (.pair (.int .u32) (.pair (.int .u32) .str))))))))) r5.1 r6.1) then
        (vmfleetref1_SameWords.f r5.2.1 r6.2.1).bind fun r7 =>
        bif r7 then
          bif r5.2.2 == r6.2.2 then
            (disk_Pending.f r1).bind fun r8 =>
            (vmfleetref7_DiskPending.f r1).bind fun r9 =>
            bif r8 == r9 then
              (disk_May.f r1 pages).bind fun r10 =>
              (vmfleetref7_DiskMay.f r1 pages).bind fun r11 =>
              bif r10 == r11 then
                ((some true : Option Bool)).bind fun r12 =>
                some r12
              else
                some false
            else
              some false
          else
            some false
        else
          some false
      else
        some false) = some true := by
    intro y
    by_cases c : (y.2.2.size : Int) > 300
    · rw [decide_eq_true c]; rfl
    rw [decide_eq_false c, cond_false, complete_eq hm (by omega) r1 hr, Option.bind_some, completeR_eq hm (by omega) hu r1 hr, Option.bind_some]
    have hl := dskComplete_len2 r1 m q y
    generalize dskComplete r1 m q y = z at hl ⊢
    rw [eqD_self, cond_true, sameW_self _ (by omega), Option.bind_some, cond_true, beq_self_eq_true, cond_true]
    obtain ⟨b, b1⟩ := diskMay_some r1 pages
    have b2 : vmfleetref7_DiskMay.f r1 pages = some b := b1
    have hp : ∃ z, disk_Pending.f r1 = some z := by
      unfold disk_Pending.f
      repeat' (first | exact ⟨_, rfl⟩ | refine cond_some ?_ ?_)
    obtain ⟨g, g1⟩ := hp
    have g2 : vmfleetref7_DiskPending.f r1 = some g := g1
    rw [g1, Option.bind_some, g2, Option.bind_some, beq_self_eq_true, cond_true, b1, Option.bind_some, b2, Option.bind_some, beq_self_eq_true, cond_true]
    rfl
  cases made with
  | false => rw [cond_false, Option.bind_some]; exact key e
  | true =>
    obtain ⟨s, es⟩ := event_some n
    rw [cond_true, es, Option.bind_some, Option.bind_some]
    exact key s

theorem vmfleetlaw9_DiskCompletes.pure (x : (tup vmfleetlaw9_DiskCompletes.sp.args).den) (h : WfL vmfleetlaw9_DiskCompletes.sp.args x) : vmfleetlaw9_DiskCompletes.sp.f x = some true :=
  diskCompletes x.1 x.2.1 x.2.2.1 x.2.2.2.1 x.2.2.2.2.1 x.2.2.2.2.2 ⟨h.1.2.2.1.1, h.1.2.2.1.2, h.1.2.2.2.2.2.2.1.1, h.1.2.2.2.2.2.2.1.2⟩

end Go.Proofs.Yteiepkkkphkncaa.Fn
