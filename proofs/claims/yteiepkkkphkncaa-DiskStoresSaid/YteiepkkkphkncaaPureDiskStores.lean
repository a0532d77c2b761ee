/- The law DiskStores, in plain Lean: at every input its function is true. No condition but the arguments' ranges. -/
import Derived.Test.YteiepkkkphkncaaPureCh9b
import Derived.Test.YteiepkkkphkncaaPureMemBack
set_option linter.unusedVariables false
set_option linter.unusedSimpArgs false
namespace Go.Proofs.Yteiepkkkphkncaa.Fn
open Go Lift

/-- A controller at work: registers, kind, block, frame, content of the command. -/
def atWork (x y k b q : Int) (D : ByteArray) : Dsk := (4, x, y, 1, k, b, q, D)

theorem atWork_out {m : List Int} {kk : Nat} {x y k b q : Int} {D : ByteArray} {r v : Int} (hy : 0 ≤ y ∧ y ≤ 4294967295) (hr : 0 ≤ r ∧ r < 3) (hv : 0 ≤ v ∧ v ≤ 4294967295) : ∃ x' y', dskOut (atWork x y k b q D) m kk (4 + r) v 4 = (atWork x' y' k b q D, []) ∧ 0 ≤ y' ∧ y' ≤ 4294967295 := by
  unfold dskOut
  by_cases r0 : r = 0
  · subst r0
    exact ⟨v, y, by simp [atWork], hy⟩
  · by_cases r1 : r = 1
    · subst r1
      exact ⟨x, v, by simp [atWork], hv⟩
    · have r2 : r = 2 := by omega
      subst r2
      exact ⟨x, y, by simp [atWork], hy⟩

theorem sameWords_self (a : List Int) (hl : a.length ≤ 1000000) : vmfleetref1_SameWords.f a a = some true := by
  unfold vmfleetref1_SameWords.f
  simp only [decide_true, Bool.not_true, cond_false]
  rw [loop_all a (fun _ => true) (.inr false) (.inl ()) ?h1 ?h2]
  · simp
  case h1 =>
    intro i x hx
    have hi := idx_lt hx
    have hb : 0 ≤ (i : Int) ∧ (i : Int) < a.length := ⟨by omega, hi⟩
    simp only [hi, decide_true, cond_true, hb, and_self, if_true, Bool.not_true, cond_false]
    rw [wrap_i64 (n := (i : Int) + 1) (by omega) (by omega)]
  case h2 => simp

theorem stores_loop (l : List Int) (hl : (l.length : Int) ≤ 20) (m : List Int) (kk : Nat) (k1 : 1 ≤ kk) (k6 : kk ≤ 6) (hm : m.length = 32 * kk) (x y k b q : Int) (D : ByteArray) (hy : 0 ≤ y ∧ y ≤ 4294967295) (hq : 0 ≤ q ∧ q ≤ 4294967295) :
    ∃ z, (loop (Y := (List Int × Int × Int × Int × Int × Int × Int × Int × ByteArray) ⊕ (Bool)) (fun (x3 : List Int × (Int × Int × Int × Int × Int × Int × Int × ByteArray) × Int) =>
                bif decide (x3.2.2 < (l.length : Int)) then
                  if 0 ≤ x3.2.2 ∧ x3.2.2 < (l.length : Int) then
                    (vmfleetmake_Round.f (nth (0 : Int) l x3.2.2) (x3.1.length : Int)).bind fun r8 =>
                    if 0 ≤ x3.2.2 ∧ x3.2.2 < (l.length : Int) then
                      let v3 := andI .i64 (nth (0 : Int) l x3.2.2) (4294967295 : Int)
                      if 0 ≤ r8 ∧ r8 < (x3.1.length : Int) then
                        if 0 ≤ x3.2.2 ∧ x3.2.2 < (l.length : Int) then
                          (vmfleetmake_Round.f (nth (0 : Int) l x3.2.2) (3 : Int)).bind fun r9 =>
                          if 0 ≤ x3.2.2 ∧ x3.2.2 < (l.length : Int) then
                            (disk_Out.f x3.2.1 (put x3.1 r8 (IntKind.wrap .u32 v3)) (IntKind.wrap .i64 (4 + r9)) (IntKind.wrap .u32 (andI .i64 (nth (0 : Int) l x3.2.2) (3 : Int))) (4 : Int)).bind fun r10 =>
                            bif decide ((r10.2.length : Int) > 0) then
                              some (.inr (.inr false))
                            else
                              some (.inl (put x3.1 r8 (IntKind.wrap .u32 v3), r10.1, IntKind.wrap .i64 (x3.2.2 + 1)))
                          else none
                        else none
                      else none
                    else none
                  else none
                else
                  some (.inr (.inl (x3.1, x3.2.1)))) (m, atWork x y k b q D, (0 : Int))) = some z ∧ ∃ m' x' y', z = .inl (m', atWork x' y' k b q D) ∧ m'.length = 32 * kk ∧ 0 ≤ y' ∧ y' ≤ 4294967295 := by
  refine loop_ind (I := fun z => 0 ≤ z.2.2 ∧ z.2.2 ≤ (l.length : Int) ∧ z.1.length = 32 * kk ∧ ∃ x' y', z.2.1 = atWork x' y' k b q D ∧ 0 ≤ y' ∧ y' ≤ 4294967295) (fun z => ((l.length : Int) - z.2.2).toNat) ⟨Int.le_refl 0, by simp only; omega, hm, x, y, rfl, hy⟩ fun z hI => ?_
  obtain ⟨m1, d, i⟩ := z
  obtain ⟨i1, i2, hm1, x1, y1, hd, hy1⟩ := hI
  simp only at i1 i2 hm1 hd ⊢
  subst hd
  by_cases hi : i < (l.length : Int)
  · left
    have hb : 0 ≤ i ∧ i < (l.length : Int) := ⟨i1, hi⟩
    obtain ⟨r8, e8, a1, a2⟩ := round_ok (nth (0 : Int) l i) (m1.length : Int) (by omega) (by omega)
    obtain ⟨r9, e9, b1, b2⟩ := round_ok (nth (0 : Int) l i) 3 (by decide) (by decide)
    have hv := wrap_u32_range (andI .i64 (nth (0 : Int) l i) (3 : Int))
    simp only [hi, decide_true, cond_true, hb, and_self, if_true, e8, e9, Option.bind_some]
    rw [if_pos ⟨a1, a2⟩]
    generalize hw : IntKind.wrap .u32 (andI .i64 (nth (0 : Int) l i) (4294967295 : Int)) = w
    have hlen : (put m1 r8 w).length = 32 * kk := by unfold put; rw [List.length_set]; exact hm1
    generalize put m1 r8 w = m2 at hlen ⊢
    generalize IntKind.wrap .u32 (andI .i64 (nth (0 : Int) l i) (3 : Int)) = v at hv ⊢
    obtain ⟨x', y', e10, hy'⟩ := atWork_out (m := m2) (kk := kk) (x := x1) (y := y1) (k := k) (b := b) (q := q) (D := D) hy1 ⟨b1, b2⟩ hv
    rw [wrap_i64 (n := 4 + r9) (by omega) (by omega), dskOut_eqA hlen (by omega) _ ⟨hy1.1, hy1.2, hq.1, hq.2⟩, Option.bind_some, e10, wrap_i64 (n := i + 1) (by omega) (by omega)]
    exact ⟨_, rfl, ⟨by simp only; omega, by simp only; omega, hlen, x', y', rfl, hy'⟩, by simp only; omega⟩
  · right
    exact ⟨_, by simp only [hi, decide_false, cond_false], m1, x1, y1, rfl, hm1, hy1⟩

theorem diskStores (n pages block frame : Int) (l : List Int) (read : Bool) (h1 : 0 ≤ block ∧ block ≤ 4294967295) (h2 : 0 ≤ frame) : vmfleetlaw9_DiskStores.f n pages block frame l read = some true := by
  unfold vmfleetlaw9_DiskStores.f
  rw [vmfleetlaw9_awake.ok]
  by_cases hl : (l.length : Int) > 20
  · rw [decide_eq_true hl]; rfl
  rw [decide_eq_false hl, cond_false]
  obtain ⟨m, k, e2, q1, q2, hm, hu⟩ := words9_ok n pages
  rw [e2, Option.bind_some, pagesR_eq hm (by omega), Option.bind_some, wrap_u32 (n := (k : Int)) (by omega) (by omega), if_neg (by omega)]
  have hb : 0 ≤ Int.tmod block 4 ∧ Int.tmod block 4 < 4 := by rw [Int.tmod_eq_emod_of_nonneg h1.1]; omega
  have hq : 0 ≤ Int.tmod frame (k : Int) ∧ Int.tmod frame (k : Int) < (k : Int) := by
    rw [Int.tmod_eq_emod_of_nonneg h2]
    exact ⟨Int.emod_nonneg _ (by omega), Int.emod_lt_of_pos _ (by omega)⟩
  generalize Int.tmod block 4 = b at hb ⊢
  generalize Int.tmod frame (k : Int) = q at hq ⊢
  obtain ⟨f, rfl⟩ := Int.eq_ofNat_of_zero_le hq.1
  have hf : f < k := by omega
  have ewq : IntKind.wrap .i64 (f : Int) = (f : Int) := wrap_i64 (by omega) (by omega)
  rw [ewq]
  have k32 : k ≤ 32 := by omega
  have u0 : (0 : Int) ≤ 4294967295 := by decide
  have hfu : 0 ≤ (f : Int) ∧ (f : Int) ≤ 4294967295 := by omega
  have o1 : ∀ v, disk_Out.f ((4 : Int), (0 : Int), (0 : Int), (0 : Int), (0 : Int), (0 : Int), (0 : Int), (⟨#[]⟩ : ByteArray)) m (4 : Int) v (0 : Int) = some (((4 : Int), v, (0 : Int), (0 : Int), (0 : Int), (0 : Int), (0 : Int), (⟨#[]⟩ : ByteArray)), []) := fun v => dskOut_eqA hm k32 _ ⟨Int.le_refl 0, u0, Int.le_refl 0, u0⟩ _ _ _
  have o2 : ∀ v, disk_Out.f ((4 : Int), b, (0 : Int), (0 : Int), (0 : Int), (0 : Int), (0 : Int), (⟨#[]⟩ : ByteArray)) m (5 : Int) v (0 : Int) = some (((4 : Int), b, v, (0 : Int), (0 : Int), (0 : Int), (0 : Int), (⟨#[]⟩ : ByteArray)), []) := fun v => dskOut_eqA hm k32 _ ⟨Int.le_refl 0, u0, Int.le_refl 0, u0⟩ _ _ _
  have o3 : ∀ v, v = 1 ∨ v = 2 → disk_Out.f ((4 : Int), b, (f : Int), (0 : Int), (0 : Int), (0 : Int), (0 : Int), (⟨#[]⟩ : ByteArray)) m (6 : Int) v (3 : Int) = some (atWork b f v b f (if v = 2 then pageOf m f else ⟨#[]⟩), [(reqOf (atWork b f v b f (if v = 2 then pageOf m f else ⟨#[]⟩)) 3).1]) := by
    intro v hv
    rw [dskOut_eqA hm k32 _ ⟨hfu.1, hfu.2, Int.le_refl 0, u0⟩]
    have hv0 : ¬ v = 0 := by omega
    have hc : b < 4 ∧ (f : Int) < (k : Int) := ⟨hb.2, hq.2⟩
    simp only [dskOut, show ¬ (6 : Int) = 4 by decide, show ¬ (6 : Int) = 5 by decide, if_false, if_true, hv0, hv, hc, and_self, issue, atWork, Int.toNat_natCast]
  have rq : ∀ x' y' v D, disk_Request.f (atWork x' y' v b f D) 3 = some (reqOf (atWork x' y' v b f D) 3) := fun x' y' v D => req_eq _ _
  cases read with
  | true =>
    rw [cond_true, Option.bind_some]
    try dsimp only
    rw [pageR_eq hm k32, Option.bind_some, o1, Option.bind_some, o2, Option.bind_some, o3 1 (.inl rfl), Option.bind_some, cond_true, Option.bind_some]
    have hD : (if (1 : Int) = 2 then pageOf m f else (⟨#[]⟩ : ByteArray)) = ⟨#[]⟩ := if_neg (by decide)
    have hR : ∀ x' y', reqOf (atWork x' y' 1 b f ⟨#[]⟩) 3 = (((3 : Int), (3 : Int), b, (⟨#[]⟩ : ByteArray)), true) := fun _ _ => rfl
    rw [hD, hR]
    obtain ⟨z, ez, m', x', y', rfl, hm', hy'⟩ := stores_loop l (by omega) m k q1 q2 hm b f 1 b f ⟨#[]⟩ hfu hfu
    obtain ⟨s, es, hs⟩ := data9_ok n 128 (by decide)
    have es : vmfleetmake_Data.f n (128 : Int) = some s := es
    have hcomp : dskComplete (atWork x' y' 1 b f ⟨#[]⟩) m' k ((4 : Int), (1 : Int), s) = (doneD (atWork x' y' 1 b f ⟨#[]⟩) 2, setP m' f s, true) := by
      unfold dskComplete
      rw [if_pos ⟨rfl, rfl, Int.le_refl 1⟩, if_pos ⟨rfl, rfl⟩, if_pos ⟨hq.2, hs⟩]
      rfl
    have hback := page_back hm' hf hs
    have hlen : (setP m' f s).length = 32 * k := by rw [setP_len]; exact hm'
    have hpg := pageR_eq hlen k32 f
    rw [if_pos hf, hback] at hpg
    generalize setP m' f s = m2 at hcomp hpg
    have hco := complete_eq hm' k32 (atWork x' y' 1 b f ⟨#[]⟩) ⟨hy'.1, hy'.2, hfu.1, hfu.2⟩ ((4 : Int), (1 : Int), s)
    rw [hcomp] at hco
    simp only [List.length_cons, List.length_nil, Nat.zero_add, decide_true, Bool.not_true, cond_false, Int.natCast_one, show (0 : Int) ≤ 0 ∧ (0 : Int) < 1 by decide, and_self, if_true]
    rw [show nth ((0 : Int), (0 : Int), (0 : Int), (⟨#[]⟩ : ByteArray)) [((3 : Int), (3 : Int), b, (⟨#[]⟩ : ByteArray))] 0 = ((3 : Int), (3 : Int), b, (⟨#[]⟩ : ByteArray)) from rfl]
    simp only [decide_true, Bool.not_true, cond_false]
    rw [ez, Option.bind_some]
    try dsimp only
    rw [rq, hR, Option.bind_some]
    try dsimp only
    rw [Bool.not_true, cond_false, decide_eq_true rfl, Bool.not_true, cond_false, es, Option.bind_some, cond_true, Option.bind_some]
    try dsimp only
    rw [hco, Option.bind_some]
    try dsimp only
    rw [hpg, Option.bind_some]
    try dsimp only
    rw [cond_true, decide_eq_true (show (doneD (atWork x' y' 1 b f ⟨#[]⟩) 2).2.2.2.1 = 2 from rfl), cond_true]
    try rw [Bool.not_true, cond_false]
    rw [decide_eq_true (rfl : s = s)]
    rfl
  | false =>
    rw [cond_false, Option.bind_some]
    try dsimp only
    rw [pageR_eq hm k32, if_pos hf, Option.bind_some, o1, Option.bind_some, o2, Option.bind_some, o3 2 (.inr rfl), Option.bind_some, cond_false, Option.bind_some]
    have hD : (if (2 : Int) = 2 then pageOf m f else (⟨#[]⟩ : ByteArray)) = pageOf m f := if_pos rfl
    rw [hD]
    generalize pageOf m f = D
    have hR : ∀ x' y', reqOf (atWork x' y' 2 b f D) 3 = (((4 : Int), (3 : Int), b, D), true) := fun _ _ => rfl
    rw [hR]
    obtain ⟨z, ez, m', x', y', rfl, hm', hy'⟩ := stores_loop l (by omega) m k q1 q2 hm b f 2 b f D hfu hfu
    have hcomp : dskComplete (atWork x' y' 2 b f D) m' k ((4 : Int), (1 : Int), (⟨#[]⟩ : ByteArray)) = (doneD (atWork x' y' 2 b f D) 2, m', true) := by
      unfold dskComplete
      rw [if_pos ⟨rfl, rfl, Int.le_refl 1⟩, if_neg (fun hh => absurd hh.2 (show ¬ (2 : Int) = 1 by decide)), if_pos rfl]
      rfl
    have hco := complete_eq hm' k32 (atWork x' y' 2 b f D) ⟨hy'.1, hy'.2, hfu.1, hfu.2⟩ ((4 : Int), (1 : Int), (⟨#[]⟩ : ByteArray))
    rw [hcomp] at hco
    have hpg := pageR_eq hm' k32 f
    rw [if_pos hf] at hpg
    have hsw := sameWords_self m' (by omega)
    simp only [List.length_cons, List.length_nil, Nat.zero_add, decide_true, Bool.not_true, cond_false, Int.natCast_one, show (0 : Int) ≤ 0 ∧ (0 : Int) < 1 by decide, and_self, if_true]
    rw [show nth ((0 : Int), (0 : Int), (0 : Int), (⟨#[]⟩ : ByteArray)) [((4 : Int), (3 : Int), b, D)] 0 = ((4 : Int), (3 : Int), b, D) from rfl]
    simp only [decide_true, Bool.not_true, cond_false]
    rw [ez, Option.bind_some]
    try dsimp only
    rw [rq, hR, Option.bind_some]
    try dsimp only
    rw [Bool.not_true, cond_false, decide_eq_true rfl, Bool.not_true, cond_false, Option.bind_some]
    try dsimp only
    rw [hco, Option.bind_some]
    try dsimp only
    rw [hpg, Option.bind_some]
    try dsimp only
    rw [cond_true, decide_eq_true (show (doneD (atWork x' y' 2 b f D) 2).2.2.2.1 = 2 from rfl), cond_true]
    try rw [Bool.not_false, cond_true]
    rw [hsw]
    rfl

theorem vmfleetlaw9_DiskStores.pure (x : (tup vmfleetlaw9_DiskStores.sp.args).den) (h : WfL vmfleetlaw9_DiskStores.sp.args x) : vmfleetlaw9_DiskStores.sp.f x = some true :=
  diskStores x.1 x.2.1 x.2.2.1 x.2.2.2.1 x.2.2.2.2.1 x.2.2.2.2.2 ⟨h.2.2.1.1, h.2.2.1.2⟩ h.2.2.2.1.1

end Go.Proofs.Yteiepkkkphkncaa.Fn
