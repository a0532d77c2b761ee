/- The functions that the laws of this seat reach, each as a plain Lean function, with the proof that the loaded code computes it. -/
import Derived.Test.YtdpldckcbdeojaaLLaw
import Derived.Test.YtdpldckcbdeojaaLPure
import Derived.Test.YtdpldckcbdeojaaProg
import Derived.Test.YtdpldckcbdeojaaChecked
set_option maxRecDepth 100000
set_option linter.unusedVariables false
namespace Go.Proofs.Ytdpldckcbdeojaa.Fn
open Go Lift
def TYS : List (Nat × TI) := [(3, ⟨(.int .i64), 0⟩), (4, ⟨.bool, 0⟩), (23, ⟨(.st (.pair (.int .i64) (.pair (.int .i64) (.pair (.int .i64) (.pair (.int .i64) (.int .i64)))))), 0⟩), (24, ⟨(.sl (.st (.pair (.int .i64) (.pair (.int .i64) (.pair (.int .i64) (.pair (.int .i64) (.int .i64))))))), 40⟩), (25, ⟨(.int .u64), 0⟩), (29, ⟨(.sl (.int .i64)), 8⟩), (51, ⟨(.arr 32 .bool), 0⟩)]
theorem TYS.ok : tysB Try.prog TYS = true := by kernel_rfl
theorem mixed : Try.prog.follows .mixedOrders = true := Checked.mixed Try.checked

/-! vmfleet/idletax.taxable -/
noncomputable def idletax_taxable.f (tax : Int) : Option Bool :=
  bif decide (tax ≥ 0) then
    some (decide (tax ≤ 99))
  else
    some false
noncomputable def idletax_taxable.sp : FSpec := ⟨[(.int .i64)], [.bool], fun x => idletax_taxable.f x⟩
noncomputable def idletax_taxable.env : Env := ⟨TYS, [], [], [], [], []⟩
theorem idletax_taxable.eq (x) : fnEval idletax_taxable.env idletax_taxable.sp.args idletax_taxable.sp.res Go.Proofs.Try.f31 x = idletax_taxable.sp.f x := by kernel_rfl
theorem idletax_taxable.sound : Sound Try.prog 31 idletax_taxable.sp := Lift.sound (E := idletax_taxable.env) Try.func31 (by kernel_rfl) (env_ok TYS.ok mixed trivial trivial) (by kernel_rfl) idletax_taxable.eq

/-! vmfleet/idletax.Valid -/
noncomputable def idletax_Valid.f (c : Int × Int × Int × Int × Int) : Option Bool :=
  bif decide (c.1 ≥ 1) then
    bif decide (c.1 ≤ c.2.1) then
      bif decide (c.2.1 ≤ 96) then
        bif decide (c.2.2.1 ≥ 1) then
          bif decide (c.2.2.1 ≤ 1000) then
            bif decide (c.2.2.2.1 ≥ 0) then
              bif decide (c.2.2.2.1 ≤ 96) then
                bif decide (c.2.2.2.2 ≥ 0) then
                  some (decide (c.2.2.2.2 ≤ 1000))
                else
                  some false
              else
                some false
            else
              some false
          else
            some false
        else
          some false
      else
        some false
    else
      some false
  else
    some false
noncomputable def idletax_Valid.sp : FSpec := ⟨[(.st (.pair (.int .i64) (.pair (.int .i64) (.pair (.int .i64) (.pair (.int .i64) (.int .i64))))))], [.bool], fun x => idletax_Valid.f x⟩
noncomputable def idletax_Valid.env : Env := ⟨TYS, [], [], [], [], []⟩
theorem idletax_Valid.eq (x) : fnEval idletax_Valid.env idletax_Valid.sp.args idletax_Valid.sp.res Go.Proofs.Try.f19 x = idletax_Valid.sp.f x := by kernel_rfl
theorem idletax_Valid.sound : Sound Try.prog 19 idletax_Valid.sp := Lift.sound (E := idletax_Valid.env) Try.func19 (by kernel_rfl) (env_ok TYS.ok mixed trivial trivial) (by kernel_rfl) idletax_Valid.eq

/-! vmfleet/idletax.Cost -/
noncomputable def idletax_Cost.f (c : Int × Int × Int × Int × Int) (tax : Int) : Option Int :=
  (idletax_Valid.f c).bind fun r1 =>
  bif !r1 then
    some (0 : Int)
  else
    (idletax_taxable.f tax).bind fun r2 =>
    bif !r2 then
      some (0 : Int)
    else
      some (IntKind.wrap .i64 (c.2.2.2.1 * (IntKind.wrap .i64 ((IntKind.wrap .i64 (c.2.2.2.2 * (IntKind.wrap .i64 (100 - tax)))) + (IntKind.wrap .i64 (100 * (IntKind.wrap .i64 (1000 - c.2.2.2.2))))))))
noncomputable def idletax_Cost.sp : FSpec := ⟨[(.st (.pair (.int .i64) (.pair (.int .i64) (.pair (.int .i64) (.pair (.int .i64) (.int .i64)))))), (.int .i64)], [(.int .i64)], fun x => idletax_Cost.f x.1 x.2⟩
noncomputable def idletax_Cost.env : Env := ⟨TYS, [(19, idletax_Valid.sp), (31, idletax_taxable.sp)], [], [], [], []⟩
theorem idletax_Cost.eq (x) : fnEval idletax_Cost.env idletax_Cost.sp.args idletax_Cost.sp.res Go.Proofs.Try.f21 x = idletax_Cost.sp.f x := by kernel_rfl
theorem idletax_Cost.sound : Sound Try.prog 21 idletax_Cost.sp := Lift.sound (E := idletax_Cost.env) Try.func21 (by kernel_rfl) (env_ok TYS.ok mixed ⟨idletax_Valid.sound, idletax_taxable.sound, trivial⟩ trivial) (by kernel_rfl) idletax_Cost.eq

/-! vmfleet/idletax.Poorer -/
noncomputable def idletax_Poorer.f (a : Int × Int × Int × Int × Int) (b : Int × Int × Int × Int × Int) (tax : Int) : Option Bool :=
  (idletax_Valid.f a).bind fun r1 =>
  bif r1 then
    (idletax_Valid.f b).bind fun r2 =>
    bif r2 then
      (idletax_taxable.f tax).bind fun r3 =>
      bif r3 then
        (idletax_Cost.f b tax).bind fun r4 =>
        (idletax_Cost.f a tax).bind fun r5 =>
        some (decide ((IntKind.wrap .i64 (a.2.2.1 * r4)) < (IntKind.wrap .i64 (b.2.2.1 * r5))))
      else
        some false
    else
      some false
  else
    some false
noncomputable def idletax_Poorer.sp : FSpec := ⟨[(.st (.pair (.int .i64) (.pair (.int .i64) (.pair (.int .i64) (.pair (.int .i64) (.int .i64)))))), (.st (.pair (.int .i64) (.pair (.int .i64) (.pair (.int .i64) (.pair (.int .i64) (.int .i64)))))), (.int .i64)], [.bool], fun x => idletax_Poorer.f x.1 x.2.1 x.2.2⟩
noncomputable def idletax_Poorer.env : Env := ⟨TYS, [(19, idletax_Valid.sp), (21, idletax_Cost.sp), (31, idletax_taxable.sp)], [], [], [], []⟩
theorem idletax_Poorer.eq (x) : fnEval idletax_Poorer.env idletax_Poorer.sp.args idletax_Poorer.sp.res Go.Proofs.Try.f23 x = idletax_Poorer.sp.f x := by kernel_rfl
theorem idletax_Poorer.sound : Sound Try.prog 23 idletax_Poorer.sp := Lift.sound (E := idletax_Poorer.env) Try.func23 (by kernel_rfl) (env_ok TYS.ok mixed ⟨idletax_Valid.sound, idletax_Cost.sound, idletax_taxable.sound, trivial⟩ trivial) (by kernel_rfl) idletax_Poorer.eq

/-! vmfleet/idletax.Victim -/
noncomputable def idletax_Victim.f (l : List (Int × Int × Int × Int × Int)) (tax : Int) : Option (Int × Bool) :=
  (idletax_taxable.f tax).bind fun r1 =>
  bif !r1 then
    some ((0 : Int), false)
  else
    (loop (Y := (Int) ⊕ (Int × Bool)) (fun (x1 : Int × Int) =>
      bif decide (x1.2 < (l.length : Int)) then
        if 0 ≤ x1.2 ∧ x1.2 < (l.length : Int) then
          (idletax_Valid.f ((nth ((0 : Int), (0 : Int), (0 : Int), (0 : Int), (0 : Int)) l x1.2).1, ((nth ((0 : Int), (0 : Int), (0 : Int), (0 : Int), (0 : Int)) l x1.2).2).1, (((nth ((0 : Int), (0 : Int), (0 : Int), (0 : Int), (0 : Int)) l x1.2).2).2).1, ((((nth ((0 : Int), (0 : Int), (0 : Int), (0 : Int), (0 : Int)) l x1.2).2).2).2))).bind fun r2 =>
          bif r2 then
            bif (decide ((((((nth ((0 : Int), (0 : Int), (0 : Int), (0 : Int), (0 : Int)) l x1.2).2).2).2).1) > ((nth ((0 : Int), (0 : Int), (0 : Int), (0 : Int), (0 : Int)) l x1.2).1))) then
              bif decide (x1.1 < 0) then
                some (.inl (x1.2, IntKind.wrap .i64 (x1.2 + 1)))
              else
                if 0 ≤ x1.1 ∧ x1.1 < (l.length : Int) then
                  (idletax_Poorer.f ((nth ((0 : Int), (0 : Int), (0 : Int), (0 : Int), (0 : Int)) l x1.2).1, ((nth ((0 : Int), (0 : Int), (0 : Int), (0 : Int), (0 : Int)) l x1.2).2).1, (((nth ((0 : Int), (0 : Int), (0 : Int), (0 : Int), (0 : Int)) l x1.2).2).2).1, ((((nth ((0 : Int), (0 : Int), (0 : Int), (0 : Int), (0 : Int)) l x1.2).2).2).2)) ((nth ((0 : Int), (0 : Int), (0 : Int), (0 : Int), (0 : Int)) l x1.1).1, ((nth ((0 : Int), (0 : Int), (0 : Int), (0 : Int), (0 : Int)) l x1.1).2).1, (((nth ((0 : Int), (0 : Int), (0 : Int), (0 : Int), (0 : Int)) l x1.1).2).2).1, ((((nth ((0 : Int), (0 : Int), (0 : Int), (0 : Int), (0 : Int)) l x1.1).2).2).2)) tax).bind fun r3 =>
                  bif r3 then
                    some (.inl (x1.2, IntKind.wrap .i64 (x1.2 + 1)))
                  else
                    some (.inl (x1.1, IntKind.wrap .i64 (x1.2 + 1)))
                else none
            else
              some (.inl (x1.1, IntKind.wrap .i64 (x1.2 + 1)))
          else
            some (.inl (x1.1, IntKind.wrap .i64 (x1.2 + 1)))
        else none
      else
        some (.inr (.inl x1.1))) ((-1 : Int), (0 : Int))).bind fun o => match o with
    | .inl y2 =>
      bif decide (y2 < 0) then
        some ((0 : Int), false)
      else
        some (y2, true)
    | .inr r => some r
noncomputable def idletax_Victim.sp : FSpec := ⟨[(.sl (.st (.pair (.int .i64) (.pair (.int .i64) (.pair (.int .i64) (.pair (.int .i64) (.int .i64))))))), (.int .i64)], [(.int .i64), .bool], fun x => idletax_Victim.f x.1 x.2⟩
noncomputable def idletax_Victim.env : Env := ⟨TYS, [(19, idletax_Valid.sp), (23, idletax_Poorer.sp), (31, idletax_taxable.sp)], [], [(5, ⟨[0, 1, 4, 5, 12, 13], [⟨6, false, (.int .i64)⟩, ⟨14, false, (.int .i64)⟩], [⟨6, false, (.int .i64)⟩], 0⟩)], [], []⟩
theorem idletax_Victim.eq (x) : fnEval idletax_Victim.env idletax_Victim.sp.args idletax_Victim.sp.res Go.Proofs.Try.f13 x = idletax_Victim.sp.f x := by kernel_rfl
theorem idletax_Victim.sound : Sound Try.prog 13 idletax_Victim.sp := Lift.sound (E := idletax_Victim.env) Try.func13 (by kernel_rfl) (env_ok TYS.ok mixed ⟨idletax_Valid.sound, idletax_Poorer.sound, idletax_taxable.sound, trivial⟩ trivial) (by kernel_rfl) idletax_Victim.eq

/-! vmfleet/idletax.Targets -/
noncomputable def idletax_Targets.f (l : List (Int × Int × Int × Int × Int)) (total : Int) (tax : Int) : Option (List Int × Bool) :=
  bif decide ((l.length : Int) > 8) then
    some ([], false)
  else
    bif decide (total < 0) then
      some ([], false)
    else
      bif decide (total > 96) then
        some ([], false)
      else
        (idletax_taxable.f tax).bind fun r1 =>
        bif !r1 then
          some ([], false)
        else
          (loop (Y := (List Int × Int) ⊕ (List Int × Bool)) (fun (x1 : List Int × Int × Int) =>
            bif decide (x1.2.2 < (l.length : Int)) then
              if 0 ≤ x1.2.2 ∧ x1.2.2 < (l.length : Int) then
                (idletax_Valid.f ((nth ((0 : Int), (0 : Int), (0 : Int), (0 : Int), (0 : Int)) l x1.2.2).1, ((nth ((0 : Int), (0 : Int), (0 : Int), (0 : Int), (0 : Int)) l x1.2.2).2).1, (((nth ((0 : Int), (0 : Int), (0 : Int), (0 : Int), (0 : Int)) l x1.2.2).2).2).1, ((((nth ((0 : Int), (0 : Int), (0 : Int), (0 : Int), (0 : Int)) l x1.2.2).2).2).2))).bind fun r2 =>
                bif !r2 then
                  some (.inr (.inr ([], false)))
                else
                  if (x1.1.length + ([(nth ((0 : Int), (0 : Int), (0 : Int), (0 : Int), (0 : Int)) l x1.2.2).1] : List Int).length) * 8 ≤ 70368744177664 then
                    some (.inl ((x1.1 ++ ([(nth ((0 : Int), (0 : Int), (0 : Int), (0 : Int), (0 : Int)) l x1.2.2).1] : List Int)), (IntKind.wrap .i64 (x1.2.1 - ((nth ((0 : Int), (0 : Int), (0 : Int), (0 : Int), (0 : Int)) l x1.2.2).1))), IntKind.wrap .i64 (x1.2.2 + 1)))
                  else none
              else none
            else
              some (.inr (.inl (x1.1, x1.2.1)))) ([], total, (0 : Int))).bind fun o => match o with
          | .inl y2 =>
            bif decide (y2.2 < 0) then
              some ([], false)
            else
              (loop (Y := (List Int) ⊕ (List Int × Bool)) (fun (x3 : List Int × Int) =>
                bif decide (x3.2 > 0) then
                  (loop (Y := (Int) ⊕ ((List Int × Int) ⊕ ((List Int) ⊕ (List Int × Bool)))) (fun (x4 : Int × (Int × Int × Int × Int × Int) × Int) =>
                    bif decide (x4.2.2 < (l.length : Int)) then
                      if 0 ≤ x4.2.2 ∧ x4.2.2 < (l.length : Int) then
                        if 0 ≤ x4.2.2 ∧ x4.2.2 < (x3.1.length : Int) then
                          let v3 := IntKind.wrap .i64 ((nth (0 : Int) x3.1 x4.2.2) + 1)
                          if 0 ≤ x4.2.2 ∧ x4.2.2 < (x3.1.length : Int) then
                            bif decide ((nth (0 : Int) x3.1 x4.2.2) < (((nth ((0 : Int), (0 : Int), (0 : Int), (0 : Int), (0 : Int)) l x4.2.2).2).1)) then
                              bif decide (x4.1 < 0) then
                                some (.inl (x4.2.2, ((nth ((0 : Int), (0 : Int), (0 : Int), (0 : Int), (0 : Int)) l x4.2.2).1, ((nth ((0 : Int), (0 : Int), (0 : Int), (0 : Int), (0 : Int)) l x4.2.2).2).1, (((nth ((0 : Int), (0 : Int), (0 : Int), (0 : Int), (0 : Int)) l x4.2.2).2).2).1, v3, ((((nth ((0 : Int), (0 : Int), (0 : Int), (0 : Int), (0 : Int)) l x4.2.2).2).2).2).2), IntKind.wrap .i64 (x4.2.2 + 1)))
                              else
                                (idletax_Poorer.f x4.2.1 ((nth ((0 : Int), (0 : Int), (0 : Int), (0 : Int), (0 : Int)) l x4.2.2).1, ((nth ((0 : Int), (0 : Int), (0 : Int), (0 : Int), (0 : Int)) l x4.2.2).2).1, (((nth ((0 : Int), (0 : Int), (0 : Int), (0 : Int), (0 : Int)) l x4.2.2).2).2).1, v3, ((((nth ((0 : Int), (0 : Int), (0 : Int), (0 : Int), (0 : Int)) l x4.2.2).2).2).2).2) tax).bind fun r3 =>
                                bif r3 then
                                  some (.inl (x4.2.2, ((nth ((0 : Int), (0 : Int), (0 : Int), (0 : Int), (0 : Int)) l x4.2.2).1, ((nth ((0 : Int), (0 : Int), (0 : Int), (0 : Int), (0 : Int)) l x4.2.2).2).1, (((nth ((0 : Int), (0 : Int), (0 : Int), (0 : Int), (0 : Int)) l x4.2.2).2).2).1, v3, ((((nth ((0 : Int), (0 : Int), (0 : Int), (0 : Int), (0 : Int)) l x4.2.2).2).2).2).2), IntKind.wrap .i64 (x4.2.2 + 1)))
                                else
                                  some (.inl (x4.1, x4.2.1, IntKind.wrap .i64 (x4.2.2 + 1)))
                            else
                              some (.inl (x4.1, x4.2.1, IntKind.wrap .i64 (x4.2.2 + 1)))
                          else none
                        else none
                      else none
                    else
                      some (.inr (.inl x4.1))) ((-1 : Int), ((0 : Int), (0 : Int), (0 : Int), (0 : Int), (0 : Int)), (0 : Int))).bind fun o => match o with
                  | .inl y5 =>
                    bif decide (y5 < 0) then
                      some (.inr (.inl x3.1))
                    else
                      if 0 ≤ y5 ∧ y5 < (x3.1.length : Int) then
                        if 0 ≤ y5 ∧ y5 < (x3.1.length : Int) then
                          some (.inl (put x3.1 y5 (IntKind.wrap .i64 ((nth (0 : Int) x3.1 y5) + 1)), IntKind.wrap .i64 (x3.2 - 1)))
                        else none
                      else none
                  | .inr r => some r
                else
                  some (.inr (.inl x3.1))) y2).bind fun o => match o with
              | .inl y6 =>
                some (y6, true)
              | .inr r => some r
          | .inr r => some r
noncomputable def idletax_Targets.sp : FSpec := ⟨[(.sl (.st (.pair (.int .i64) (.pair (.int .i64) (.pair (.int .i64) (.pair (.int .i64) (.int .i64))))))), (.int .i64), (.int .i64)], [(.own (.int .i64)), .bool], fun x => idletax_Targets.f x.1 x.2.1 x.2.2⟩
noncomputable def idletax_Targets.env : Env := ⟨TYS, [(19, idletax_Valid.sp), (23, idletax_Poorer.sp), (31, idletax_taxable.sp)], [], [(6, ⟨[0, 2, 33, 34], [⟨8, false, (.own (.int .i64))⟩, ⟨9, false, (.int .i64)⟩, ⟨35, false, (.int .i64)⟩], [⟨8, false, (.own (.int .i64))⟩, ⟨9, false, (.int .i64)⟩], 0⟩), (20, ⟨[0, 2, 8, 9, 58, 59], [⟨12, false, (.int .i64)⟩, ⟨13, true, (.st (.pair (.int .i64) (.pair (.int .i64) (.pair (.int .i64) (.pair (.int .i64) (.int .i64))))))⟩, ⟨60, false, (.int .i64)⟩], [⟨12, false, (.int .i64)⟩], 4⟩), (15, ⟨[0, 2], [⟨8, false, (.own (.int .i64))⟩, ⟨9, false, (.int .i64)⟩], [⟨8, false, (.own (.int .i64))⟩], 2⟩)], [], []⟩
theorem idletax_Targets.eq (x) : fnEval idletax_Targets.env idletax_Targets.sp.args idletax_Targets.sp.res Go.Proofs.Try.f17 x = idletax_Targets.sp.f x := by kernel_rfl
theorem idletax_Targets.sound : Sound Try.prog 17 idletax_Targets.sp := Lift.sound (E := idletax_Targets.env) Try.func17 (by kernel_rfl) (env_ok TYS.ok mixed ⟨idletax_Valid.sound, idletax_Poorer.sound, idletax_taxable.sound, trivial⟩ trivial) (by kernel_rfl) idletax_Targets.eq

/-! vmfleet/bits.Next -/
noncomputable def bits_Next.f (seed : Int) : Option (Int × Int) :=
  let v1 := IntKind.wrap .u64 (seed + 11400714819323198485)
  let v2 := IntKind.wrap .u64 ((xorI .u64 v1 (shrI .u64 v1 (30 : Int))) * 13787848793156543929)
  let v3 := IntKind.wrap .u64 ((xorI .u64 v2 (shrI .u64 v2 (27 : Int))) * 10723151780598845931)
  some (xorI .u64 v3 (shrI .u64 v3 (31 : Int)), v1)
noncomputable def bits_Next.sp : FSpec := ⟨[(.int .u64)], [(.int .u64), (.int .u64)], fun x => bits_Next.f x⟩
noncomputable def bits_Next.env : Env := ⟨TYS, [], [], [], [], []⟩
theorem bits_Next.eq (x) : fnEval bits_Next.env bits_Next.sp.args bits_Next.sp.res Go.Proofs.Try.f33 x = bits_Next.sp.f x := by kernel_rfl
theorem bits_Next.sound : Sound Try.prog 33 bits_Next.sp := Lift.sound (E := bits_Next.env) Try.func33 (by kernel_rfl) (env_ok TYS.ok mixed trivial trivial) (by kernel_rfl) bits_Next.eq

/-! slices.Index[[]int,int] -/
noncomputable def slices_Index_int_int.f (s : List Int) (v : Int) : Option Int :=
  (loop (Y := (Unit) ⊕ (Int)) (fun (x1 : Int) =>
    bif decide (x1 < (s.length : Int)) then
      if 0 ≤ x1 ∧ x1 < (s.length : Int) then
        bif decide (v = (nth (0 : Int) s x1)) then
          some (.inr (.inr x1))
        else
          some (.inl (IntKind.wrap .i64 (x1 + 1)))
      else none
    else
      some (.inr (.inl ()))) (0 : Int)).bind fun o => match o with
  | .inl y2 =>
    some (-1 : Int)
  | .inr r => some r
noncomputable def slices_Index_int_int.sp : FSpec := ⟨[(.sl (.int .i64)), (.int .i64)], [(.int .i64)], fun x => slices_Index_int_int.f x.1 x.2⟩
noncomputable def slices_Index_int_int.env : Env := ⟨TYS, [], [], [(2, ⟨[0, 1, 7], [⟨8, false, (.int .i64)⟩], [], 0⟩)], [], []⟩
theorem slices_Index_int_int.eq (x) : fnEval slices_Index_int_int.env slices_Index_int_int.sp.args slices_Index_int_int.sp.res Go.Proofs.Try.f37 x = slices_Index_int_int.sp.f x := by kernel_rfl
theorem slices_Index_int_int.sound : Sound Try.prog 37 slices_Index_int_int.sp := Lift.sound (E := slices_Index_int_int.env) Try.func37 (by kernel_rfl) (env_ok TYS.ok mixed trivial trivial) (by kernel_rfl) slices_Index_int_int.eq

/-! slices.Contains[[]int,int] -/
noncomputable def slices_Contains_int_int.f (s : List Int) (v : Int) : Option Bool :=
  (slices_Index_int_int.f s v).bind fun r1 =>
  some (decide (r1 ≥ 0))
noncomputable def slices_Contains_int_int.sp : FSpec := ⟨[(.sl (.int .i64)), (.int .i64)], [.bool], fun x => slices_Contains_int_int.f x.1 x.2⟩
noncomputable def slices_Contains_int_int.env : Env := ⟨TYS, [(37, slices_Index_int_int.sp)], [], [], [], []⟩
theorem slices_Contains_int_int.eq (x) : fnEval slices_Contains_int_int.env slices_Contains_int_int.sp.args slices_Contains_int_int.sp.res Go.Proofs.Try.f34 x = slices_Contains_int_int.sp.f x := by kernel_rfl
theorem slices_Contains_int_int.sound : Sound Try.prog 34 slices_Contains_int_int.sp := Lift.sound (E := slices_Contains_int_int.env) Try.func34 (by kernel_rfl) (env_ok TYS.ok mixed ⟨slices_Index_int_int.sound, trivial⟩ trivial) (by kernel_rfl) slices_Contains_int_int.eq

/-! vmfleet/idletax.Sample -/
noncomputable def idletax_Sample.f (seed : Int) (pages : Int) (n : Int) : Option (List Int × Int) :=
  bif decide (pages < 1) then
    some ([], seed)
  else
    bif decide (pages > 32) then
      some ([], seed)
    else
      bif decide (n < 1) then
        some ([], seed)
      else
        (loop (Y := (Int × List Int) ⊕ (List Int × Int)) (fun (x1 : Int × List Int × Int) =>
          bif decide (x1.2.2 < (min n pages)) then
            (bits_Next.f x1.1).bind fun r1 =>
            if (IntKind.wrap .u64 pages) = 0 then none else
            (loop (Y := (Int) ⊕ ((Int × List Int × Int) ⊕ ((Int × List Int) ⊕ (List Int × Int)))) (fun (x2 : Int) =>
              (slices_Contains_int_int.f x1.2.1 x2).bind fun r2 =>
              bif r2 then
                if pages = 0 then none else
                some (.inl (Int.tmod (IntKind.wrap .i64 (x2 + 1)) pages))
              else
                some (.inr (.inl x2))) (IntKind.wrap .i64 (Int.tmod r1.1 (IntKind.wrap .u64 pages)))).bind fun o => match o with
            | .inl y3 =>
              if (x1.2.1.length + ([y3] : List Int).length) * 8 ≤ 70368744177664 then
                some (.inl (r1.2, x1.2.1 ++ ([y3] : List Int), IntKind.wrap .i64 (x1.2.2 + 1)))
              else none
            | .inr r => some r
          else
            some (.inr (.inl (x1.1, x1.2.1)))) (seed, [], (0 : Int))).bind fun o => match o with
        | .inl y4 =>
          some (y4.2, y4.1)
        | .inr r => some r
noncomputable def idletax_Sample.sp : FSpec := ⟨[(.int .u64), (.int .i64), (.int .i64)], [(.own (.int .i64)), (.int .u64)], fun x => idletax_Sample.f x.1 x.2.1 x.2.2⟩
noncomputable def idletax_Sample.env : Env := ⟨TYS, [(33, bits_Next.sp), (34, slices_Contains_int_int.sp)], [], [(9, ⟨[0, 1, 6, 7, 8, 25, 26], [⟨11, false, (.int .i64)⟩], [⟨11, false, (.int .i64)⟩], 2⟩), (5, ⟨[1, 6, 7, 25], [⟨0, false, (.int .u64)⟩, ⟨8, false, (.own (.int .i64))⟩, ⟨26, false, (.int .i64)⟩], [⟨0, false, (.int .u64)⟩, ⟨8, false, (.own (.int .i64))⟩], 0⟩)], [], []⟩
theorem idletax_Sample.eq (x) : fnEval idletax_Sample.env idletax_Sample.sp.args idletax_Sample.sp.res Go.Proofs.Try.f15 x = idletax_Sample.sp.f x := by kernel_rfl
theorem idletax_Sample.sound : Sound Try.prog 15 idletax_Sample.sp := Lift.sound (E := idletax_Sample.env) Try.func15 (by kernel_rfl) (env_ok TYS.ok mixed ⟨bits_Next.sound, slices_Contains_int_int.sound, trivial⟩ trivial) (by kernel_rfl) idletax_Sample.eq

/-! vmfleet/vmfleetref1.SameInts -/
noncomputable def vmfleetref1_SameInts.f (a : List Int) (b : List Int) : Option Bool :=
  bif !decide ((a.length : Int) = (b.length : Int)) then
    some false
  else
    (loop (Y := (Unit) ⊕ (Bool)) (fun (x1 : Int) =>
      bif decide (x1 < (a.length : Int)) then
        if 0 ≤ x1 ∧ x1 < (a.length : Int) then
          if 0 ≤ x1 ∧ x1 < (b.length : Int) then
            bif !decide ((nth (0 : Int) a x1) = (nth (0 : Int) b x1)) then
              some (.inr (.inr false))
            else
              some (.inl (IntKind.wrap .i64 (x1 + 1)))
          else none
        else none
      else
        some (.inr (.inl ()))) (0 : Int)).bind fun o => match o with
    | .inl y2 =>
      some true
    | .inr r => some r
noncomputable def vmfleetref1_SameInts.sp : FSpec := ⟨[(.sl (.int .i64)), (.sl (.int .i64))], [.bool], fun x => vmfleetref1_SameInts.f x.1 x.2⟩
noncomputable def vmfleetref1_SameInts.env : Env := ⟨TYS, [], [], [(4, ⟨[0, 1], [⟨5, false, (.int .i64)⟩], [], 0⟩)], [], []⟩
theorem vmfleetref1_SameInts.eq (x) : fnEval vmfleetref1_SameInts.env vmfleetref1_SameInts.sp.args vmfleetref1_SameInts.sp.res Go.Proofs.Try.f25 x = vmfleetref1_SameInts.sp.f x := by kernel_rfl
theorem vmfleetref1_SameInts.sound : Sound Try.prog 25 vmfleetref1_SameInts.sp := Lift.sound (E := vmfleetref1_SameInts.env) Try.func25 (by kernel_rfl) (env_ok TYS.ok mixed trivial trivial) (by kernel_rfl) vmfleetref1_SameInts.eq

/-! vmfleet/idletax.Estimate -/
noncomputable def idletax_Estimate.f (old : Int) (used : Int) (n : Int) : Option Int :=
  bif decide (n < 1) then
    some old
  else
    bif decide (n > 32) then
      some old
    else
      bif decide (used < 0) then
        some old
      else
        bif decide (used > n) then
          some old
        else
          bif decide (old < 0) then
            some old
          else
            bif decide (old > 1000) then
              some old
            else
              if n = 0 then none else
              let v1 := IntKind.wrap .i64 (Int.tdiv (IntKind.wrap .i64 (used * 1000)) n)
              bif decide (v1 > old) then
                some v1
              else
                some (IntKind.wrap .i64 (Int.tdiv (IntKind.wrap .i64 ((IntKind.wrap .i64 (3 * old)) + v1)) (4 : Int)))
noncomputable def idletax_Estimate.sp : FSpec := ⟨[(.int .i64), (.int .i64), (.int .i64)], [(.int .i64)], fun x => idletax_Estimate.f x.1 x.2.1 x.2.2⟩
noncomputable def idletax_Estimate.env : Env := ⟨TYS, [], [], [], [], []⟩
theorem idletax_Estimate.eq (x) : fnEval idletax_Estimate.env idletax_Estimate.sp.args idletax_Estimate.sp.res Go.Proofs.Try.f26 x = idletax_Estimate.sp.f x := by kernel_rfl
theorem idletax_Estimate.sound : Sound Try.prog 26 idletax_Estimate.sp := Lift.sound (E := idletax_Estimate.env) Try.func26 (by kernel_rfl) (env_ok TYS.ok mixed trivial trivial) (by kernel_rfl) idletax_Estimate.eq

/-! vmfleet/vmfleetlaw37.awake -/
noncomputable def vmfleetlaw37_awake.f  : Option Bool :=
  (idletax_Victim.f ([((1 : Int), (20 : Int), (100 : Int), (10 : Int), (1000 : Int)), ((1 : Int), (20 : Int), (100 : Int), (10 : Int), (0 : Int))] : List (Int × Int × Int × Int × Int)) (75 : Int)).bind fun r1 =>
  (idletax_Targets.f ([((1 : Int), (20 : Int), (100 : Int), (10 : Int), (1000 : Int)), ((1 : Int), (20 : Int), (100 : Int), (10 : Int), (0 : Int))] : List (Int × Int × Int × Int × Int)) (10 : Int) (0 : Int)).bind fun r2 =>
  (idletax_Sample.f (1 : Int) (5 : Int) (9 : Int)).bind fun r3 =>
  bif r1.2 then
    bif decide (r1.1 = 1) then
      bif r2.2 then
        (vmfleetref1_SameInts.f r2.1 ([(5 : Int), (5 : Int)] : List Int)).bind fun r4 =>
        bif r4 then
          bif decide ((r3.1.length : Int) = 5) then
            (idletax_Estimate.f (100 : Int) (1 : Int) (2 : Int)).bind fun r5 =>
            bif decide (r5 = 500) then
              (idletax_Estimate.f (500 : Int) (0 : Int) (2 : Int)).bind fun r6 =>
              some (decide (r6 = 375))
            else
              some false
          else
            some false
        else
          some false
      else
        some false
    else
      some false
  else
    some false
noncomputable def vmfleetlaw37_awake.sp : FSpec := ⟨[], [.bool], fun _ => vmfleetlaw37_awake.f⟩
noncomputable def vmfleetlaw37_awake.env : Env := ⟨TYS, [(13, idletax_Victim.sp), (15, idletax_Sample.sp), (17, idletax_Targets.sp), (25, vmfleetref1_SameInts.sp), (26, idletax_Estimate.sp)], [], [], [], []⟩
theorem vmfleetlaw37_awake.eq (x) : fnEval vmfleetlaw37_awake.env vmfleetlaw37_awake.sp.args vmfleetlaw37_awake.sp.res Go.Proofs.Try.f12 x = vmfleetlaw37_awake.sp.f x := by kernel_rfl
theorem vmfleetlaw37_awake.sound : Sound Try.prog 12 vmfleetlaw37_awake.sp := Lift.sound (E := vmfleetlaw37_awake.env) Try.func12 (by kernel_rfl) (env_ok TYS.ok mixed ⟨idletax_Victim.sound, idletax_Sample.sound, idletax_Targets.sound, vmfleetref1_SameInts.sound, idletax_Estimate.sound, trivial⟩ trivial) (by kernel_rfl) vmfleetlaw37_awake.eq

/-! vmfleet/vmfleetref35.taxed -/
noncomputable def vmfleetref35_taxed.f (tax : Int) : Option Bool :=
  bif decide (tax ≥ 0) then
    some (decide (tax ≤ 99))
  else
    some false
noncomputable def vmfleetref35_taxed.sp : FSpec := ⟨[(.int .i64)], [.bool], fun x => vmfleetref35_taxed.f x⟩
noncomputable def vmfleetref35_taxed.env : Env := ⟨TYS, [], [], [], [], []⟩
theorem vmfleetref35_taxed.eq (x) : fnEval vmfleetref35_taxed.env vmfleetref35_taxed.sp.args vmfleetref35_taxed.sp.res Go.Proofs.Try.f32 x = vmfleetref35_taxed.sp.f x := by kernel_rfl
theorem vmfleetref35_taxed.sound : Sound Try.prog 32 vmfleetref35_taxed.sp := Lift.sound (E := vmfleetref35_taxed.env) Try.func32 (by kernel_rfl) (env_ok TYS.ok mixed trivial trivial) (by kernel_rfl) vmfleetref35_taxed.eq

/-! vmfleet/vmfleetref35.ValidClaim -/
noncomputable def vmfleetref35_ValidClaim.f (c : Int × Int × Int × Int × Int) : Option Bool :=
  bif decide (c.1 ≥ 1) then
    bif decide (c.1 ≤ c.2.1) then
      bif decide (c.2.1 ≤ 96) then
        bif decide (c.2.2.1 ≥ 1) then
          bif decide (c.2.2.1 ≤ 1000) then
            bif decide (c.2.2.2.1 ≥ 0) then
              bif decide (c.2.2.2.1 ≤ 96) then
                bif decide (c.2.2.2.2 ≥ 0) then
                  some (decide (c.2.2.2.2 ≤ 1000))
                else
                  some false
              else
                some false
            else
              some false
          else
            some false
        else
          some false
      else
        some false
    else
      some false
  else
    some false
noncomputable def vmfleetref35_ValidClaim.sp : FSpec := ⟨[(.st (.pair (.int .i64) (.pair (.int .i64) (.pair (.int .i64) (.pair (.int .i64) (.int .i64))))))], [.bool], fun x => vmfleetref35_ValidClaim.f x⟩
noncomputable def vmfleetref35_ValidClaim.env : Env := ⟨TYS, [], [], [], [], []⟩
theorem vmfleetref35_ValidClaim.eq (x) : fnEval vmfleetref35_ValidClaim.env vmfleetref35_ValidClaim.sp.args vmfleetref35_ValidClaim.sp.res Go.Proofs.Try.f20 x = vmfleetref35_ValidClaim.sp.f x := by kernel_rfl
theorem vmfleetref35_ValidClaim.sound : Sound Try.prog 20 vmfleetref35_ValidClaim.sp := Lift.sound (E := vmfleetref35_ValidClaim.env) Try.func20 (by kernel_rfl) (env_ok TYS.ok mixed trivial trivial) (by kernel_rfl) vmfleetref35_ValidClaim.eq

/-! vmfleet/vmfleetref35.Cost -/
noncomputable def vmfleetref35_Cost.f (c : Int × Int × Int × Int × Int) (tax : Int) : Option Int :=
  (vmfleetref35_ValidClaim.f c).bind fun r1 =>
  bif !r1 then
    some (0 : Int)
  else
    (vmfleetref35_taxed.f tax).bind fun r2 =>
    bif !r2 then
      some (0 : Int)
    else
      some (IntKind.wrap .i64 (c.2.2.2.1 * (IntKind.wrap .i64 ((IntKind.wrap .i64 (c.2.2.2.2 * (IntKind.wrap .i64 (100 - tax)))) + (IntKind.wrap .i64 (100 * (IntKind.wrap .i64 (1000 - c.2.2.2.2))))))))
noncomputable def vmfleetref35_Cost.sp : FSpec := ⟨[(.st (.pair (.int .i64) (.pair (.int .i64) (.pair (.int .i64) (.pair (.int .i64) (.int .i64)))))), (.int .i64)], [(.int .i64)], fun x => vmfleetref35_Cost.f x.1 x.2⟩
noncomputable def vmfleetref35_Cost.env : Env := ⟨TYS, [(20, vmfleetref35_ValidClaim.sp), (32, vmfleetref35_taxed.sp)], [], [], [], []⟩
theorem vmfleetref35_Cost.eq (x) : fnEval vmfleetref35_Cost.env vmfleetref35_Cost.sp.args vmfleetref35_Cost.sp.res Go.Proofs.Try.f22 x = vmfleetref35_Cost.sp.f x := by kernel_rfl
theorem vmfleetref35_Cost.sound : Sound Try.prog 22 vmfleetref35_Cost.sp := Lift.sound (E := vmfleetref35_Cost.env) Try.func22 (by kernel_rfl) (env_ok TYS.ok mixed ⟨vmfleetref35_ValidClaim.sound, vmfleetref35_taxed.sound, trivial⟩ trivial) (by kernel_rfl) vmfleetref35_Cost.eq

/-! vmfleet/vmfleetref35.Poorer -/
noncomputable def vmfleetref35_Poorer.f (a : Int × Int × Int × Int × Int) (b : Int × Int × Int × Int × Int) (tax : Int) : Option Bool :=
  (vmfleetref35_ValidClaim.f a).bind fun r1 =>
  bif r1 then
    (vmfleetref35_ValidClaim.f b).bind fun r2 =>
    bif r2 then
      (vmfleetref35_taxed.f tax).bind fun r3 =>
      bif r3 then
        (vmfleetref35_Cost.f b tax).bind fun r4 =>
        (vmfleetref35_Cost.f a tax).bind fun r5 =>
        some (decide ((IntKind.wrap .i64 (a.2.2.1 * r4)) < (IntKind.wrap .i64 (b.2.2.1 * r5))))
      else
        some false
    else
      some false
  else
    some false
noncomputable def vmfleetref35_Poorer.sp : FSpec := ⟨[(.st (.pair (.int .i64) (.pair (.int .i64) (.pair (.int .i64) (.pair (.int .i64) (.int .i64)))))), (.st (.pair (.int .i64) (.pair (.int .i64) (.pair (.int .i64) (.pair (.int .i64) (.int .i64)))))), (.int .i64)], [.bool], fun x => vmfleetref35_Poorer.f x.1 x.2.1 x.2.2⟩
noncomputable def vmfleetref35_Poorer.env : Env := ⟨TYS, [(20, vmfleetref35_ValidClaim.sp), (22, vmfleetref35_Cost.sp), (32, vmfleetref35_taxed.sp)], [], [], [], []⟩
theorem vmfleetref35_Poorer.eq (x) : fnEval vmfleetref35_Poorer.env vmfleetref35_Poorer.sp.args vmfleetref35_Poorer.sp.res Go.Proofs.Try.f24 x = vmfleetref35_Poorer.sp.f x := by kernel_rfl
theorem vmfleetref35_Poorer.sound : Sound Try.prog 24 vmfleetref35_Poorer.sp := Lift.sound (E := vmfleetref35_Poorer.env) Try.func24 (by kernel_rfl) (env_ok TYS.ok mixed ⟨vmfleetref35_ValidClaim.sound, vmfleetref35_Cost.sound, vmfleetref35_taxed.sound, trivial⟩ trivial) (by kernel_rfl) vmfleetref35_Poorer.eq

/-! vmfleet/vmfleetref35.Payer -/
noncomputable def vmfleetref35_Payer.f (l : List (Int × Int × Int × Int × Int)) (tax : Int) : Option (Int × Bool) :=
  (loop (Y := (Int) ⊕ (Int × Bool)) (fun (x1 : Int × Int) =>
    bif decide (x1.2 < (l.length : Int)) then
      (vmfleetref35_taxed.f tax).bind fun r1 =>
      bif r1 then
        if 0 ≤ x1.2 ∧ x1.2 < (l.length : Int) then
          (vmfleetref35_ValidClaim.f ((nth ((0 : Int), (0 : Int), (0 : Int), (0 : Int), (0 : Int)) l x1.2).1, ((nth ((0 : Int), (0 : Int), (0 : Int), (0 : Int), (0 : Int)) l x1.2).2).1, (((nth ((0 : Int), (0 : Int), (0 : Int), (0 : Int), (0 : Int)) l x1.2).2).2).1, ((((nth ((0 : Int), (0 : Int), (0 : Int), (0 : Int), (0 : Int)) l x1.2).2).2).2))).bind fun r2 =>
          bif r2 then
            if 0 ≤ x1.2 ∧ x1.2 < (l.length : Int) then
              if 0 ≤ x1.2 ∧ x1.2 < (l.length : Int) then
                bif (decide ((((((nth ((0 : Int), (0 : Int), (0 : Int), (0 : Int), (0 : Int)) l x1.2).2).2).2).1) > ((nth ((0 : Int), (0 : Int), (0 : Int), (0 : Int), (0 : Int)) l x1.2).1))) then
                  bif decide (x1.1 < 0) then
                    some (.inl (x1.2, IntKind.wrap .i64 (x1.2 + 1)))
                  else
                    if 0 ≤ x1.2 ∧ x1.2 < (l.length : Int) then
                      if 0 ≤ x1.1 ∧ x1.1 < (l.length : Int) then
                        (vmfleetref35_Poorer.f ((nth ((0 : Int), (0 : Int), (0 : Int), (0 : Int), (0 : Int)) l x1.2).1, ((nth ((0 : Int), (0 : Int), (0 : Int), (0 : Int), (0 : Int)) l x1.2).2).1, (((nth ((0 : Int), (0 : Int), (0 : Int), (0 : Int), (0 : Int)) l x1.2).2).2).1, ((((nth ((0 : Int), (0 : Int), (0 : Int), (0 : Int), (0 : Int)) l x1.2).2).2).2)) ((nth ((0 : Int), (0 : Int), (0 : Int), (0 : Int), (0 : Int)) l x1.1).1, ((nth ((0 : Int), (0 : Int), (0 : Int), (0 : Int), (0 : Int)) l x1.1).2).1, (((nth ((0 : Int), (0 : Int), (0 : Int), (0 : Int), (0 : Int)) l x1.1).2).2).1, ((((nth ((0 : Int), (0 : Int), (0 : Int), (0 : Int), (0 : Int)) l x1.1).2).2).2)) tax).bind fun r3 =>
                        bif r3 then
                          some (.inl (x1.2, IntKind.wrap .i64 (x1.2 + 1)))
                        else
                          some (.inl (x1.1, IntKind.wrap .i64 (x1.2 + 1)))
                      else none
                    else none
                else
                  some (.inl (x1.1, IntKind.wrap .i64 (x1.2 + 1)))
              else none
            else none
          else
            some (.inl (x1.1, IntKind.wrap .i64 (x1.2 + 1)))
        else none
      else
        some (.inr (.inl x1.1))
    else
      some (.inr (.inl x1.1))) ((-1 : Int), (0 : Int))).bind fun o => match o with
  | .inl y2 =>
    bif decide (y2 < 0) then
      some ((0 : Int), false)
    else
      some (y2, true)
  | .inr r => some r
noncomputable def vmfleetref35_Payer.sp : FSpec := ⟨[(.sl (.st (.pair (.int .i64) (.pair (.int .i64) (.pair (.int .i64) (.pair (.int .i64) (.int .i64))))))), (.int .i64)], [(.int .i64), .bool], fun x => vmfleetref35_Payer.f x.1 x.2⟩
noncomputable def vmfleetref35_Payer.env : Env := ⟨TYS, [(20, vmfleetref35_ValidClaim.sp), (24, vmfleetref35_Poorer.sp), (32, vmfleetref35_taxed.sp)], [], [(3, ⟨[0, 1, 4, 5], [⟨6, false, (.int .i64)⟩, ⟨7, false, (.int .i64)⟩], [⟨6, false, (.int .i64)⟩], 0⟩)], [], []⟩
theorem vmfleetref35_Payer.eq (x) : fnEval vmfleetref35_Payer.env vmfleetref35_Payer.sp.args vmfleetref35_Payer.sp.res Go.Proofs.Try.f14 x = vmfleetref35_Payer.sp.f x := by kernel_rfl
theorem vmfleetref35_Payer.sound : Sound Try.prog 14 vmfleetref35_Payer.sp := Lift.sound (E := vmfleetref35_Payer.env) Try.func14 (by kernel_rfl) (env_ok TYS.ok mixed ⟨vmfleetref35_ValidClaim.sound, vmfleetref35_Poorer.sound, vmfleetref35_taxed.sound, trivial⟩ trivial) (by kernel_rfl) vmfleetref35_Payer.eq

/-! vmfleet/vmfleetref1.Next -/
noncomputable def vmfleetref1_Next.f (seed : Int) : Option (Int × Int) :=
  let v1 := IntKind.wrap .u64 (seed + 11400714819323198485)
  let v2 := IntKind.wrap .u64 ((xorI .u64 v1 (shrI .u64 v1 (30 : Int))) * 13787848793156543929)
  let v3 := IntKind.wrap .u64 ((xorI .u64 v2 (shrI .u64 v2 (27 : Int))) * 10723151780598845931)
  some (xorI .u64 v3 (shrI .u64 v3 (31 : Int)), v1)
noncomputable def vmfleetref1_Next.sp : FSpec := ⟨[(.int .u64)], [(.int .u64), (.int .u64)], fun x => vmfleetref1_Next.f x⟩
noncomputable def vmfleetref1_Next.env : Env := ⟨TYS, [], [], [], [], []⟩
theorem vmfleetref1_Next.eq (x) : fnEval vmfleetref1_Next.env vmfleetref1_Next.sp.args vmfleetref1_Next.sp.res Go.Proofs.Try.f35 x = vmfleetref1_Next.sp.f x := by kernel_rfl
theorem vmfleetref1_Next.sound : Sound Try.prog 35 vmfleetref1_Next.sp := Lift.sound (E := vmfleetref1_Next.env) Try.func35 (by kernel_rfl) (env_ok TYS.ok mixed trivial trivial) (by kernel_rfl) vmfleetref1_Next.eq

/-! vmfleet/vmfleetref35.Sample -/
noncomputable def vmfleetref35_Sample.f (seed : Int) (pages : Int) (n : Int) : Option (List Int × Int) :=
  bif decide (pages < 1) then
    some ([], seed)
  else
    bif decide (pages > 32) then
      some ([], seed)
    else
      bif decide (n < 1) then
        some ([], seed)
      else
        (loop (Y := (Int × List Int) ⊕ (List Int × Int)) (fun (x1 : Int × List Int × List Bool) =>
          bif decide ((x1.2.1.length : Int) < n) then
            bif decide ((x1.2.1.length : Int) < pages) then
              (vmfleetref1_Next.f x1.1).bind fun r1 =>
              if (IntKind.wrap .u64 pages) = 0 then none else
              (loop (Y := (Int) ⊕ ((Int × List Int × List Bool) ⊕ ((Int × List Int) ⊕ (List Int × Int)))) (fun (x2 : Int) =>
                if 0 ≤ x2 ∧ x2 < (32 : Int) then
                  bif nth false x1.2.2 x2 then
                    if pages = 0 then none else
                    some (.inl (Int.tmod (IntKind.wrap .i64 (x2 + 1)) pages))
                  else
                    some (.inr (.inl x2))
                else none) (IntKind.wrap .i64 (Int.tmod r1.1 (IntKind.wrap .u64 pages)))).bind fun o => match o with
              | .inl y3 =>
                if 0 ≤ y3 ∧ y3 < (32 : Int) then
                  if (x1.2.1.length + ([y3] : List Int).length) * 8 ≤ 70368744177664 then
                    some (.inl (r1.2, x1.2.1 ++ ([y3] : List Int), put x1.2.2 y3 true))
                  else none
                else none
              | .inr r => some r
            else
              some (.inr (.inl (x1.1, x1.2.1)))
          else
            some (.inr (.inl (x1.1, x1.2.1)))) (seed, [], List.replicate 32 false)).bind fun o => match o with
        | .inl y4 =>
          some (y4.2, y4.1)
        | .inr r => some r
noncomputable def vmfleetref35_Sample.sp : FSpec := ⟨[(.int .u64), (.int .i64), (.int .i64)], [(.own (.int .i64)), (.int .u64)], fun x => vmfleetref35_Sample.f x.1 x.2.1 x.2.2⟩
noncomputable def vmfleetref35_Sample.env : Env := ⟨TYS, [(35, vmfleetref1_Next.sp)], [], [(9, ⟨[0, 1, 2, 6, 7, 8, 9], [⟨12, false, (.int .i64)⟩], [⟨12, false, (.int .i64)⟩], 2⟩), (5, ⟨[1, 2, 6, 7], [⟨0, false, (.int .u64)⟩, ⟨8, false, (.own (.int .i64))⟩, ⟨9, true, (.arr 32 .bool)⟩], [⟨0, false, (.int .u64)⟩, ⟨8, false, (.own (.int .i64))⟩], 0⟩)], [], []⟩
theorem vmfleetref35_Sample.eq (x) : fnEval vmfleetref35_Sample.env vmfleetref35_Sample.sp.args vmfleetref35_Sample.sp.res Go.Proofs.Try.f16 x = vmfleetref35_Sample.sp.f x := by kernel_rfl
theorem vmfleetref35_Sample.sound : Sound Try.prog 16 vmfleetref35_Sample.sp := Lift.sound (E := vmfleetref35_Sample.env) Try.func16 (by kernel_rfl) (env_ok TYS.ok mixed ⟨vmfleetref1_Next.sound, trivial⟩ trivial) (by kernel_rfl) vmfleetref35_Sample.eq

/-! vmfleet/vmfleetref35.Targets -/
noncomputable def vmfleetref35_Targets.f (l : List (Int × Int × Int × Int × Int)) (total : Int) (tax : Int) : Option (List Int × Bool) :=
  bif decide ((l.length : Int) > 8) then
    some ([], false)
  else
    bif decide (total < 0) then
      some ([], false)
    else
      bif decide (total > 96) then
        some ([], false)
      else
        (vmfleetref35_taxed.f tax).bind fun r1 =>
        bif !r1 then
          some ([], false)
        else
          (loop (Y := (List Int × Int) ⊕ (List Int × Bool)) (fun (x1 : List Int × Int × Int) =>
            bif decide (x1.2.2 < (l.length : Int)) then
              if 0 ≤ x1.2.2 ∧ x1.2.2 < (l.length : Int) then
                (vmfleetref35_ValidClaim.f ((nth ((0 : Int), (0 : Int), (0 : Int), (0 : Int), (0 : Int)) l x1.2.2).1, ((nth ((0 : Int), (0 : Int), (0 : Int), (0 : Int), (0 : Int)) l x1.2.2).2).1, (((nth ((0 : Int), (0 : Int), (0 : Int), (0 : Int), (0 : Int)) l x1.2.2).2).2).1, ((((nth ((0 : Int), (0 : Int), (0 : Int), (0 : Int), (0 : Int)) l x1.2.2).2).2).2))).bind fun r2 =>
                bif !r2 then
                  some (.inr (.inr ([], false)))
                else
                  if 0 ≤ x1.2.2 ∧ x1.2.2 < (l.length : Int) then
                    bif (decide (((nth ((0 : Int), (0 : Int), (0 : Int), (0 : Int), (0 : Int)) l x1.2.2).1) > x1.2.1)) then
                      some (.inr (.inr ([], false)))
                    else
                      if 0 ≤ x1.2.2 ∧ x1.2.2 < (l.length : Int) then
                        if 0 ≤ x1.2.2 ∧ x1.2.2 < (l.length : Int) then
                          if (x1.1.length + ([(nth ((0 : Int), (0 : Int), (0 : Int), (0 : Int), (0 : Int)) l x1.2.2).1] : List Int).length) * 8 ≤ 70368744177664 then
                            some (.inl ((x1.1 ++ ([(nth ((0 : Int), (0 : Int), (0 : Int), (0 : Int), (0 : Int)) l x1.2.2).1] : List Int)), (IntKind.wrap .i64 (x1.2.1 - ((nth ((0 : Int), (0 : Int), (0 : Int), (0 : Int), (0 : Int)) l x1.2.2).1))), IntKind.wrap .i64 (x1.2.2 + 1)))
                          else none
                        else none
                      else none
                  else none
              else none
            else
              some (.inr (.inl (x1.1, x1.2.1)))) ([], total, (0 : Int))).bind fun o => match o with
          | .inl y2 =>
            (loop (Y := (List Int) ⊕ (List Int × Bool)) (fun (x3 : List Int × Int) =>
              bif decide (x3.2 > 0) then
                (loop (Y := (Int) ⊕ ((List Int × Int) ⊕ ((List Int) ⊕ (List Int × Bool)))) (fun (x4 : Int × (Int × Int × Int × Int × Int) × Int) =>
                  bif decide (x4.2.2 < (l.length : Int)) then
                    if 0 ≤ x4.2.2 ∧ x4.2.2 < (l.length : Int) then
                      if 0 ≤ x4.2.2 ∧ x4.2.2 < (x3.1.length : Int) then
                        let v4 := IntKind.wrap .i64 ((nth (0 : Int) x3.1 x4.2.2) + 1)
                        if 0 ≤ x4.2.2 ∧ x4.2.2 < (x3.1.length : Int) then
                          if 0 ≤ x4.2.2 ∧ x4.2.2 < (l.length : Int) then
                            bif decide ((nth (0 : Int) x3.1 x4.2.2) < (((nth ((0 : Int), (0 : Int), (0 : Int), (0 : Int), (0 : Int)) l x4.2.2).2).1)) then
                              bif decide (x4.1 < 0) then
                                some (.inl (x4.2.2, ((nth ((0 : Int), (0 : Int), (0 : Int), (0 : Int), (0 : Int)) l x4.2.2).1, ((nth ((0 : Int), (0 : Int), (0 : Int), (0 : Int), (0 : Int)) l x4.2.2).2).1, (((nth ((0 : Int), (0 : Int), (0 : Int), (0 : Int), (0 : Int)) l x4.2.2).2).2).1, v4, ((((nth ((0 : Int), (0 : Int), (0 : Int), (0 : Int), (0 : Int)) l x4.2.2).2).2).2).2), IntKind.wrap .i64 (x4.2.2 + 1)))
                              else
                                (vmfleetref35_Poorer.f x4.2.1 ((nth ((0 : Int), (0 : Int), (0 : Int), (0 : Int), (0 : Int)) l x4.2.2).1, ((nth ((0 : Int), (0 : Int), (0 : Int), (0 : Int), (0 : Int)) l x4.2.2).2).1, (((nth ((0 : Int), (0 : Int), (0 : Int), (0 : Int), (0 : Int)) l x4.2.2).2).2).1, v4, ((((nth ((0 : Int), (0 : Int), (0 : Int), (0 : Int), (0 : Int)) l x4.2.2).2).2).2).2) tax).bind fun r3 =>
                                bif r3 then
                                  some (.inl (x4.2.2, ((nth ((0 : Int), (0 : Int), (0 : Int), (0 : Int), (0 : Int)) l x4.2.2).1, ((nth ((0 : Int), (0 : Int), (0 : Int), (0 : Int), (0 : Int)) l x4.2.2).2).1, (((nth ((0 : Int), (0 : Int), (0 : Int), (0 : Int), (0 : Int)) l x4.2.2).2).2).1, v4, ((((nth ((0 : Int), (0 : Int), (0 : Int), (0 : Int), (0 : Int)) l x4.2.2).2).2).2).2), IntKind.wrap .i64 (x4.2.2 + 1)))
                                else
                                  some (.inl (x4.1, x4.2.1, IntKind.wrap .i64 (x4.2.2 + 1)))
                            else
                              some (.inl (x4.1, x4.2.1, IntKind.wrap .i64 (x4.2.2 + 1)))
                          else none
                        else none
                      else none
                    else none
                  else
                    some (.inr (.inl x4.1))) ((-1 : Int), ((0 : Int), (0 : Int), (0 : Int), (0 : Int), (0 : Int)), (0 : Int))).bind fun o => match o with
                | .inl y5 =>
                  bif decide (y5 < 0) then
                    some (.inr (.inl x3.1))
                  else
                    if 0 ≤ y5 ∧ y5 < (x3.1.length : Int) then
                      if 0 ≤ y5 ∧ y5 < (x3.1.length : Int) then
                        some (.inl (put x3.1 y5 (IntKind.wrap .i64 ((nth (0 : Int) x3.1 y5) + 1)), IntKind.wrap .i64 (x3.2 - 1)))
                      else none
                    else none
                | .inr r => some r
              else
                some (.inr (.inl x3.1))) y2).bind fun o => match o with
            | .inl y6 =>
              some (y6, true)
            | .inr r => some r
          | .inr r => some r
noncomputable def vmfleetref35_Targets.sp : FSpec := ⟨[(.sl (.st (.pair (.int .i64) (.pair (.int .i64) (.pair (.int .i64) (.pair (.int .i64) (.int .i64))))))), (.int .i64), (.int .i64)], [(.own (.int .i64)), .bool], fun x => vmfleetref35_Targets.f x.1 x.2.1 x.2.2⟩
noncomputable def vmfleetref35_Targets.env : Env := ⟨TYS, [(20, vmfleetref35_ValidClaim.sp), (24, vmfleetref35_Poorer.sp), (32, vmfleetref35_taxed.sp)], [], [(6, ⟨[0, 2], [⟨8, false, (.own (.int .i64))⟩, ⟨9, false, (.int .i64)⟩, ⟨10, false, (.int .i64)⟩], [⟨8, false, (.own (.int .i64))⟩, ⟨9, false, (.int .i64)⟩], 0⟩), (16, ⟨[0, 2, 8, 9], [⟨11, false, (.int .i64)⟩, ⟨12, true, (.st (.pair (.int .i64) (.pair (.int .i64) (.pair (.int .i64) (.pair (.int .i64) (.int .i64))))))⟩, ⟨13, false, (.int .i64)⟩], [⟨11, false, (.int .i64)⟩], 4⟩), (12, ⟨[0, 2], [⟨8, false, (.own (.int .i64))⟩, ⟨9, false, (.int .i64)⟩], [⟨8, false, (.own (.int .i64))⟩], 2⟩)], [], []⟩
theorem vmfleetref35_Targets.eq (x) : fnEval vmfleetref35_Targets.env vmfleetref35_Targets.sp.args vmfleetref35_Targets.sp.res Go.Proofs.Try.f18 x = vmfleetref35_Targets.sp.f x := by kernel_rfl
theorem vmfleetref35_Targets.sound : Sound Try.prog 18 vmfleetref35_Targets.sp := Lift.sound (E := vmfleetref35_Targets.env) Try.func18 (by kernel_rfl) (env_ok TYS.ok mixed ⟨vmfleetref35_ValidClaim.sound, vmfleetref35_Poorer.sound, vmfleetref35_taxed.sound, trivial⟩ trivial) (by kernel_rfl) vmfleetref35_Targets.eq

/-! vmfleet/vmfleetref35.Estimate -/
noncomputable def vmfleetref35_Estimate.f (old : Int) (used : Int) (n : Int) : Option Int :=
  bif decide (n < 1) then
    some old
  else
    bif decide (n > 32) then
      some old
    else
      bif decide (used < 0) then
        some old
      else
        bif decide (used > n) then
          some old
        else
          bif decide (old < 0) then
            some old
          else
            bif decide (old > 1000) then
              some old
            else
              if n = 0 then none else
              let v1 := IntKind.wrap .i64 (Int.tdiv (IntKind.wrap .i64 (used * 1000)) n)
              bif decide (v1 > old) then
                some v1
              else
                some (IntKind.wrap .i64 (Int.tdiv (IntKind.wrap .i64 ((IntKind.wrap .i64 (3 * old)) + v1)) (4 : Int)))
noncomputable def vmfleetref35_Estimate.sp : FSpec := ⟨[(.int .i64), (.int .i64), (.int .i64)], [(.int .i64)], fun x => vmfleetref35_Estimate.f x.1 x.2.1 x.2.2⟩
noncomputable def vmfleetref35_Estimate.env : Env := ⟨TYS, [], [], [], [], []⟩
theorem vmfleetref35_Estimate.eq (x) : fnEval vmfleetref35_Estimate.env vmfleetref35_Estimate.sp.args vmfleetref35_Estimate.sp.res Go.Proofs.Try.f27 x = vmfleetref35_Estimate.sp.f x := by kernel_rfl
theorem vmfleetref35_Estimate.sound : Sound Try.prog 27 vmfleetref35_Estimate.sp := Lift.sound (E := vmfleetref35_Estimate.env) Try.func27 (by kernel_rfl) (env_ok TYS.ok mixed trivial trivial) (by kernel_rfl) vmfleetref35_Estimate.eq

/-! vmfleet/vmfleetlaw37.TaxTells -/
noncomputable def vmfleetlaw37_TaxTells.f (a : Int × Int × Int × Int × Int) (b : Int × Int × Int × Int × Int) (l : List (Int × Int × Int × Int × Int)) (tax : Int) (seed : Int) (pages : Int) (n : Int) (old : Int) (total : Int) : Option Bool :=
  bif decide ((l.length : Int) > 20) then
    (vmfleetlaw37_awake.f).bind fun r1 =>
    some r1
  else
    (idletax_Victim.f l tax).bind fun r2 =>
    (vmfleetref35_Payer.f l tax).bind fun r3 =>
    (idletax_Sample.f seed pages n).bind fun r4 =>
    (vmfleetref35_Sample.f seed pages n).bind fun r5 =>
    (idletax_Targets.f l total tax).bind fun r6 =>
    (vmfleetref35_Targets.f l total tax).bind fun r7 =>
    (idletax_Valid.f a).bind fun r8 =>
    (vmfleetref35_ValidClaim.f a).bind fun r9 =>
    bif r8 == r9 then
      (idletax_Cost.f a tax).bind fun r10 =>
      (vmfleetref35_Cost.f a tax).bind fun r11 =>
      bif decide (r10 = r11) then
        (idletax_Poorer.f a b tax).bind fun r12 =>
        (vmfleetref35_Poorer.f a b tax).bind fun r13 =>
        bif r12 == r13 then
          bif decide (r2.1 = r3.1) then
            bif r2.2 == r3.2 then
              (vmfleetref1_SameInts.f r4.1 r5.1).bind fun r14 =>
              bif r14 then
                bif decide (r4.2 = r5.2) then
                  (idletax_Estimate.f old pages n).bind fun r15 =>
                  (vmfleetref35_Estimate.f old pages n).bind fun r16 =>
                  bif decide (r15 = r16) then
                    (vmfleetref1_SameInts.f r6.1 r7.1).bind fun r17 =>
                    bif r17 then
                      bif r6.2 == r7.2 then
                        (vmfleetlaw37_awake.f).bind fun r18 =>
                        some r18
                      else
                        some false
                    else
                      some false
                  else
                    some false
                else
                  some false
              else
                some false
            else
              some false
          else
            some false
        else
          some false
      else
        some false
    else
      some false
noncomputable def vmfleetlaw37_TaxTells.sp : FSpec := ⟨[(.st (.pair (.int .i64) (.pair (.int .i64) (.pair (.int .i64) (.pair (.int .i64) (.int .i64)))))), (.st (.pair (.int .i64) (.pair (.int .i64) (.pair (.int .i64) (.pair (.int .i64) (.int .i64)))))), (.sl (.st (.pair (.int .i64) (.pair (.int .i64) (.pair (.int .i64) (.pair (.int .i64) (.int .i64))))))), (.int .i64), (.int .u64), (.int .i64), (.int .i64), (.int .i64), (.int .i64)], [.bool], fun x => vmfleetlaw37_TaxTells.f x.1 x.2.1 x.2.2.1 x.2.2.2.1 x.2.2.2.2.1 x.2.2.2.2.2.1 x.2.2.2.2.2.2.1 x.2.2.2.2.2.2.2.1 x.2.2.2.2.2.2.2.2⟩
noncomputable def vmfleetlaw37_TaxTells.env : Env := ⟨TYS, [(12, vmfleetlaw37_awake.sp), (13, idletax_Victim.sp), (14, vmfleetref35_Payer.sp), (15, idletax_Sample.sp), (16, vmfleetref35_Sample.sp), (17, idletax_Targets.sp), (18, vmfleetref35_Targets.sp), (19, idletax_Valid.sp), (20, vmfleetref35_ValidClaim.sp), (21, idletax_Cost.sp), (22, vmfleetref35_Cost.sp), (23, idletax_Poorer.sp), (24, vmfleetref35_Poorer.sp), (25, vmfleetref1_SameInts.sp), (26, idletax_Estimate.sp), (27, vmfleetref35_Estimate.sp)], [], [], [], []⟩
theorem vmfleetlaw37_TaxTells.eq (x) : fnEval vmfleetlaw37_TaxTells.env vmfleetlaw37_TaxTells.sp.args vmfleetlaw37_TaxTells.sp.res Go.Proofs.Try.f3 x = vmfleetlaw37_TaxTells.sp.f x := by kernel_rfl
theorem vmfleetlaw37_TaxTells.sound : Sound Try.prog 3 vmfleetlaw37_TaxTells.sp := Lift.sound (E := vmfleetlaw37_TaxTells.env) Try.func3 (by kernel_rfl) (env_ok TYS.ok mixed ⟨vmfleetlaw37_awake.sound, idletax_Victim.sound, vmfleetref35_Payer.sound, idletax_Sample.sound, vmfleetref35_Sample.sound, idletax_Targets.sound, vmfleetref35_Targets.sound, idletax_Valid.sound, vmfleetref35_ValidClaim.sound, idletax_Cost.sound, vmfleetref35_Cost.sound, idletax_Poorer.sound, vmfleetref35_Poorer.sound, vmfleetref1_SameInts.sound, idletax_Estimate.sound, vmfleetref35_Estimate.sound, trivial⟩ trivial) (by kernel_rfl) vmfleetlaw37_TaxTells.eq

/-! vmfleet/vmfleetmake.Mix -/
noncomputable def vmfleetmake_Mix.f (n : Int) (k : Int) : Option Int :=
  (vmfleetref1_Next.f (xorI .u64 (IntKind.wrap .u64 n) (IntKind.wrap .u64 ((IntKind.wrap .u64 k) * 11400714819323198485)))).bind fun r1 =>
  some (IntKind.wrap .i64 (shrI .u64 r1.1 (1 : Int)))
noncomputable def vmfleetmake_Mix.sp : FSpec := ⟨[(.int .i64), (.int .i64)], [(.int .i64)], fun x => vmfleetmake_Mix.f x.1 x.2⟩
noncomputable def vmfleetmake_Mix.env : Env := ⟨TYS, [(35, vmfleetref1_Next.sp)], [], [], [], []⟩
theorem vmfleetmake_Mix.eq (x) : fnEval vmfleetmake_Mix.env vmfleetmake_Mix.sp.args vmfleetmake_Mix.sp.res Go.Proofs.Try.f36 x = vmfleetmake_Mix.sp.f x := by kernel_rfl
theorem vmfleetmake_Mix.sound : Sound Try.prog 36 vmfleetmake_Mix.sp := Lift.sound (E := vmfleetmake_Mix.env) Try.func36 (by kernel_rfl) (env_ok TYS.ok mixed ⟨vmfleetref1_Next.sound, trivial⟩ trivial) (by kernel_rfl) vmfleetmake_Mix.eq

/-! vmfleet/vmfleetlaw37.claim -/
noncomputable def vmfleetlaw37_claim.f (n : Int) : Option (Int × Int × Int × Int × Int) :=
  (vmfleetmake_Mix.f n (31 : Int)).bind fun r1 =>
  let v1 := IntKind.wrap .i64 (1 + (andI .i64 r1 (7 : Int)))
  some (v1, IntKind.wrap .i64 (v1 + (andI .i64 (shrI .i64 r1 (26 : Int)) (31 : Int))), IntKind.wrap .i64 (1 + (andI .i64 (shrI .i64 r1 (3 : Int)) (255 : Int))), (andI .i64 (shrI .i64 r1 (11 : Int)) (31 : Int)), (IntKind.wrap .i64 (Int.tdiv (IntKind.wrap .i64 ((andI .i64 (shrI .i64 r1 (16 : Int)) (1023 : Int)) * 1000)) (1023 : Int))))
noncomputable def vmfleetlaw37_claim.sp : FSpec := ⟨[(.int .i64)], [(.st (.pair (.int .i64) (.pair (.int .i64) (.pair (.int .i64) (.pair (.int .i64) (.int .i64))))))], fun x => vmfleetlaw37_claim.f x⟩
noncomputable def vmfleetlaw37_claim.env : Env := ⟨TYS, [(36, vmfleetmake_Mix.sp)], [], [], [], []⟩
theorem vmfleetlaw37_claim.eq (x) : fnEval vmfleetlaw37_claim.env vmfleetlaw37_claim.sp.args vmfleetlaw37_claim.sp.res Go.Proofs.Try.f30 x = vmfleetlaw37_claim.sp.f x := by kernel_rfl
theorem vmfleetlaw37_claim.sound : Sound Try.prog 30 vmfleetlaw37_claim.sp := Lift.sound (E := vmfleetlaw37_claim.env) Try.func30 (by kernel_rfl) (env_ok TYS.ok mixed ⟨vmfleetmake_Mix.sound, trivial⟩ trivial) (by kernel_rfl) vmfleetlaw37_claim.eq

/-! vmfleet/vmfleetlaw37.claims -/
noncomputable def vmfleetlaw37_claims.f (l : List Int) : Option (List (Int × Int × Int × Int × Int)) :=
  (loop (Y := (List (Int × Int × Int × Int × Int)) ⊕ (List (Int × Int × Int × Int × Int))) (fun (x1 : (List (Int × Int × Int × Int × Int)) × Int) =>
    bif decide (x1.2 < (l.length : Int)) then
      if 0 ≤ x1.2 ∧ x1.2 < (l.length : Int) then
        (vmfleetlaw37_claim.f (nth (0 : Int) l x1.2)).bind fun r1 =>
        if (x1.1.length + ([r1] : List (Int × Int × Int × Int × Int)).length) * 40 ≤ 70368744177664 then
          some (.inl ((x1.1 ++ ([r1] : List (Int × Int × Int × Int × Int))), IntKind.wrap .i64 (x1.2 + 1)))
        else none
      else none
    else
      some (.inr (.inl x1.1))) ([], (0 : Int))).bind fun o => match o with
  | .inl y2 =>
    some y2
  | .inr r => some r
noncomputable def vmfleetlaw37_claims.sp : FSpec := ⟨[(.sl (.int .i64))], [(.own (.st (.pair (.int .i64) (.pair (.int .i64) (.pair (.int .i64) (.pair (.int .i64) (.int .i64)))))))], fun x => vmfleetlaw37_claims.f x⟩
noncomputable def vmfleetlaw37_claims.env : Env := ⟨TYS, [(30, vmfleetlaw37_claim.sp)], [], [(3, ⟨[0, 2], [⟨3, false, (.own (.st (.pair (.int .i64) (.pair (.int .i64) (.pair (.int .i64) (.pair (.int .i64) (.int .i64)))))))⟩, ⟨4, false, (.int .i64)⟩], [⟨3, false, (.own (.st (.pair (.int .i64) (.pair (.int .i64) (.pair (.int .i64) (.pair (.int .i64) (.int .i64)))))))⟩], 0⟩)], [], []⟩
theorem vmfleetlaw37_claims.eq (x) : fnEval vmfleetlaw37_claims.env vmfleetlaw37_claims.sp.args vmfleetlaw37_claims.sp.res Go.Proofs.Try.f28 x = vmfleetlaw37_claims.sp.f x := by kernel_rfl
theorem vmfleetlaw37_claims.sound : Sound Try.prog 28 vmfleetlaw37_claims.sp := Lift.sound (E := vmfleetlaw37_claims.env) Try.func28 (by kernel_rfl) (env_ok TYS.ok mixed ⟨vmfleetlaw37_claim.sound, trivial⟩ trivial) (by kernel_rfl) vmfleetlaw37_claims.eq

/-! vmfleet/vmfleetmake.Round -/
noncomputable def vmfleetmake_Round.f (n : Int) (k : Int) : Option Int :=
  if k = 0 then none else
  bif decide ((Int.tmod n k) < 0) then
    some (IntKind.wrap .i64 ((Int.tmod n k) + k))
  else
    some (Int.tmod n k)
noncomputable def vmfleetmake_Round.sp : FSpec := ⟨[(.int .i64), (.int .i64)], [(.int .i64)], fun x => vmfleetmake_Round.f x.1 x.2⟩
noncomputable def vmfleetmake_Round.env : Env := ⟨TYS, [], [], [], [], []⟩
theorem vmfleetmake_Round.eq (x) : fnEval vmfleetmake_Round.env vmfleetmake_Round.sp.args vmfleetmake_Round.sp.res Go.Proofs.Try.f29 x = vmfleetmake_Round.sp.f x := by kernel_rfl
theorem vmfleetmake_Round.sound : Sound Try.prog 29 vmfleetmake_Round.sp := Lift.sound (E := vmfleetmake_Round.env) Try.func29 (by kernel_rfl) (env_ok TYS.ok mixed trivial trivial) (by kernel_rfl) vmfleetmake_Round.eq

/-! vmfleet/vmfleetlaw37.TaxMade -/
noncomputable def vmfleetlaw37_TaxMade.f (l : List Int) (total : Int) (tax : Int) : Option Bool :=
  bif decide ((l.length : Int) > 8) then
    (vmfleetlaw37_awake.f).bind fun r1 =>
    some r1
  else
    (vmfleetlaw37_claims.f l).bind fun r2 =>
    (vmfleetmake_Round.f tax (100 : Int)).bind fun r3 =>
    (vmfleetmake_Round.f total (97 : Int)).bind fun r4 =>
    (idletax_Victim.f r2 r3).bind fun r5 =>
    (vmfleetref35_Payer.f r2 r3).bind fun r6 =>
    (idletax_Targets.f r2 r4 r3).bind fun r7 =>
    (vmfleetref35_Targets.f r2 r4 r3).bind fun r8 =>
    bif decide (r5.1 = r6.1) then
      bif r5.2 == r6.2 then
        (vmfleetref1_SameInts.f r7.1 r8.1).bind fun r9 =>
        bif r9 then
          bif r7.2 == r8.2 then
            (vmfleetlaw37_awake.f).bind fun r10 =>
            some r10
          else
            some false
        else
          some false
      else
        some false
    else
      some false
noncomputable def vmfleetlaw37_TaxMade.sp : FSpec := ⟨[(.sl (.int .i64)), (.int .i64), (.int .i64)], [.bool], fun x => vmfleetlaw37_TaxMade.f x.1 x.2.1 x.2.2⟩
noncomputable def vmfleetlaw37_TaxMade.env : Env := ⟨TYS, [(12, vmfleetlaw37_awake.sp), (13, idletax_Victim.sp), (14, vmfleetref35_Payer.sp), (17, idletax_Targets.sp), (18, vmfleetref35_Targets.sp), (25, vmfleetref1_SameInts.sp), (28, vmfleetlaw37_claims.sp), (29, vmfleetmake_Round.sp)], [], [], [], []⟩
theorem vmfleetlaw37_TaxMade.eq (x) : fnEval vmfleetlaw37_TaxMade.env vmfleetlaw37_TaxMade.sp.args vmfleetlaw37_TaxMade.sp.res Go.Proofs.Try.f4 x = vmfleetlaw37_TaxMade.sp.f x := by kernel_rfl
theorem vmfleetlaw37_TaxMade.sound : Sound Try.prog 4 vmfleetlaw37_TaxMade.sp := Lift.sound (E := vmfleetlaw37_TaxMade.env) Try.func4 (by kernel_rfl) (env_ok TYS.ok mixed ⟨vmfleetlaw37_awake.sound, idletax_Victim.sound, vmfleetref35_Payer.sound, idletax_Targets.sound, vmfleetref35_Targets.sound, vmfleetref1_SameInts.sound, vmfleetlaw37_claims.sound, vmfleetmake_Round.sound, trivial⟩ trivial) (by kernel_rfl) vmfleetlaw37_TaxMade.eq

/-! vmfleet/vmfleetlaw37.TaxDivides -/
noncomputable def vmfleetlaw37_TaxDivides.f (l : List Int) (total : Int) (tax : Int) : Option Bool :=
  bif decide ((l.length : Int) > 8) then
    (vmfleetlaw37_awake.f).bind fun r1 =>
    some r1
  else
    (vmfleetlaw37_claims.f l).bind fun r2 =>
    (vmfleetmake_Round.f total (97 : Int)).bind fun r3 =>
    (vmfleetmake_Round.f tax (100 : Int)).bind fun r4 =>
    (idletax_Targets.f r2 r3 r4).bind fun r5 =>
    (loop (Y := (Int × Int) ⊕ (Bool)) (fun (x1 : Int × Int × Int) =>
      bif decide (x1.2.2 < (r2.length : Int)) then
        if 0 ≤ x1.2.2 ∧ x1.2.2 < (r2.length : Int) then
          if 0 ≤ x1.2.2 ∧ x1.2.2 < (r2.length : Int) then
            some (.inl ((IntKind.wrap .i64 (x1.1 + ((nth ((0 : Int), (0 : Int), (0 : Int), (0 : Int), (0 : Int)) r2 x1.2.2).1))), (IntKind.wrap .i64 (x1.2.1 + (((nth ((0 : Int), (0 : Int), (0 : Int), (0 : Int), (0 : Int)) r2 x1.2.2).2).1))), IntKind.wrap .i64 (x1.2.2 + 1)))
          else none
        else none
      else
        some (.inr (.inl (x1.1, x1.2.1)))) ((0 : Int), (0 : Int), (0 : Int))).bind fun o => match o with
    | .inl y2 =>
      bif !(r5.2 == (decide (y2.1 ≤ r3))) then
        some false
      else
        bif !r5.2 then
          bif decide ((r5.1.length : Int) = 0) then
            (vmfleetlaw37_awake.f).bind fun r6 =>
            some r6
          else
            some false
        else
          bif !decide ((r5.1.length : Int) = (r2.length : Int)) then
            some false
          else
            (loop (Y := (Int) ⊕ (Bool)) (fun (x3 : Int × Int) =>
              bif decide (x3.2 < (r2.length : Int)) then
                if 0 ≤ x3.2 ∧ x3.2 < (r5.1.length : Int) then
                  if 0 ≤ x3.2 ∧ x3.2 < (r2.length : Int) then
                    bif decide ((nth (0 : Int) r5.1 x3.2) < ((nth ((0 : Int), (0 : Int), (0 : Int), (0 : Int), (0 : Int)) r2 x3.2).1)) then
                      some (.inr (.inr false))
                    else
                      if 0 ≤ x3.2 ∧ x3.2 < (r5.1.length : Int) then
                        if 0 ≤ x3.2 ∧ x3.2 < (r2.length : Int) then
                          bif (decide ((nth (0 : Int) r5.1 x3.2) > (((nth ((0 : Int), (0 : Int), (0 : Int), (0 : Int), (0 : Int)) r2 x3.2).2).1))) then
                            some (.inr (.inr false))
                          else
                            if 0 ≤ x3.2 ∧ x3.2 < (r5.1.length : Int) then
                              some (.inl ((IntKind.wrap .i64 (x3.1 + (nth (0 : Int) r5.1 x3.2))), IntKind.wrap .i64 (x3.2 + 1)))
                            else none
                        else none
                      else none
                  else none
                else none
              else
                some (.inr (.inl x3.1))) ((0 : Int), (0 : Int))).bind fun o => match o with
            | .inl y4 =>
              bif decide (y4 = (min r3 y2.2)) then
                (vmfleetlaw37_awake.f).bind fun r7 =>
                some r7
              else
                some false
            | .inr r => some r
    | .inr r => some r
noncomputable def vmfleetlaw37_TaxDivides.sp : FSpec := ⟨[(.sl (.int .i64)), (.int .i64), (.int .i64)], [.bool], fun x => vmfleetlaw37_TaxDivides.f x.1 x.2.1 x.2.2⟩
noncomputable def vmfleetlaw37_TaxDivides.env : Env := ⟨TYS, [(12, vmfleetlaw37_awake.sp), (17, idletax_Targets.sp), (28, vmfleetlaw37_claims.sp), (29, vmfleetmake_Round.sp)], [], [(8, ⟨[1, 6, 7, 8, 9, 12], [⟨10, false, (.int .i64)⟩, ⟨11, false, (.int .i64)⟩, ⟨13, false, (.int .i64)⟩], [⟨10, false, (.int .i64)⟩, ⟨11, false, (.int .i64)⟩], 0⟩), (19, ⟨[1, 7, 8, 11], [⟨12, false, (.int .i64)⟩, ⟨14, false, (.int .i64)⟩], [⟨12, false, (.int .i64)⟩], 2⟩)], [], []⟩
theorem vmfleetlaw37_TaxDivides.eq (x) : fnEval vmfleetlaw37_TaxDivides.env vmfleetlaw37_TaxDivides.sp.args vmfleetlaw37_TaxDivides.sp.res Go.Proofs.Try.f5 x = vmfleetlaw37_TaxDivides.sp.f x := by kernel_rfl
theorem vmfleetlaw37_TaxDivides.sound : Sound Try.prog 5 vmfleetlaw37_TaxDivides.sp := Lift.sound (E := vmfleetlaw37_TaxDivides.env) Try.func5 (by kernel_rfl) (env_ok TYS.ok mixed ⟨vmfleetlaw37_awake.sound, idletax_Targets.sound, vmfleetlaw37_claims.sound, vmfleetmake_Round.sound, trivial⟩ trivial) (by kernel_rfl) vmfleetlaw37_TaxDivides.eq

/-! vmfleet/vmfleetlaw37.TaxShares -/
noncomputable def vmfleetlaw37_TaxShares.f (l : List Int) (n : Int) (total : Int) (tax : Int) (more : Int) (active : Bool) : Option Bool :=
  bif decide ((l.length : Int) > 6) then
    (vmfleetlaw37_awake.f).bind fun r1 =>
    some r1
  else
    (vmfleetlaw37_claim.f n).bind fun r2 =>
    (bif active then
      (vmfleetmake_Round.f more (1000 : Int)).bind fun r3 =>
      some (.inl (r2.1, r2.2.1, r2.2.2.1, r2.2.2.2.1, (min (1000 : Int) (IntKind.wrap .i64 (r2.2.2.2.2 + r3)))))
    else
      (vmfleetmake_Round.f more (1000 : Int)).bind fun r4 =>
      some (.inl (r2.1, r2.2.1, (min (1000 : Int) (IntKind.wrap .i64 (r2.2.2.1 + r4))), r2.2.2.2)) : Option ((Int × Int × Int × Int × Int) ⊕ (Bool))).bind fun o => match o with
    | .inl y1 =>
      (vmfleetlaw37_claims.f l).bind fun r5 =>
      if (r5.length + ([r2, y1] : List (Int × Int × Int × Int × Int)).length) * 40 ≤ 70368744177664 then
        (vmfleetmake_Round.f tax (100 : Int)).bind fun r6 =>
        (vmfleetmake_Round.f total (97 : Int)).bind fun r7 =>
        (idletax_Targets.f (r5 ++ ([r2, y1] : List (Int × Int × Int × Int × Int))) r7 r6).bind fun r8 =>
        bif !r8.2 then
          (vmfleetlaw37_awake.f).bind fun r9 =>
          some r9
        else
          (bif decide (r2 = y1) then
            some (.inl true)
          else
            bif active then
              some (.inl (decide (r6 = 0)))
            else
              some (.inl false) : Option ((Bool) ⊕ (Bool))).bind fun o => match o with
          | .inl y2 =>
            bif decide ((r8.1.length : Int) = (IntKind.wrap .i64 ((l.length : Int) + 2))) then
              if 0 ≤ (IntKind.wrap .i64 ((l.length : Int) + 1)) ∧ (IntKind.wrap .i64 ((l.length : Int) + 1)) < (r8.1.length : Int) then
                if 0 ≤ (l.length : Int) ∧ (l.length : Int) < (r8.1.length : Int) then
                  bif decide ((nth (0 : Int) r8.1 (IntKind.wrap .i64 ((l.length : Int) + 1))) ≥ (nth (0 : Int) r8.1 (l.length : Int))) then
                    (vmfleetlaw37_awake.f).bind fun r10 =>
                    some r10
                  else
                    bif y2 then
                      if 0 ≤ (l.length : Int) ∧ (l.length : Int) < (r8.1.length : Int) then
                        if 0 ≤ (IntKind.wrap .i64 ((l.length : Int) + 1)) ∧ (IntKind.wrap .i64 ((l.length : Int) + 1)) < (r8.1.length : Int) then
                          bif (decide ((nth (0 : Int) r8.1 (l.length : Int)) = (IntKind.wrap .i64 ((nth (0 : Int) r8.1 (IntKind.wrap .i64 ((l.length : Int) + 1))) + 1)))) then
                            (vmfleetlaw37_awake.f).bind fun r11 =>
                            some r11
                          else
                            some false
                        else none
                      else none
                    else
                      some false
                else none
              else none
            else
              some false
          | .inr r => some r
      else none
    | .inr r => some r
noncomputable def vmfleetlaw37_TaxShares.sp : FSpec := ⟨[(.sl (.int .i64)), (.int .i64), (.int .i64), (.int .i64), (.int .i64), .bool], [.bool], fun x => vmfleetlaw37_TaxShares.f x.1 x.2.1 x.2.2.1 x.2.2.2.1 x.2.2.2.2.1 x.2.2.2.2.2⟩
noncomputable def vmfleetlaw37_TaxShares.env : Env := ⟨TYS, [(12, vmfleetlaw37_awake.sp), (17, idletax_Targets.sp), (28, vmfleetlaw37_claims.sp), (29, vmfleetmake_Round.sp), (30, vmfleetlaw37_claim.sp)], [], [], [(8, ⟨[0, 2, 3, 5, 12, 13], [⟨14, true, (.st (.pair (.int .i64) (.pair (.int .i64) (.pair (.int .i64) (.pair (.int .i64) (.int .i64))))))⟩], [⟨14, true, (.st (.pair (.int .i64) (.pair (.int .i64) (.pair (.int .i64) (.pair (.int .i64) (.int .i64))))))⟩], 0⟩), (15, ⟨[12, 16, 18], [], [⟨19, false, .bool⟩], 0⟩)], []⟩
theorem vmfleetlaw37_TaxShares.eq (x) : fnEval vmfleetlaw37_TaxShares.env vmfleetlaw37_TaxShares.sp.args vmfleetlaw37_TaxShares.sp.res Go.Proofs.Try.f6 x = vmfleetlaw37_TaxShares.sp.f x := by kernel_rfl
theorem vmfleetlaw37_TaxShares.sound : Sound Try.prog 6 vmfleetlaw37_TaxShares.sp := Lift.sound (E := vmfleetlaw37_TaxShares.env) Try.func6 (by kernel_rfl) (env_ok TYS.ok mixed ⟨vmfleetlaw37_awake.sound, idletax_Targets.sound, vmfleetlaw37_claims.sound, vmfleetmake_Round.sound, vmfleetlaw37_claim.sound, trivial⟩ trivial) (by kernel_rfl) vmfleetlaw37_TaxShares.eq

/-! vmfleet/vmfleetlaw37.TaxVictim -/
noncomputable def vmfleetlaw37_TaxVictim.f (l : List Int) (tax : Int) : Option Bool :=
  bif decide ((l.length : Int) > 8) then
    (vmfleetlaw37_awake.f).bind fun r1 =>
    some r1
  else
    (vmfleetlaw37_claims.f l).bind fun r2 =>
    (vmfleetmake_Round.f tax (100 : Int)).bind fun r3 =>
    (idletax_Victim.f r2 r3).bind fun r4 =>
    (loop (Y := (Bool) ⊕ (Bool)) (fun (x1 : Bool × Int) =>
      bif decide (x1.2 < (r2.length : Int)) then
        if 0 ≤ x1.2 ∧ x1.2 < (r2.length : Int) then
          if 0 ≤ x1.2 ∧ x1.2 < (r2.length : Int) then
            bif decide ((((((nth ((0 : Int), (0 : Int), (0 : Int), (0 : Int), (0 : Int)) r2 x1.2).2).2).2).1) ≤ ((nth ((0 : Int), (0 : Int), (0 : Int), (0 : Int), (0 : Int)) r2 x1.2).1)) then
              some (.inl (x1.1, IntKind.wrap .i64 (x1.2 + 1)))
            else
              bif !r4.2 then
                some (.inr (.inr false))
              else
                bif decide (r4.1 < 0) then
                  some (.inr (.inr false))
                else
                  bif decide (r4.1 ≥ (r2.length : Int)) then
                    some (.inr (.inr false))
                  else
                    if 0 ≤ x1.2 ∧ x1.2 < (r2.length : Int) then
                      if 0 ≤ r4.1 ∧ r4.1 < (r2.length : Int) then
                        (idletax_Poorer.f ((nth ((0 : Int), (0 : Int), (0 : Int), (0 : Int), (0 : Int)) r2 x1.2).1, ((nth ((0 : Int), (0 : Int), (0 : Int), (0 : Int), (0 : Int)) r2 x1.2).2).1, (((nth ((0 : Int), (0 : Int), (0 : Int), (0 : Int), (0 : Int)) r2 x1.2).2).2).1, ((((nth ((0 : Int), (0 : Int), (0 : Int), (0 : Int), (0 : Int)) r2 x1.2).2).2).2)) ((nth ((0 : Int), (0 : Int), (0 : Int), (0 : Int), (0 : Int)) r2 r4.1).1, ((nth ((0 : Int), (0 : Int), (0 : Int), (0 : Int), (0 : Int)) r2 r4.1).2).1, (((nth ((0 : Int), (0 : Int), (0 : Int), (0 : Int), (0 : Int)) r2 r4.1).2).2).1, ((((nth ((0 : Int), (0 : Int), (0 : Int), (0 : Int), (0 : Int)) r2 r4.1).2).2).2)) r3).bind fun r5 =>
                        bif r5 then
                          some (.inr (.inr false))
                        else
                          some (.inl (true, IntKind.wrap .i64 (x1.2 + 1)))
                      else none
                    else none
          else none
        else none
      else
        some (.inr (.inl x1.1))) (false, (0 : Int))).bind fun o => match o with
    | .inl y2 =>
      bif r4.2 == y2 then
        bif !r4.2 then
          (vmfleetlaw37_awake.f).bind fun r6 =>
          some r6
        else
          if 0 ≤ r4.1 ∧ r4.1 < (r2.length : Int) then
            if 0 ≤ r4.1 ∧ r4.1 < (r2.length : Int) then
              bif (decide ((((((nth ((0 : Int), (0 : Int), (0 : Int), (0 : Int), (0 : Int)) r2 r4.1).2).2).2).1) > ((nth ((0 : Int), (0 : Int), (0 : Int), (0 : Int), (0 : Int)) r2 r4.1).1))) then
                (vmfleetlaw37_awake.f).bind fun r7 =>
                some r7
              else
                some false
            else none
          else none
      else
        some false
    | .inr r => some r
noncomputable def vmfleetlaw37_TaxVictim.sp : FSpec := ⟨[(.sl (.int .i64)), (.int .i64)], [.bool], fun x => vmfleetlaw37_TaxVictim.f x.1 x.2⟩
noncomputable def vmfleetlaw37_TaxVictim.env : Env := ⟨TYS, [(12, vmfleetlaw37_awake.sp), (13, idletax_Victim.sp), (23, idletax_Poorer.sp), (28, vmfleetlaw37_claims.sp), (29, vmfleetmake_Round.sp)], [], [(8, ⟨[1, 5, 6, 7], [⟨8, false, .bool⟩, ⟨9, false, (.int .i64)⟩], [⟨8, false, .bool⟩], 0⟩)], [], []⟩
theorem vmfleetlaw37_TaxVictim.eq (x) : fnEval vmfleetlaw37_TaxVictim.env vmfleetlaw37_TaxVictim.sp.args vmfleetlaw37_TaxVictim.sp.res Go.Proofs.Try.f7 x = vmfleetlaw37_TaxVictim.sp.f x := by kernel_rfl
theorem vmfleetlaw37_TaxVictim.sound : Sound Try.prog 7 vmfleetlaw37_TaxVictim.sp := Lift.sound (E := vmfleetlaw37_TaxVictim.env) Try.func7 (by kernel_rfl) (env_ok TYS.ok mixed ⟨vmfleetlaw37_awake.sound, idletax_Victim.sound, idletax_Poorer.sound, vmfleetlaw37_claims.sound, vmfleetmake_Round.sound, trivial⟩ trivial) (by kernel_rfl) vmfleetlaw37_TaxVictim.eq

/-! vmfleet/vmfleetlaw37.TaxOrders -/
noncomputable def vmfleetlaw37_TaxOrders.f (x : Int) (y : Int) (z : Int) (tax : Int) : Option Bool :=
  (vmfleetlaw37_claim.f x).bind fun r1 =>
  (vmfleetlaw37_claim.f y).bind fun r2 =>
  (vmfleetlaw37_claim.f z).bind fun r3 =>
  (vmfleetmake_Round.f tax (100 : Int)).bind fun r4 =>
  ((idletax_Poorer.f r1 r1 r4).bind fun r5 =>
  bif r5 then
    some (.inr false)
  else
    (idletax_Poorer.f r1 r2 r4).bind fun r6 =>
    bif r6 then
      (idletax_Poorer.f r2 r1 r4).bind fun r7 =>
      bif r7 then
        some (.inr false)
      else
        some (.inl ())
    else
      some (.inl ()) : Option ((Unit) ⊕ (Bool))).bind fun o => match o with
  | .inl y1 =>
    (bif decide (r1.2.2.2.1 > 0) then
      bif decide (r2.2.2.2.1 > 0) then
        bif decide (r3.2.2.2.1 > 0) then
          (idletax_Poorer.f r1 r2 r4).bind fun r8 =>
          bif r8 then
            (idletax_Poorer.f r2 r3 r4).bind fun r9 =>
            bif r9 then
              (idletax_Poorer.f r1 r3 r4).bind fun r10 =>
              bif !r10 then
                some (.inr false)
              else
                some (.inl ())
            else
              some (.inl ())
          else
            some (.inl ())
        else
          some (.inl ())
      else
        some (.inl ())
    else
      some (.inl ()) : Option ((Unit) ⊕ (Bool))).bind fun o => match o with
    | .inl y2 =>
      (idletax_Poorer.f (r1.1, r1.2.1, r1.2.2.1, r1.2.2.2.1, (0 : Int)) (r1.1, r1.2.1, r1.2.2.1, r1.2.2.2.1, (1000 : Int)) r4).bind fun r11 =>
      bif decide (r1.2.2.2.1 > 0) then
        bif r11 == (decide (r4 > 0)) then
          (vmfleetlaw37_awake.f).bind fun r12 =>
          some r12
        else
          some false
      else
        bif r11 == false then
          (vmfleetlaw37_awake.f).bind fun r13 =>
          some r13
        else
          some false
    | .inr r => some r
  | .inr r => some r
noncomputable def vmfleetlaw37_TaxOrders.sp : FSpec := ⟨[(.int .i64), (.int .i64), (.int .i64), (.int .i64)], [.bool], fun x => vmfleetlaw37_TaxOrders.f x.1 x.2.1 x.2.2.1 x.2.2.2⟩
noncomputable def vmfleetlaw37_TaxOrders.env : Env := ⟨TYS, [(12, vmfleetlaw37_awake.sp), (23, idletax_Poorer.sp), (29, vmfleetmake_Round.sp), (30, vmfleetlaw37_claim.sp)], [], [], [(5, ⟨[3, 9, 10, 11], [], [], 0⟩), (7, ⟨[3, 9], [], [], 0⟩)], []⟩
theorem vmfleetlaw37_TaxOrders.eq (x) : fnEval vmfleetlaw37_TaxOrders.env vmfleetlaw37_TaxOrders.sp.args vmfleetlaw37_TaxOrders.sp.res Go.Proofs.Try.f8 x = vmfleetlaw37_TaxOrders.sp.f x := by kernel_rfl
theorem vmfleetlaw37_TaxOrders.sound : Sound Try.prog 8 vmfleetlaw37_TaxOrders.sp := Lift.sound (E := vmfleetlaw37_TaxOrders.env) Try.func8 (by kernel_rfl) (env_ok TYS.ok mixed ⟨vmfleetlaw37_awake.sound, idletax_Poorer.sound, vmfleetmake_Round.sound, vmfleetlaw37_claim.sound, trivial⟩ trivial) (by kernel_rfl) vmfleetlaw37_TaxOrders.eq

/-! vmfleet/vmfleetlaw37.TaxSamples -/
noncomputable def vmfleetlaw37_TaxSamples.f (seed : Int) (pages : Int) (n : Int) (old : Int) (used : Int) : Option Bool :=
  bif decide (pages < 1) then
    (vmfleetlaw37_awake.f).bind fun r1 =>
    some r1
  else
    bif decide (pages > 32) then
      (vmfleetlaw37_awake.f).bind fun r2 =>
      some r2
    else
      bif decide (n < 1) then
        (vmfleetlaw37_awake.f).bind fun r3 =>
        some r3
      else
        bif decide (n > 60) then
          (vmfleetlaw37_awake.f).bind fun r4 =>
          some r4
        else
          bif decide (old < 0) then
            (vmfleetlaw37_awake.f).bind fun r5 =>
            some r5
          else
            bif decide (old > 1000) then
              (vmfleetlaw37_awake.f).bind fun r6 =>
              some r6
            else
              (idletax_Sample.f seed pages n).bind fun r7 =>
              (idletax_Sample.f seed pages n).bind fun r8 =>
              bif !decide ((r7.1.length : Int) = (min pages n)) then
                some false
              else
                (vmfleetref1_SameInts.f r7.1 r8.1).bind fun r9 =>
                bif !r9 then
                  some false
                else
                  bif !decide (r7.2 = r8.2) then
                    some false
                  else
                    (loop (Y := (Unit) ⊕ (Bool)) (fun (x1 : Int) =>
                      bif decide (x1 < (r7.1.length : Int)) then
                        if 0 ≤ x1 ∧ x1 < (r7.1.length : Int) then
                          bif decide ((nth (0 : Int) r7.1 x1) < 0) then
                            some (.inr (.inr false))
                          else
                            if 0 ≤ x1 ∧ x1 < (r7.1.length : Int) then
                              bif decide ((nth (0 : Int) r7.1 x1) ≥ pages) then
                                some (.inr (.inr false))
                              else
                                (loop (Y := (Unit) ⊕ ((Int) ⊕ ((Unit) ⊕ (Bool)))) (fun (x2 : Int) =>
                                  bif decide (x2 < x1) then
                                    if 0 ≤ x1 ∧ x1 < (r7.1.length : Int) then
                                      if 0 ≤ x2 ∧ x2 < (r7.1.length : Int) then
                                        bif decide ((nth (0 : Int) r7.1 x1) = (nth (0 : Int) r7.1 x2)) then
                                          some (.inr (.inr (.inr (.inr false))))
                                        else
                                          some (.inl (IntKind.wrap .i64 (x2 + 1)))
                                      else none
                                    else none
                                  else
                                    some (.inr (.inl ()))) (0 : Int)).bind fun o => match o with
                                | .inl y3 =>
                                  some (.inl (IntKind.wrap .i64 (x1 + 1)))
                                | .inr r => some r
                            else none
                        else none
                      else
                        some (.inr (.inl ()))) (0 : Int)).bind fun o => match o with
                    | .inl y4 =>
                      (vmfleetmake_Round.f used (IntKind.wrap .i64 ((r7.1.length : Int) + 1))).bind fun r10 =>
                      (idletax_Estimate.f old r10 (r7.1.length : Int)).bind fun r11 =>
                      if (r7.1.length : Int) = 0 then none else
                      let v2 := IntKind.wrap .i64 (Int.tdiv (IntKind.wrap .i64 (r10 * 1000)) (r7.1.length : Int))
                      bif decide (v2 ≥ old) then
                        bif decide (r11 = v2) then
                          (vmfleetlaw37_awake.f).bind fun r12 =>
                          some r12
                        else
                          some false
                      else
                        bif decide (r11 ≥ v2) then
                          bif decide (r11 < old) then
                            (vmfleetlaw37_awake.f).bind fun r13 =>
                            some r13
                          else
                            some false
                        else
                          some false
                    | .inr r => some r
noncomputable def vmfleetlaw37_TaxSamples.sp : FSpec := ⟨[(.int .u64), (.int .i64), (.int .i64), (.int .i64), (.int .i64)], [.bool], fun x => vmfleetlaw37_TaxSamples.f x.1 x.2.1 x.2.2.1 x.2.2.2.1 x.2.2.2.2⟩
noncomputable def vmfleetlaw37_TaxSamples.env : Env := ⟨TYS, [(12, vmfleetlaw37_awake.sp), (15, idletax_Sample.sp), (25, vmfleetref1_SameInts.sp), (26, idletax_Estimate.sp), (29, vmfleetmake_Round.sp)], [], [(13, ⟨[1, 3, 4, 11, 15], [⟨16, false, (.int .i64)⟩], [], 2⟩), (8, ⟨[1, 3, 4, 11], [⟨15, false, (.int .i64)⟩], [], 0⟩)], [], []⟩
theorem vmfleetlaw37_TaxSamples.eq (x) : fnEval vmfleetlaw37_TaxSamples.env vmfleetlaw37_TaxSamples.sp.args vmfleetlaw37_TaxSamples.sp.res Go.Proofs.Try.f9 x = vmfleetlaw37_TaxSamples.sp.f x := by kernel_rfl
theorem vmfleetlaw37_TaxSamples.sound : Sound Try.prog 9 vmfleetlaw37_TaxSamples.sp := Lift.sound (E := vmfleetlaw37_TaxSamples.env) Try.func9 (by kernel_rfl) (env_ok TYS.ok mixed ⟨vmfleetlaw37_awake.sound, idletax_Sample.sound, vmfleetref1_SameInts.sound, idletax_Estimate.sound, vmfleetmake_Round.sound, trivial⟩ trivial) (by kernel_rfl) vmfleetlaw37_TaxSamples.eq

/-! vmfleet/vmfleetlaw37.TaxGrows -/
noncomputable def vmfleetlaw37_TaxGrows.f (l : List Int) (total : Int) (tax : Int) : Option Bool :=
  bif decide ((l.length : Int) > 8) then
    (vmfleetlaw37_awake.f).bind fun r1 =>
    some r1
  else
    (vmfleetlaw37_claims.f l).bind fun r2 =>
    (vmfleetmake_Round.f total (96 : Int)).bind fun r3 =>
    (vmfleetmake_Round.f tax (100 : Int)).bind fun r4 =>
    (idletax_Targets.f r2 r3 r4).bind fun r5 =>
    (idletax_Targets.f r2 (IntKind.wrap .i64 (r3 + 1)) r4).bind fun r6 =>
    bif !r5.2 then
      bif decide ((r5.1.length : Int) = 0) then
        (vmfleetlaw37_awake.f).bind fun r7 =>
        some r7
      else
        some false
    else
      bif !r6.2 then
        some false
      else
        bif (!decide ((r5.1.length : Int) = (r2.length : Int))) then
          some false
        else
          bif (!decide ((r6.1.length : Int) = (r2.length : Int))) then
            some false
          else
            (loop (Y := (Int × Bool) ⊕ (Bool)) (fun (x1 : Int × Bool × Int) =>
              bif decide (x1.2.2 < (r2.length : Int)) then
                (if 0 ≤ x1.2.2 ∧ x1.2.2 < (r6.1.length : Int) then
                  if 0 ≤ x1.2.2 ∧ x1.2.2 < (r5.1.length : Int) then
                    bif !decide ((nth (0 : Int) r6.1 x1.2.2) = (nth (0 : Int) r5.1 x1.2.2)) then
                      if 0 ≤ x1.2.2 ∧ x1.2.2 < (r6.1.length : Int) then
                        if 0 ≤ x1.2.2 ∧ x1.2.2 < (r5.1.length : Int) then
                          bif (!decide ((nth (0 : Int) r6.1 x1.2.2) = (IntKind.wrap .i64 ((nth (0 : Int) r5.1 x1.2.2) + 1)))) then
                            some (.inr (.inr (.inr false)))
                          else
                            some (.inl ())
                        else none
                      else none
                    else
                      some (.inl ())
                  else none
                else none : Option ((Unit) ⊕ ((Int × Bool × Int) ⊕ ((Int × Bool) ⊕ (Bool))))).bind fun o => match o with
                | .inl y2 =>
                  if 0 ≤ x1.2.2 ∧ x1.2.2 < (r6.1.length : Int) then
                    if 0 ≤ x1.2.2 ∧ x1.2.2 < (r5.1.length : Int) then
                      let v6 := IntKind.wrap .i64 ((IntKind.wrap .i64 (x1.1 + (nth (0 : Int) r6.1 x1.2.2))) - (nth (0 : Int) r5.1 x1.2.2))
                      bif x1.2.1 then
                        some (.inl (v6, true, IntKind.wrap .i64 (x1.2.2 + 1)))
                      else
                        if 0 ≤ x1.2.2 ∧ x1.2.2 < (r5.1.length : Int) then
                          if 0 ≤ x1.2.2 ∧ x1.2.2 < (r2.length : Int) then
                            some (.inl (v6, (decide ((nth (0 : Int) r5.1 x1.2.2) < (((nth ((0 : Int), (0 : Int), (0 : Int), (0 : Int), (0 : Int)) r2 x1.2.2).2).1))), IntKind.wrap .i64 (x1.2.2 + 1)))
                          else none
                        else none
                    else none
                  else none
                | .inr r => some r
              else
                some (.inr (.inl (x1.1, x1.2.1)))) ((0 : Int), false, (0 : Int))).bind fun o => match o with
            | .inl y3 =>
              bif (decide (y3.1 = 1)) == y3.2 then
                bif decide (y3.1 = 0) then
                  (vmfleetlaw37_awake.f).bind fun r8 =>
                  some r8
                else
                  bif decide (y3.1 = 1) then
                    (vmfleetlaw37_awake.f).bind fun r9 =>
                    some r9
                  else
                    some false
              else
                some false
            | .inr r => some r
noncomputable def vmfleetlaw37_TaxGrows.sp : FSpec := ⟨[(.sl (.int .i64)), (.int .i64), (.int .i64)], [.bool], fun x => vmfleetlaw37_TaxGrows.f x.1 x.2.1 x.2.2⟩
noncomputable def vmfleetlaw37_TaxGrows.env : Env := ⟨TYS, [(12, vmfleetlaw37_awake.sp), (17, idletax_Targets.sp), (28, vmfleetlaw37_claims.sp), (29, vmfleetmake_Round.sp)], [], [(14, ⟨[7, 8, 10], [⟨12, false, (.int .i64)⟩, ⟨13, false, .bool⟩, ⟨14, false, (.int .i64)⟩], [⟨12, false, (.int .i64)⟩, ⟨13, false, .bool⟩], 0⟩)], [(18, ⟨[12, 13, 14], [], [], 0⟩)], []⟩
theorem vmfleetlaw37_TaxGrows.eq (x) : fnEval vmfleetlaw37_TaxGrows.env vmfleetlaw37_TaxGrows.sp.args vmfleetlaw37_TaxGrows.sp.res Go.Proofs.Try.f10 x = vmfleetlaw37_TaxGrows.sp.f x := by kernel_rfl
theorem vmfleetlaw37_TaxGrows.sound : Sound Try.prog 10 vmfleetlaw37_TaxGrows.sp := Lift.sound (E := vmfleetlaw37_TaxGrows.env) Try.func10 (by kernel_rfl) (env_ok TYS.ok mixed ⟨vmfleetlaw37_awake.sound, idletax_Targets.sound, vmfleetlaw37_claims.sound, vmfleetmake_Round.sound, trivial⟩ trivial) (by kernel_rfl) vmfleetlaw37_TaxGrows.eq

/-! vmfleet/vmfleetlaw37.TaxBalances -/
noncomputable def vmfleetlaw37_TaxBalances.f (l : List Int) (total : Int) (tax : Int) : Option Bool :=
  bif decide ((l.length : Int) > 8) then
    (vmfleetlaw37_awake.f).bind fun r1 =>
    some r1
  else
    (vmfleetlaw37_claims.f l).bind fun r2 =>
    (vmfleetmake_Round.f tax (100 : Int)).bind fun r3 =>
    (vmfleetmake_Round.f total (97 : Int)).bind fun r4 =>
    (idletax_Targets.f r2 r4 r3).bind fun r5 =>
    bif !r5.2 then
      (vmfleetlaw37_awake.f).bind fun r6 =>
      some r6
    else
      bif !decide ((r5.1.length : Int) = (r2.length : Int)) then
        some false
      else
        (loop (Y := (Unit) ⊕ (Bool)) (fun (x1 : Int) =>
          bif decide (x1 < (r2.length : Int)) then
            (loop (Y := (Unit) ⊕ ((Int) ⊕ ((Unit) ⊕ (Bool)))) (fun (x2 : Int) =>
              bif decide (x2 < (r2.length : Int)) then
                if 0 ≤ x1 ∧ x1 < (r2.length : Int) then
                  if 0 ≤ x2 ∧ x2 < (r2.length : Int) then
                    if 0 ≤ x1 ∧ x1 < (r5.1.length : Int) then
                      if 0 ≤ x2 ∧ x2 < (r5.1.length : Int) then
                        bif !decide (x1 = x2) then
                          if 0 ≤ x1 ∧ x1 < (r5.1.length : Int) then
                            if 0 ≤ x1 ∧ x1 < (r2.length : Int) then
                              bif (decide ((nth (0 : Int) r5.1 x1) > ((nth ((0 : Int), (0 : Int), (0 : Int), (0 : Int), (0 : Int)) r2 x1).1))) then
                                if 0 ≤ x2 ∧ x2 < (r5.1.length : Int) then
                                  if 0 ≤ x2 ∧ x2 < (r2.length : Int) then
                                    bif (decide ((nth (0 : Int) r5.1 x2) < (((nth ((0 : Int), (0 : Int), (0 : Int), (0 : Int), (0 : Int)) r2 x2).2).1))) then
                                      (idletax_Poorer.f ((nth ((0 : Int), (0 : Int), (0 : Int), (0 : Int), (0 : Int)) r2 x1).1, ((nth ((0 : Int), (0 : Int), (0 : Int), (0 : Int), (0 : Int)) r2 x1).2).1, (((nth ((0 : Int), (0 : Int), (0 : Int), (0 : Int), (0 : Int)) r2 x1).2).2).1, nth (0 : Int) r5.1 x1, ((((nth ((0 : Int), (0 : Int), (0 : Int), (0 : Int), (0 : Int)) r2 x1).2).2).2).2) ((nth ((0 : Int), (0 : Int), (0 : Int), (0 : Int), (0 : Int)) r2 x2).1, ((nth ((0 : Int), (0 : Int), (0 : Int), (0 : Int), (0 : Int)) r2 x2).2).1, (((nth ((0 : Int), (0 : Int), (0 : Int), (0 : Int), (0 : Int)) r2 x2).2).2).1, (IntKind.wrap .i64 ((nth (0 : Int) r5.1 x2) + 1)), ((((nth ((0 : Int), (0 : Int), (0 : Int), (0 : Int), (0 : Int)) r2 x2).2).2).2).2) r3).bind fun r7 =>
                                      bif r7 then
                                        some (.inr (.inr (.inr (.inr false))))
                                      else
                                        some (.inl (IntKind.wrap .i64 (x2 + 1)))
                                    else
                                      some (.inl (IntKind.wrap .i64 (x2 + 1)))
                                  else none
                                else none
                              else
                                some (.inl (IntKind.wrap .i64 (x2 + 1)))
                            else none
                          else none
                        else
                          some (.inl (IntKind.wrap .i64 (x2 + 1)))
                      else none
                    else none
                  else none
                else none
              else
                some (.inr (.inl ()))) (0 : Int)).bind fun o => match o with
            | .inl y3 =>
              some (.inl (IntKind.wrap .i64 (x1 + 1)))
            | .inr r => some r
          else
            some (.inr (.inl ()))) (0 : Int)).bind fun o => match o with
        | .inl y4 =>
          (vmfleetlaw37_awake.f).bind fun r8 =>
          some r8
        | .inr r => some r
noncomputable def vmfleetlaw37_TaxBalances.sp : FSpec := ⟨[(.sl (.int .i64)), (.int .i64), (.int .i64)], [.bool], fun x => vmfleetlaw37_TaxBalances.f x.1 x.2.1 x.2.2⟩
noncomputable def vmfleetlaw37_TaxBalances.env : Env := ⟨TYS, [(12, vmfleetlaw37_awake.sp), (17, idletax_Targets.sp), (23, idletax_Poorer.sp), (28, vmfleetlaw37_claims.sp), (29, vmfleetmake_Round.sp)], [], [(14, ⟨[2, 7, 8, 10], [⟨11, false, (.int .i64)⟩], [], 2⟩), (11, ⟨[2, 7, 8], [⟨10, false, (.int .i64)⟩], [], 0⟩)], [], []⟩
theorem vmfleetlaw37_TaxBalances.eq (x) : fnEval vmfleetlaw37_TaxBalances.env vmfleetlaw37_TaxBalances.sp.args vmfleetlaw37_TaxBalances.sp.res Go.Proofs.Try.f11 x = vmfleetlaw37_TaxBalances.sp.f x := by kernel_rfl
theorem vmfleetlaw37_TaxBalances.sound : Sound Try.prog 11 vmfleetlaw37_TaxBalances.sp := Lift.sound (E := vmfleetlaw37_TaxBalances.env) Try.func11 (by kernel_rfl) (env_ok TYS.ok mixed ⟨vmfleetlaw37_awake.sound, idletax_Targets.sound, idletax_Poorer.sound, vmfleetlaw37_claims.sound, vmfleetmake_Round.sound, trivial⟩ trivial) (by kernel_rfl) vmfleetlaw37_TaxBalances.eq

noncomputable def idletax_Victim.g (fuel_ : Nat) (l : List (Int × Int × Int × Int × Int)) (tax : Int) : Option (Int × Bool) :=
  (idletax_taxable.f tax).bind fun r1 =>
  bif !r1 then
    some ((0 : Int), false)
  else
    (loopF fuel_ (Y := (Int) ⊕ (Int × Bool)) (fun (x1 : Int × Int) =>
      bif decide (x1.2 < (l.length : Int)) then
        if 0 ≤ x1.2 ∧ x1.2 < (l.length : Int) then
          (idletax_Valid.f ((nth ((0 : Int), (0 : Int), (0 : Int), (0 : Int), (0 : Int)) l x1.2).1, ((nth ((0 : Int), (0 : Int), (0 : Int), (0 : Int), (0 : Int)) l x1.2).2).1, (((nth ((0 : Int), (0 : Int), (0 : Int), (0 : Int), (0 : Int)) l x1.2).2).2).1, ((((nth ((0 : Int), (0 : Int), (0 : Int), (0 : Int), (0 : Int)) l x1.2).2).2).2))).bind fun r2 =>
          bif r2 then
            bif (decide ((((((nth ((0 : Int), (0 : Int), (0 : Int), (0 : Int), (0 : Int)) l x1.2).2).2).2).1) > ((nth ((0 : Int), (0 : Int), (0 : Int), (0 : Int), (0 : Int)) l x1.2).1))) then
              bif decide (x1.1 < 0) then
                some (.inl (x1.2, IntKind.wrap .i64 (x1.2 + 1)))
              else
                if 0 ≤ x1.1 ∧ x1.1 < (l.length : Int) then
                  (idletax_Poorer.f ((nth ((0 : Int), (0 : Int), (0 : Int), (0 : Int), (0 : Int)) l x1.2).1, ((nth ((0 : Int), (0 : Int), (0 : Int), (0 : Int), (0 : Int)) l x1.2).2).1, (((nth ((0 : Int), (0 : Int), (0 : Int), (0 : Int), (0 : Int)) l x1.2).2).2).1, ((((nth ((0 : Int), (0 : Int), (0 : Int), (0 : Int), (0 : Int)) l x1.2).2).2).2)) ((nth ((0 : Int), (0 : Int), (0 : Int), (0 : Int), (0 : Int)) l x1.1).1, ((nth ((0 : Int), (0 : Int), (0 : Int), (0 : Int), (0 : Int)) l x1.1).2).1, (((nth ((0 : Int), (0 : Int), (0 : Int), (0 : Int), (0 : Int)) l x1.1).2).2).1, ((((nth ((0 : Int), (0 : Int), (0 : Int), (0 : Int), (0 : Int)) l x1.1).2).2).2)) tax).bind fun r3 =>
                  bif r3 then
                    some (.inl (x1.2, IntKind.wrap .i64 (x1.2 + 1)))
                  else
                    some (.inl (x1.1, IntKind.wrap .i64 (x1.2 + 1)))
                else none
            else
              some (.inl (x1.1, IntKind.wrap .i64 (x1.2 + 1)))
          else
            some (.inl (x1.1, IntKind.wrap .i64 (x1.2 + 1)))
        else none
      else
        some (.inr (.inl x1.1))) ((-1 : Int), (0 : Int))).bind fun o => match o with
    | .inl y2 =>
      bif decide (y2 < 0) then
        some ((0 : Int), false)
      else
        some (y2, true)
    | .inr r => some r
theorem idletax_Victim.mono (fuel_ : Nat) (l : List (Int × Int × Int × Int × Int)) (tax : Int) : Le (idletax_Victim.g fuel_ l tax) (idletax_Victim.f l tax) := by
  unfold idletax_Victim.g idletax_Victim.f
  repeat' (first | with_reducible exact Le.refl _ | with_reducible refine Le.bind ?_ ?_ | with_reducible refine Le.cond ?_ ?_ | with_reducible refine Le.ite ?_ ?_ | with_reducible refine Le.both ?_ ?_ | with_reducible refine Le.loop ?_ _ | (intro o; rcases o with y | r <;> try dsimp only) | (intro _; show Le _ _) | dsimp only)
noncomputable def idletax_Targets.g (fuel_ : Nat) (l : List (Int × Int × Int × Int × Int)) (total : Int) (tax : Int) : Option (List Int × Bool) :=
  bif decide ((l.length : Int) > 8) then
    some ([], false)
  else
    bif decide (total < 0) then
      some ([], false)
    else
      bif decide (total > 96) then
        some ([], false)
      else
        (idletax_taxable.f tax).bind fun r1 =>
        bif !r1 then
          some ([], false)
        else
          (loopF fuel_ (Y := (List Int × Int) ⊕ (List Int × Bool)) (fun (x1 : List Int × Int × Int) =>
            bif decide (x1.2.2 < (l.length : Int)) then
              if 0 ≤ x1.2.2 ∧ x1.2.2 < (l.length : Int) then
                (idletax_Valid.f ((nth ((0 : Int), (0 : Int), (0 : Int), (0 : Int), (0 : Int)) l x1.2.2).1, ((nth ((0 : Int), (0 : Int), (0 : Int), (0 : Int), (0 : Int)) l x1.2.2).2).1, (((nth ((0 : Int), (0 : Int), (0 : Int), (0 : Int), (0 : Int)) l x1.2.2).2).2).1, ((((nth ((0 : Int), (0 : Int), (0 : Int), (0 : Int), (0 : Int)) l x1.2.2).2).2).2))).bind fun r2 =>
                bif !r2 then
                  some (.inr (.inr ([], false)))
                else
                  if (x1.1.length + ([(nth ((0 : Int), (0 : Int), (0 : Int), (0 : Int), (0 : Int)) l x1.2.2).1] : List Int).length) * 8 ≤ 70368744177664 then
                    some (.inl ((x1.1 ++ ([(nth ((0 : Int), (0 : Int), (0 : Int), (0 : Int), (0 : Int)) l x1.2.2).1] : List Int)), (IntKind.wrap .i64 (x1.2.1 - ((nth ((0 : Int), (0 : Int), (0 : Int), (0 : Int), (0 : Int)) l x1.2.2).1))), IntKind.wrap .i64 (x1.2.2 + 1)))
                  else none
              else none
            else
              some (.inr (.inl (x1.1, x1.2.1)))) ([], total, (0 : Int))).bind fun o => match o with
          | .inl y2 =>
            bif decide (y2.2 < 0) then
              some ([], false)
            else
              (loopF fuel_ (Y := (List Int) ⊕ (List Int × Bool)) (fun (x3 : List Int × Int) =>
                bif decide (x3.2 > 0) then
                  (loopF fuel_ (Y := (Int) ⊕ ((List Int × Int) ⊕ ((List Int) ⊕ (List Int × Bool)))) (fun (x4 : Int × (Int × Int × Int × Int × Int) × Int) =>
                    bif decide (x4.2.2 < (l.length : Int)) then
                      if 0 ≤ x4.2.2 ∧ x4.2.2 < (l.length : Int) then
                        if 0 ≤ x4.2.2 ∧ x4.2.2 < (x3.1.length : Int) then
                          let v3 := IntKind.wrap .i64 ((nth (0 : Int) x3.1 x4.2.2) + 1)
                          if 0 ≤ x4.2.2 ∧ x4.2.2 < (x3.1.length : Int) then
                            bif decide ((nth (0 : Int) x3.1 x4.2.2) < (((nth ((0 : Int), (0 : Int), (0 : Int), (0 : Int), (0 : Int)) l x4.2.2).2).1)) then
                              bif decide (x4.1 < 0) then
                                some (.inl (x4.2.2, ((nth ((0 : Int), (0 : Int), (0 : Int), (0 : Int), (0 : Int)) l x4.2.2).1, ((nth ((0 : Int), (0 : Int), (0 : Int), (0 : Int), (0 : Int)) l x4.2.2).2).1, (((nth ((0 : Int), (0 : Int), (0 : Int), (0 : Int), (0 : Int)) l x4.2.2).2).2).1, v3, ((((nth ((0 : Int), (0 : Int), (0 : Int), (0 : Int), (0 : Int)) l x4.2.2).2).2).2).2), IntKind.wrap .i64 (x4.2.2 + 1)))
                              else
                                (idletax_Poorer.f x4.2.1 ((nth ((0 : Int), (0 : Int), (0 : Int), (0 : Int), (0 : Int)) l x4.2.2).1, ((nth ((0 : Int), (0 : Int), (0 : Int), (0 : Int), (0 : Int)) l x4.2.2).2).1, (((nth ((0 : Int), (0 : Int), (0 : Int), (0 : Int), (0 : Int)) l x4.2.2).2).2).1, v3, ((((nth ((0 : Int), (0 : Int), (0 : Int), (0 : Int), (0 : Int)) l x4.2.2).2).2).2).2) tax).bind fun r3 =>
                                bif r3 then
                                  some (.inl (x4.2.2, ((nth ((0 : Int), (0 : Int), (0 : Int), (0 : Int), (0 : Int)) l x4.2.2).1, ((nth ((0 : Int), (0 : Int), (0 : Int), (0 : Int), (0 : Int)) l x4.2.2).2).1, (((nth ((0 : Int), (0 : Int), (0 : Int), (0 : Int), (0 : Int)) l x4.2.2).2).2).1, v3, ((((nth ((0 : Int), (0 : Int), (0 : Int), (0 : Int), (0 : Int)) l x4.2.2).2).2).2).2), IntKind.wrap .i64 (x4.2.2 + 1)))
                                else
                                  some (.inl (x4.1, x4.2.1, IntKind.wrap .i64 (x4.2.2 + 1)))
                            else
                              some (.inl (x4.1, x4.2.1, IntKind.wrap .i64 (x4.2.2 + 1)))
                          else none
                        else none
                      else none
                    else
                      some (.inr (.inl x4.1))) ((-1 : Int), ((0 : Int), (0 : Int), (0 : Int), (0 : Int), (0 : Int)), (0 : Int))).bind fun o => match o with
                  | .inl y5 =>
                    bif decide (y5 < 0) then
                      some (.inr (.inl x3.1))
                    else
                      if 0 ≤ y5 ∧ y5 < (x3.1.length : Int) then
                        if 0 ≤ y5 ∧ y5 < (x3.1.length : Int) then
                          some (.inl (put x3.1 y5 (IntKind.wrap .i64 ((nth (0 : Int) x3.1 y5) + 1)), IntKind.wrap .i64 (x3.2 - 1)))
                        else none
                      else none
                  | .inr r => some r
                else
                  some (.inr (.inl x3.1))) y2).bind fun o => match o with
              | .inl y6 =>
                some (y6, true)
              | .inr r => some r
          | .inr r => some r
theorem idletax_Targets.mono (fuel_ : Nat) (l : List (Int × Int × Int × Int × Int)) (total : Int) (tax : Int) : Le (idletax_Targets.g fuel_ l total tax) (idletax_Targets.f l total tax) := by
  unfold idletax_Targets.g idletax_Targets.f
  repeat' (first | with_reducible exact Le.refl _ | with_reducible refine Le.bind ?_ ?_ | with_reducible refine Le.cond ?_ ?_ | with_reducible refine Le.ite ?_ ?_ | with_reducible refine Le.both ?_ ?_ | with_reducible refine Le.loop ?_ _ | (intro o; rcases o with y | r <;> try dsimp only) | (intro _; show Le _ _) | dsimp only)
noncomputable def slices_Index_int_int.g (fuel_ : Nat) (s : List Int) (v : Int) : Option Int :=
  (loopF fuel_ (Y := (Unit) ⊕ (Int)) (fun (x1 : Int) =>
    bif decide (x1 < (s.length : Int)) then
      if 0 ≤ x1 ∧ x1 < (s.length : Int) then
        bif decide (v = (nth (0 : Int) s x1)) then
          some (.inr (.inr x1))
        else
          some (.inl (IntKind.wrap .i64 (x1 + 1)))
      else none
    else
      some (.inr (.inl ()))) (0 : Int)).bind fun o => match o with
  | .inl y2 =>
    some (-1 : Int)
  | .inr r => some r
theorem slices_Index_int_int.mono (fuel_ : Nat) (s : List Int) (v : Int) : Le (slices_Index_int_int.g fuel_ s v) (slices_Index_int_int.f s v) := by
  unfold slices_Index_int_int.g slices_Index_int_int.f
  repeat' (first | with_reducible exact Le.refl _ | with_reducible refine Le.bind ?_ ?_ | with_reducible refine Le.cond ?_ ?_ | with_reducible refine Le.ite ?_ ?_ | with_reducible refine Le.both ?_ ?_ | with_reducible refine Le.loop ?_ _ | (intro o; rcases o with y | r <;> try dsimp only) | (intro _; show Le _ _) | dsimp only)
noncomputable def slices_Contains_int_int.g (fuel_ : Nat) (s : List Int) (v : Int) : Option Bool :=
  (slices_Index_int_int.g fuel_ s v).bind fun r1 =>
  some (decide (r1 ≥ 0))
theorem slices_Contains_int_int.mono (fuel_ : Nat) (s : List Int) (v : Int) : Le (slices_Contains_int_int.g fuel_ s v) (slices_Contains_int_int.f s v) := by
  unfold slices_Contains_int_int.g slices_Contains_int_int.f
  repeat' (first | with_reducible exact Le.refl _ | with_reducible exact slices_Index_int_int.mono _ _ _ | with_reducible refine Le.bind ?_ ?_ | with_reducible refine Le.cond ?_ ?_ | with_reducible refine Le.ite ?_ ?_ | with_reducible refine Le.both ?_ ?_ | with_reducible refine Le.loop ?_ _ | (intro o; rcases o with y | r <;> try dsimp only) | (intro _; show Le _ _) | dsimp only)
noncomputable def idletax_Sample.g (fuel_ : Nat) (seed : Int) (pages : Int) (n : Int) : Option (List Int × Int) :=
  bif decide (pages < 1) then
    some ([], seed)
  else
    bif decide (pages > 32) then
      some ([], seed)
    else
      bif decide (n < 1) then
        some ([], seed)
      else
        (loopF fuel_ (Y := (Int × List Int) ⊕ (List Int × Int)) (fun (x1 : Int × List Int × Int) =>
          bif decide (x1.2.2 < (min n pages)) then
            (bits_Next.f x1.1).bind fun r1 =>
            if (IntKind.wrap .u64 pages) = 0 then none else
            (loopF fuel_ (Y := (Int) ⊕ ((Int × List Int × Int) ⊕ ((Int × List Int) ⊕ (List Int × Int)))) (fun (x2 : Int) =>
              (slices_Contains_int_int.g fuel_ x1.2.1 x2).bind fun r2 =>
              bif r2 then
                if pages = 0 then none else
                some (.inl (Int.tmod (IntKind.wrap .i64 (x2 + 1)) pages))
              else
                some (.inr (.inl x2))) (IntKind.wrap .i64 (Int.tmod r1.1 (IntKind.wrap .u64 pages)))).bind fun o => match o with
            | .inl y3 =>
              if (x1.2.1.length + ([y3] : List Int).length) * 8 ≤ 70368744177664 then
                some (.inl (r1.2, x1.2.1 ++ ([y3] : List Int), IntKind.wrap .i64 (x1.2.2 + 1)))
              else none
            | .inr r => some r
          else
            some (.inr (.inl (x1.1, x1.2.1)))) (seed, [], (0 : Int))).bind fun o => match o with
        | .inl y4 =>
          some (y4.2, y4.1)
        | .inr r => some r
theorem idletax_Sample.mono (fuel_ : Nat) (seed : Int) (pages : Int) (n : Int) : Le (idletax_Sample.g fuel_ seed pages n) (idletax_Sample.f seed pages n) := by
  unfold idletax_Sample.g idletax_Sample.f
  repeat' (first | with_reducible exact Le.refl _ | with_reducible exact slices_Contains_int_int.mono _ _ _ | with_reducible refine Le.bind ?_ ?_ | with_reducible refine Le.cond ?_ ?_ | with_reducible refine Le.ite ?_ ?_ | with_reducible refine Le.both ?_ ?_ | with_reducible refine Le.loop ?_ _ | (intro o; rcases o with y | r <;> try dsimp only) | (intro _; show Le _ _) | dsimp only)
noncomputable def vmfleetref1_SameInts.g (fuel_ : Nat) (a : List Int) (b : List Int) : Option Bool :=
  bif !decide ((a.length : Int) = (b.length : Int)) then
    some false
  else
    (loopF fuel_ (Y := (Unit) ⊕ (Bool)) (fun (x1 : Int) =>
      bif decide (x1 < (a.length : Int)) then
        if 0 ≤ x1 ∧ x1 < (a.length : Int) then
          if 0 ≤ x1 ∧ x1 < (b.length : Int) then
            bif !decide ((nth (0 : Int) a x1) = (nth (0 : Int) b x1)) then
              some (.inr (.inr false))
            else
              some (.inl (IntKind.wrap .i64 (x1 + 1)))
          else none
        else none
      else
        some (.inr (.inl ()))) (0 : Int)).bind fun o => match o with
    | .inl y2 =>
      some true
    | .inr r => some r
theorem vmfleetref1_SameInts.mono (fuel_ : Nat) (a : List Int) (b : List Int) : Le (vmfleetref1_SameInts.g fuel_ a b) (vmfleetref1_SameInts.f a b) := by
  unfold vmfleetref1_SameInts.g vmfleetref1_SameInts.f
  repeat' (first | with_reducible exact Le.refl _ | with_reducible refine Le.bind ?_ ?_ | with_reducible refine Le.cond ?_ ?_ | with_reducible refine Le.ite ?_ ?_ | with_reducible refine Le.both ?_ ?_ | with_reducible refine Le.loop ?_ _ | (intro o; rcases o with y | r <;> try dsimp only) | (intro _; show Le _ _) | dsimp only)
noncomputable def vmfleetlaw37_awake.g (fuel_ : Nat)  : Option Bool :=
  (idletax_Victim.g fuel_ ([((1 : Int), (20 : Int), (100 : Int), (10 : Int), (1000 : Int)), ((1 : Int), (20 : Int), (100 : Int), (10 : Int), (0 : Int))] : List (Int × Int × Int × Int × Int)) (75 : Int)).bind fun r1 =>
  (idletax_Targets.g fuel_ ([((1 : Int), (20 : Int), (100 : Int), (10 : Int), (1000 : Int)), ((1 : Int), (20 : Int), (100 : Int), (10 : Int), (0 : Int))] : List (Int × Int × Int × Int × Int)) (10 : Int) (0 : Int)).bind fun r2 =>
  (idletax_Sample.g fuel_ (1 : Int) (5 : Int) (9 : Int)).bind fun r3 =>
  bif r1.2 then
    bif decide (r1.1 = 1) then
      bif r2.2 then
        (vmfleetref1_SameInts.g fuel_ r2.1 ([(5 : Int), (5 : Int)] : List Int)).bind fun r4 =>
        bif r4 then
          bif decide ((r3.1.length : Int) = 5) then
            (idletax_Estimate.f (100 : Int) (1 : Int) (2 : Int)).bind fun r5 =>
            bif decide (r5 = 500) then
              (idletax_Estimate.f (500 : Int) (0 : Int) (2 : Int)).bind fun r6 =>
              some (decide (r6 = 375))
            else
              some false
          else
            some false
        else
          some false
      else
        some false
    else
      some false
  else
    some false
theorem vmfleetlaw37_awake.mono (fuel_ : Nat)  : Le (vmfleetlaw37_awake.g fuel_) (vmfleetlaw37_awake.f) := by
  unfold vmfleetlaw37_awake.g vmfleetlaw37_awake.f
  repeat' (first | with_reducible exact Le.refl _ | with_reducible exact idletax_Victim.mono _ _ _ | with_reducible exact idletax_Sample.mono _ _ _ _ | with_reducible exact idletax_Targets.mono _ _ _ _ | with_reducible exact vmfleetref1_SameInts.mono _ _ _ | with_reducible refine Le.bind ?_ ?_ | with_reducible refine Le.cond ?_ ?_ | with_reducible refine Le.ite ?_ ?_ | with_reducible refine Le.both ?_ ?_ | with_reducible refine Le.loop ?_ _ | (intro o; rcases o with y | r <;> try dsimp only) | (intro _; show Le _ _) | dsimp only)
theorem vmfleetlaw37_awake.ok : vmfleetlaw37_awake.f = some true := vmfleetlaw37_awake.mono 5000 true (by kernel_rfl)
end Go.Proofs.Ytdpldckcbdeojaa.Fn
