/- The functions that the laws of this seat reach, each as a plain Lean function, with the proof that the loaded code computes it. -/
import Derived.Test.YtapngmfecjhlfaaLLaw
import Derived.Test.YtapngmfecjhlfaaLPure
import Derived.Test.YtapngmfecjhlfaaProg
import Derived.Test.YtapngmfecjhlfaaChecked
set_option maxRecDepth 100000
set_option linter.unusedVariables false
namespace Go.Proofs.Ytapngmfecjhlfaa.Fn
open Go Lift
def TYS : List (Nat × TI) := [(3, ⟨(.int .i64), 0⟩), (4, ⟨.bool, 0⟩), (5, ⟨(.int .u8), 0⟩), (9, ⟨.str, 0⟩), (22, ⟨(.sl (.int .i64)), 8⟩), (24, ⟨(.sl (.int .u32)), 4⟩), (27, ⟨(.int .u32), 0⟩), (29, ⟨(.st (.pair (.int .u32) (.int .u32))), 0⟩), (30, ⟨(.sl .bool), 1⟩), (32, ⟨(.int .u64), 0⟩), (38, ⟨(.sl (.int .u8)), 1⟩), (47, ⟨(.sl (.int .u64)), 8⟩), (48, ⟨(.sl (.st (.pair (.int .i64) (.pair (.int .u64) (.pair (.int .u32) .str))))), 40⟩), (50, ⟨(.int .u64), 0⟩), (52, ⟨(.st (.pair (.sl (.st (.pair (.int .i64) (.pair (.int .u64) (.pair (.int .u32) .str))))) (.pair (.int .u64) (.int .u64)))), 0⟩), (56, ⟨(.st (.pair (.int .i64) (.pair (.int .u64) (.pair (.int .u32) .str)))), 0⟩), (57, ⟨(.sl (.st (.pair (.st (.pair (.int .i64) (.pair (.int .u64) (.pair (.int .u32) .str)))) (.int .u64)))), 48⟩), (64, ⟨(.sl .str), 16⟩), (66, ⟨(.st (.pair .str (.sl .str))), 0⟩), (70, ⟨(.st (.pair (.st (.pair (.int .i64) (.pair (.int .u64) (.pair (.int .u32) .str)))) (.int .u64))), 0⟩)]
theorem TYS.ok : tysB Try.prog TYS = true := by kernel_rfl
theorem mixed : Try.prog.follows .mixedOrders = true := Checked.mixed Try.checked

/-! vmfleet/vmfleetref1.New -/
noncomputable def vmfleetref1_New.f (pages : Int) : Option (List Int) :=
  bif decide (pages < 1) then
    some []
  else
    bif decide (pages > 32) then
      some []
    else
      if 0 ≤ (IntKind.wrap .i64 (pages * 32)) ∧ (IntKind.wrap .i64 (pages * 32)) ≤ (IntKind.wrap .i64 (pages * 32)) ∧ (IntKind.wrap .i64 (pages * 32)) * ((4 : Nat) : Int) ≤ 70368744177664 then
        some (List.replicate ((IntKind.wrap .i64 (pages * 32)).toNat) (0 : Int))
      else none
noncomputable def vmfleetref1_New.sp : FSpec := ⟨[(.int .i64)], [(.own (.int .u32))], fun x => vmfleetref1_New.f x⟩
noncomputable def vmfleetref1_New.env : Env := ⟨TYS, [], [], [], [], []⟩
theorem vmfleetref1_New.eq (x) : fnEval vmfleetref1_New.env vmfleetref1_New.sp.args vmfleetref1_New.sp.res Go.Proofs.Try.f46 x = vmfleetref1_New.sp.f x := by kernel_rfl
theorem vmfleetref1_New.sound : Sound Try.prog 46 vmfleetref1_New.sp := Lift.sound (E := vmfleetref1_New.env) Try.func46 (by kernel_rfl) (env_ok TYS.ok mixed trivial trivial) (by kernel_rfl) vmfleetref1_New.eq

/-! slices.Clone[[]uint32,uint32] -/
noncomputable def slices_Clone_uint32_uint32.f (s : List Int) : Option (List Int) :=
  bif s.isEmpty then
    both
      (some [])
      (if (([] : List Int).length + s.length) * 4 ≤ 70368744177664 then
        some (([] : List Int) ++ s)
      else none)
  else
    if (([] : List Int).length + s.length) * 4 ≤ 70368744177664 then
      some (([] : List Int) ++ s)
    else none
noncomputable def slices_Clone_uint32_uint32.sp : FSpec := ⟨[(.sl (.int .u32))], [(.own (.int .u32))], fun x => slices_Clone_uint32_uint32.f x⟩
noncomputable def slices_Clone_uint32_uint32.env : Env := ⟨TYS, [], [], [], [], []⟩
theorem slices_Clone_uint32_uint32.eq (x) : fnEval slices_Clone_uint32_uint32.env slices_Clone_uint32_uint32.sp.args slices_Clone_uint32_uint32.sp.res Go.Proofs.Try.f48 x = slices_Clone_uint32_uint32.sp.f x := by kernel_rfl
theorem slices_Clone_uint32_uint32.sound : Sound Try.prog 48 slices_Clone_uint32_uint32.sp := Lift.sound (E := slices_Clone_uint32_uint32.env) Try.func48 (by kernel_rfl) (env_ok TYS.ok mixed trivial trivial) (by kernel_rfl) slices_Clone_uint32_uint32.eq

/-! vmfleet/memory.clone -/
noncomputable def memory_clone.f (m : List Int) : Option (List Int) :=
  bif decide ((m.length : Int) = 0) then
    some []
  else
    if 0 ≤ (m.length : Int) ∧ (m.length : Int) ≤ (m.length : Int) ∧ (m.length : Int) * ((4 : Nat) : Int) ≤ 70368744177664 then
      some (m.take (List.replicate ((m.length : Int).toNat) (0 : Int)).length ++ (List.replicate ((m.length : Int).toNat) (0 : Int)).drop m.length)
    else none
noncomputable def memory_clone.sp : FSpec := ⟨[(.sl (.int .u32))], [(.own (.int .u32))], fun x => memory_clone.f x⟩
noncomputable def memory_clone.env : Env := ⟨TYS, [], [], [], [], []⟩
theorem memory_clone.eq (x) : fnEval memory_clone.env memory_clone.sp.args memory_clone.sp.res Go.Proofs.Try.f68 x = memory_clone.sp.f x := by kernel_rfl
theorem memory_clone.sound : Sound Try.prog 68 memory_clone.sp := Lift.sound (E := memory_clone.env) Try.func68 (by kernel_rfl) (env_ok TYS.ok mixed trivial trivial) (by kernel_rfl) memory_clone.eq

/-! vmfleet/memory.Pages -/
noncomputable def memory_Pages.f (m : List Int) : Option Int :=
  bif !decide ((Int.tmod (m.length : Int) (32 : Int)) = 0) then
    some (0 : Int)
  else
    bif decide ((m.length : Int) > 1024) then
      some (0 : Int)
    else
      some (IntKind.wrap .i64 (Int.tdiv (m.length : Int) (32 : Int)))
noncomputable def memory_Pages.sp : FSpec := ⟨[(.sl (.int .u32))], [(.int .i64)], fun x => memory_Pages.f x⟩
noncomputable def memory_Pages.env : Env := ⟨TYS, [], [], [], [], []⟩
theorem memory_Pages.eq (x) : fnEval memory_Pages.env memory_Pages.sp.args memory_Pages.sp.res Go.Proofs.Try.f75 x = memory_Pages.sp.f x := by kernel_rfl
theorem memory_Pages.sound : Sound Try.prog 75 memory_Pages.sp := Lift.sound (E := memory_Pages.env) Try.func75 (by kernel_rfl) (env_ok TYS.ok mixed trivial trivial) (by kernel_rfl) memory_Pages.eq

/-! vmfleet/memory.has -/
noncomputable def memory_has.f (m : List Int) (frame : Int) : Option Bool :=
  bif decide (frame ≥ 0) then
    (memory_Pages.f m).bind fun r1 =>
    some (decide (frame < r1))
  else
    some false
noncomputable def memory_has.sp : FSpec := ⟨[(.sl (.int .u32)), (.int .i64)], [.bool], fun x => memory_has.f x.1 x.2⟩
noncomputable def memory_has.env : Env := ⟨TYS, [(75, memory_Pages.sp)], [], [], [], []⟩
theorem memory_has.eq (x) : fnEval memory_has.env memory_has.sp.args memory_has.sp.res Go.Proofs.Try.f69 x = memory_has.sp.f x := by kernel_rfl
theorem memory_has.sound : Sound Try.prog 69 memory_has.sp := Lift.sound (E := memory_has.env) Try.func69 (by kernel_rfl) (env_ok TYS.ok mixed ⟨memory_Pages.sound, trivial⟩ trivial) (by kernel_rfl) memory_has.eq

/-! vmfleet/memory.SetPage -/
noncomputable def memory_SetPage.f (m : List Int) (frame : Int) (s : ByteArray) : Option (List Int × Bool) :=
  (memory_clone.f m).bind fun r1 =>
  (memory_has.f m frame).bind fun r2 =>
  bif !r2 then
    some (r1, false)
  else
    bif !decide ((s.size : Int) = 128) then
      some (r1, false)
    else
      (loop (Y := (List Int) ⊕ (List Int × Bool)) (fun (x1 : List Int × Int) =>
        bif decide (x1.2 < 32) then
          let v1 := IntKind.wrap .i64 ((IntKind.wrap .i64 (frame * 32)) + x1.2)
          if 0 ≤ (IntKind.wrap .i64 (4 * x1.2)) ∧ (IntKind.wrap .i64 (4 * x1.2)) < (s.size : Int) then
            let v3 := IntKind.wrap .i64 ((IntKind.wrap .i64 (4 * x1.2)) + 1)
            if 0 ≤ v3 ∧ v3 < (s.size : Int) then
              let v5 := IntKind.wrap .i64 ((IntKind.wrap .i64 (4 * x1.2)) + 2)
              if 0 ≤ v5 ∧ v5 < (s.size : Int) then
                let v7 := IntKind.wrap .i64 ((IntKind.wrap .i64 (4 * x1.2)) + 3)
                if 0 ≤ v7 ∧ v7 < (s.size : Int) then
                  if 0 ≤ v1 ∧ v1 < (x1.1.length : Int) then
                    some (.inl (put x1.1 v1 (orI .u32 (orI .u32 (orI .u32 (IntKind.wrap .u32 (bt s (IntKind.wrap .i64 (4 * x1.2)))) (shlI .u32 (IntKind.wrap .u32 (bt s v3)) (8 : Int))) (shlI .u32 (IntKind.wrap .u32 (bt s v5)) (16 : Int))) (shlI .u32 (IntKind.wrap .u32 (bt s v7)) (24 : Int))), IntKind.wrap .i64 (x1.2 + 1)))
                  else none
                else none
              else none
            else none
          else none
        else
          some (.inr (.inl x1.1))) (r1, (0 : Int))).bind fun o => match o with
      | .inl y2 =>
        some (y2, true)
      | .inr r => some r
noncomputable def memory_SetPage.sp : FSpec := ⟨[(.sl (.int .u32)), (.int .i64), .str], [(.own (.int .u32)), .bool], fun x => memory_SetPage.f x.1 x.2.1 x.2.2⟩
noncomputable def memory_SetPage.env : Env := ⟨TYS, [(68, memory_clone.sp), (69, memory_has.sp)], [], [(5, ⟨[1, 2, 6, 7], [⟨8, false, (.own (.int .u32))⟩, ⟨22, false, (.int .i64)⟩], [⟨8, false, (.own (.int .u32))⟩], 0, none⟩)], [], []⟩
theorem memory_SetPage.eq (x) : fnEval memory_SetPage.env memory_SetPage.sp.args memory_SetPage.sp.res Go.Proofs.Try.f49 x = memory_SetPage.sp.f x := by kernel_rfl
theorem memory_SetPage.sound : Sound Try.prog 49 memory_SetPage.sp := Lift.sound (E := memory_SetPage.env) Try.func49 (by kernel_rfl) (env_ok TYS.ok mixed ⟨memory_clone.sound, memory_has.sound, trivial⟩ trivial) (by kernel_rfl) memory_SetPage.eq

/-! vmfleet/balloon.Out -/
noncomputable def balloon_Out.f (b : Int × Int) (m : List Int) (port : Int) (v : Int) : Option ((Int × Int) × List Int) :=
  (slices_Clone_uint32_uint32.f m).bind fun r1 =>
  bif decide (v ≥ 32) then
    some (b, r1)
  else
    if 0 ≤ v then
      bif decide (port = 10) then
        (memory_SetPage.f m (IntKind.wrap .i64 v) (strOf (List.replicate 128 (0 : Int)))).bind fun r2 =>
        (bif r2.2 then
          some (.inl (decide ((andI .u32 b.2 (shlI .u32 (1 : Int) v)) = 0)))
        else
          some (.inl false) : Option ((Bool) ⊕ ((Int × Int) × List Int))).bind fun o => match o with
        | .inl y1 =>
          bif y1 then
            some ((b.1, orI .u32 b.2 (shlI .u32 (1 : Int) v)), r2.1)
          else
            some (b, r1)
        | .inr r => some r
      else
        bif decide (port = 11) then
          some ((b.1, andNotI .u32 b.2 (shlI .u32 (1 : Int) v)), r1)
        else
          some (b, r1)
    else none
noncomputable def balloon_Out.sp : FSpec := ⟨[(.st (.pair (.int .u32) (.int .u32))), (.sl (.int .u32)), (.int .i64), (.int .u32)], [(.st (.pair (.int .u32) (.int .u32))), (.own (.int .u32))], fun x => balloon_Out.f x.1 x.2.1 x.2.2.1 x.2.2.2⟩
noncomputable def balloon_Out.env : Env := ⟨TYS, [(48, slices_Clone_uint32_uint32.sp), (49, memory_SetPage.sp)], [], [], [(9, ⟨[4, 8, 9, 10, 11, 12], [], [⟨41, false, .bool⟩], 0, none⟩)], []⟩
theorem balloon_Out.eq (x) : fnEval balloon_Out.env balloon_Out.sp.args balloon_Out.sp.res Go.Proofs.Try.f18 x = balloon_Out.sp.f x := by kernel_rfl
theorem balloon_Out.sound : Sound Try.prog 18 balloon_Out.sp := Lift.sound (E := balloon_Out.env) Try.func18 (by kernel_rfl) (env_ok TYS.ok mixed ⟨slices_Clone_uint32_uint32.sound, memory_SetPage.sound, trivial⟩ trivial) (by kernel_rfl) balloon_Out.eq

/-! math/bits.OnesCount32 -/
noncomputable def math_bits_OnesCount32.f (x : Int) : Option Int :=
  if 0 ≤ (shrI .u32 x (24 : Int)) ∧ (shrI .u32 x (24 : Int)) < ((⟨#[0, 1, 1, 2, 1, 2, 2, 3, 1, 2, 2, 3, 2, 3, 3, 4, 1, 2, 2, 3, 2, 3, 3, 4, 2, 3, 3, 4, 3, 4, 4, 5, 1, 2, 2, 3, 2, 3, 3, 4, 2, 3, 3, 4, 3, 4, 4, 5, 2, 3, 3, 4, 3, 4, 4, 5, 3, 4, 4, 5, 4, 5, 5, 6, 1, 2, 2, 3, 2, 3, 3, 4, 2, 3, 3, 4, 3, 4, 4, 5, 2, 3, 3, 4, 3, 4, 4, 5, 3, 4, 4, 5, 4, 5, 5, 6, 2, 3, 3, 4, 3, 4, 4, 5, 3, 4, 4, 5, 4, 5, 5, 6, 3, 4, 4, 5, 4, 5, 5, 6, 4, 5, 5, 6, 5, 6, 6, 7, 1, 2, 2, 3, 2, 3, 3, 4, 2, 3, 3, 4, 3, 4, 4, 5, 2, 3, 3, 4, 3, 4, 4, 5, 3, 4, 4, 5, 4, 5, 5, 6, 2, 3, 3, 4, 3, 4, 4, 5, 3, 4, 4, 5, 4, 5, 5, 6, 3, 4, 4, 5, 4, 5, 5, 6, 4, 5, 5, 6, 5, 6, 6, 7, 2, 3, 3, 4, 3, 4, 4, 5, 3, 4, 4, 5, 4, 5, 5, 6, 3, 4, 4, 5, 4, 5, 5, 6, 4, 5, 5, 6, 5, 6, 6, 7, 3, 4, 4, 5, 4, 5, 5, 6, 4, 5, 5, 6, 5, 6, 6, 7, 4, 5, 5, 6, 5, 6, 6, 7, 5, 6, 6, 7, 6, 7, 7, 8]⟩ : ByteArray).size : Int) then
    let v2 := andI .u32 (shrI .u32 x (16 : Int)) (255 : Int)
    if 0 ≤ v2 ∧ v2 < ((⟨#[0, 1, 1, 2, 1, 2, 2, 3, 1, 2, 2, 3, 2, 3, 3, 4, 1, 2, 2, 3, 2, 3, 3, 4, 2, 3, 3, 4, 3, 4, 4, 5, 1, 2, 2, 3, 2, 3, 3, 4, 2, 3, 3, 4, 3, 4, 4, 5, 2, 3, 3, 4, 3, 4, 4, 5, 3, 4, 4, 5, 4, 5, 5, 6, 1, 2, 2, 3, 2, 3, 3, 4, 2, 3, 3, 4, 3, 4, 4, 5, 2, 3, 3, 4, 3, 4, 4, 5, 3, 4, 4, 5, 4, 5, 5, 6, 2, 3, 3, 4, 3, 4, 4, 5, 3, 4, 4, 5, 4, 5, 5, 6, 3, 4, 4, 5, 4, 5, 5, 6, 4, 5, 5, 6, 5, 6, 6, 7, 1, 2, 2, 3, 2, 3, 3, 4, 2, 3, 3, 4, 3, 4, 4, 5, 2, 3, 3, 4, 3, 4, 4, 5, 3, 4, 4, 5, 4, 5, 5, 6, 2, 3, 3, 4, 3, 4, 4, 5, 3, 4, 4, 5, 4, 5, 5, 6, 3, 4, 4, 5, 4, 5, 5, 6, 4, 5, 5, 6, 5, 6, 6, 7, 2, 3, 3, 4, 3, 4, 4, 5, 3, 4, 4, 5, 4, 5, 5, 6, 3, 4, 4, 5, 4, 5, 5, 6, 4, 5, 5, 6, 5, 6, 6, 7, 3, 4, 4, 5, 4, 5, 5, 6, 4, 5, 5, 6, 5, 6, 6, 7, 4, 5, 5, 6, 5, 6, 6, 7, 5, 6, 6, 7, 6, 7, 7, 8]⟩ : ByteArray).size : Int) then
      let v4 := andI .u32 (shrI .u32 x (8 : Int)) (255 : Int)
      if 0 ≤ v4 ∧ v4 < ((⟨#[0, 1, 1, 2, 1, 2, 2, 3, 1, 2, 2, 3, 2, 3, 3, 4, 1, 2, 2, 3, 2, 3, 3, 4, 2, 3, 3, 4, 3, 4, 4, 5, 1, 2, 2, 3, 2, 3, 3, 4, 2, 3, 3, 4, 3, 4, 4, 5, 2, 3, 3, 4, 3, 4, 4, 5, 3, 4, 4, 5, 4, 5, 5, 6, 1, 2, 2, 3, 2, 3, 3, 4, 2, 3, 3, 4, 3, 4, 4, 5, 2, 3, 3, 4, 3, 4, 4, 5, 3, 4, 4, 5, 4, 5, 5, 6, 2, 3, 3, 4, 3, 4, 4, 5, 3, 4, 4, 5, 4, 5, 5, 6, 3, 4, 4, 5, 4, 5, 5, 6, 4, 5, 5, 6, 5, 6, 6, 7, 1, 2, 2, 3, 2, 3, 3, 4, 2, 3, 3, 4, 3, 4, 4, 5, 2, 3, 3, 4, 3, 4, 4, 5, 3, 4, 4, 5, 4, 5, 5, 6, 2, 3, 3, 4, 3, 4, 4, 5, 3, 4, 4, 5, 4, 5, 5, 6, 3, 4, 4, 5, 4, 5, 5, 6, 4, 5, 5, 6, 5, 6, 6, 7, 2, 3, 3, 4, 3, 4, 4, 5, 3, 4, 4, 5, 4, 5, 5, 6, 3, 4, 4, 5, 4, 5, 5, 6, 4, 5, 5, 6, 5, 6, 6, 7, 3, 4, 4, 5, 4, 5, 5, 6, 4, 5, 5, 6, 5, 6, 6, 7, 4, 5, 5, 6, 5, 6, 6, 7, 5, 6, 6, 7, 6, 7, 7, 8]⟩ : ByteArray).size : Int) then
        if 0 ≤ (andI .u32 x (255 : Int)) ∧ (andI .u32 x (255 : Int)) < ((⟨#[0, 1, 1, 2, 1, 2, 2, 3, 1, 2, 2, 3, 2, 3, 3, 4, 1, 2, 2, 3, 2, 3, 3, 4, 2, 3, 3, 4, 3, 4, 4, 5, 1, 2, 2, 3, 2, 3, 3, 4, 2, 3, 3, 4, 3, 4, 4, 5, 2, 3, 3, 4, 3, 4, 4, 5, 3, 4, 4, 5, 4, 5, 5, 6, 1, 2, 2, 3, 2, 3, 3, 4, 2, 3, 3, 4, 3, 4, 4, 5, 2, 3, 3, 4, 3, 4, 4, 5, 3, 4, 4, 5, 4, 5, 5, 6, 2, 3, 3, 4, 3, 4, 4, 5, 3, 4, 4, 5, 4, 5, 5, 6, 3, 4, 4, 5, 4, 5, 5, 6, 4, 5, 5, 6, 5, 6, 6, 7, 1, 2, 2, 3, 2, 3, 3, 4, 2, 3, 3, 4, 3, 4, 4, 5, 2, 3, 3, 4, 3, 4, 4, 5, 3, 4, 4, 5, 4, 5, 5, 6, 2, 3, 3, 4, 3, 4, 4, 5, 3, 4, 4, 5, 4, 5, 5, 6, 3, 4, 4, 5, 4, 5, 5, 6, 4, 5, 5, 6, 5, 6, 6, 7, 2, 3, 3, 4, 3, 4, 4, 5, 3, 4, 4, 5, 4, 5, 5, 6, 3, 4, 4, 5, 4, 5, 5, 6, 4, 5, 5, 6, 5, 6, 6, 7, 3, 4, 4, 5, 4, 5, 5, 6, 4, 5, 5, 6, 5, 6, 6, 7, 4, 5, 5, 6, 5, 6, 6, 7, 5, 6, 6, 7, 6, 7, 7, 8]⟩ : ByteArray).size : Int) then
          some (IntKind.wrap .i64 (IntKind.wrap .u8 ((IntKind.wrap .u8 ((IntKind.wrap .u8 ((bt (⟨#[0, 1, 1, 2, 1, 2, 2, 3, 1, 2, 2, 3, 2, 3, 3, 4, 1, 2, 2, 3, 2, 3, 3, 4, 2, 3, 3, 4, 3, 4, 4, 5, 1, 2, 2, 3, 2, 3, 3, 4, 2, 3, 3, 4, 3, 4, 4, 5, 2, 3, 3, 4, 3, 4, 4, 5, 3, 4, 4, 5, 4, 5, 5, 6, 1, 2, 2, 3, 2, 3, 3, 4, 2, 3, 3, 4, 3, 4, 4, 5, 2, 3, 3, 4, 3, 4, 4, 5, 3, 4, 4, 5, 4, 5, 5, 6, 2, 3, 3, 4, 3, 4, 4, 5, 3, 4, 4, 5, 4, 5, 5, 6, 3, 4, 4, 5, 4, 5, 5, 6, 4, 5, 5, 6, 5, 6, 6, 7, 1, 2, 2, 3, 2, 3, 3, 4, 2, 3, 3, 4, 3, 4, 4, 5, 2, 3, 3, 4, 3, 4, 4, 5, 3, 4, 4, 5, 4, 5, 5, 6, 2, 3, 3, 4, 3, 4, 4, 5, 3, 4, 4, 5, 4, 5, 5, 6, 3, 4, 4, 5, 4, 5, 5, 6, 4, 5, 5, 6, 5, 6, 6, 7, 2, 3, 3, 4, 3, 4, 4, 5, 3, 4, 4, 5, 4, 5, 5, 6, 3, 4, 4, 5, 4, 5, 5, 6, 4, 5, 5, 6, 5, 6, 6, 7, 3, 4, 4, 5, 4, 5, 5, 6, 4, 5, 5, 6, 5, 6, 6, 7, 4, 5, 5, 6, 5, 6, 6, 7, 5, 6, 6, 7, 6, 7, 7, 8]⟩ : ByteArray) (shrI .u32 x (24 : Int))) + (bt (⟨#[0, 1, 1, 2, 1, 2, 2, 3, 1, 2, 2, 3, 2, 3, 3, 4, 1, 2, 2, 3, 2, 3, 3, 4, 2, 3, 3, 4, 3, 4, 4, 5, 1, 2, 2, 3, 2, 3, 3, 4, 2, 3, 3, 4, 3, 4, 4, 5, 2, 3, 3, 4, 3, 4, 4, 5, 3, 4, 4, 5, 4, 5, 5, 6, 1, 2, 2, 3, 2, 3, 3, 4, 2, 3, 3, 4, 3, 4, 4, 5, 2, 3, 3, 4, 3, 4, 4, 5, 3, 4, 4, 5, 4, 5, 5, 6, 2, 3, 3, 4, 3, 4, 4, 5, 3, 4, 4, 5, 4, 5, 5, 6, 3, 4, 4, 5, 4, 5, 5, 6, 4, 5, 5, 6, 5, 6, 6, 7, 1, 2, 2, 3, 2, 3, 3, 4, 2, 3, 3, 4, 3, 4, 4, 5, 2, 3, 3, 4, 3, 4, 4, 5, 3, 4, 4, 5, 4, 5, 5, 6, 2, 3, 3, 4, 3, 4, 4, 5, 3, 4, 4, 5, 4, 5, 5, 6, 3, 4, 4, 5, 4, 5, 5, 6, 4, 5, 5, 6, 5, 6, 6, 7, 2, 3, 3, 4, 3, 4, 4, 5, 3, 4, 4, 5, 4, 5, 5, 6, 3, 4, 4, 5, 4, 5, 5, 6, 4, 5, 5, 6, 5, 6, 6, 7, 3, 4, 4, 5, 4, 5, 5, 6, 4, 5, 5, 6, 5, 6, 6, 7, 4, 5, 5, 6, 5, 6, 6, 7, 5, 6, 6, 7, 6, 7, 7, 8]⟩ : ByteArray) v2))) + (bt (⟨#[0, 1, 1, 2, 1, 2, 2, 3, 1, 2, 2, 3, 2, 3, 3, 4, 1, 2, 2, 3, 2, 3, 3, 4, 2, 3, 3, 4, 3, 4, 4, 5, 1, 2, 2, 3, 2, 3, 3, 4, 2, 3, 3, 4, 3, 4, 4, 5, 2, 3, 3, 4, 3, 4, 4, 5, 3, 4, 4, 5, 4, 5, 5, 6, 1, 2, 2, 3, 2, 3, 3, 4, 2, 3, 3, 4, 3, 4, 4, 5, 2, 3, 3, 4, 3, 4, 4, 5, 3, 4, 4, 5, 4, 5, 5, 6, 2, 3, 3, 4, 3, 4, 4, 5, 3, 4, 4, 5, 4, 5, 5, 6, 3, 4, 4, 5, 4, 5, 5, 6, 4, 5, 5, 6, 5, 6, 6, 7, 1, 2, 2, 3, 2, 3, 3, 4, 2, 3, 3, 4, 3, 4, 4, 5, 2, 3, 3, 4, 3, 4, 4, 5, 3, 4, 4, 5, 4, 5, 5, 6, 2, 3, 3, 4, 3, 4, 4, 5, 3, 4, 4, 5, 4, 5, 5, 6, 3, 4, 4, 5, 4, 5, 5, 6, 4, 5, 5, 6, 5, 6, 6, 7, 2, 3, 3, 4, 3, 4, 4, 5, 3, 4, 4, 5, 4, 5, 5, 6, 3, 4, 4, 5, 4, 5, 5, 6, 4, 5, 5, 6, 5, 6, 6, 7, 3, 4, 4, 5, 4, 5, 5, 6, 4, 5, 5, 6, 5, 6, 6, 7, 4, 5, 5, 6, 5, 6, 6, 7, 5, 6, 6, 7, 6, 7, 7, 8]⟩ : ByteArray) v4))) + (bt (⟨#[0, 1, 1, 2, 1, 2, 2, 3, 1, 2, 2, 3, 2, 3, 3, 4, 1, 2, 2, 3, 2, 3, 3, 4, 2, 3, 3, 4, 3, 4, 4, 5, 1, 2, 2, 3, 2, 3, 3, 4, 2, 3, 3, 4, 3, 4, 4, 5, 2, 3, 3, 4, 3, 4, 4, 5, 3, 4, 4, 5, 4, 5, 5, 6, 1, 2, 2, 3, 2, 3, 3, 4, 2, 3, 3, 4, 3, 4, 4, 5, 2, 3, 3, 4, 3, 4, 4, 5, 3, 4, 4, 5, 4, 5, 5, 6, 2, 3, 3, 4, 3, 4, 4, 5, 3, 4, 4, 5, 4, 5, 5, 6, 3, 4, 4, 5, 4, 5, 5, 6, 4, 5, 5, 6, 5, 6, 6, 7, 1, 2, 2, 3, 2, 3, 3, 4, 2, 3, 3, 4, 3, 4, 4, 5, 2, 3, 3, 4, 3, 4, 4, 5, 3, 4, 4, 5, 4, 5, 5, 6, 2, 3, 3, 4, 3, 4, 4, 5, 3, 4, 4, 5, 4, 5, 5, 6, 3, 4, 4, 5, 4, 5, 5, 6, 4, 5, 5, 6, 5, 6, 6, 7, 2, 3, 3, 4, 3, 4, 4, 5, 3, 4, 4, 5, 4, 5, 5, 6, 3, 4, 4, 5, 4, 5, 5, 6, 4, 5, 5, 6, 5, 6, 6, 7, 3, 4, 4, 5, 4, 5, 5, 6, 4, 5, 5, 6, 5, 6, 6, 7, 4, 5, 5, 6, 5, 6, 6, 7, 5, 6, 6, 7, 6, 7, 7, 8]⟩ : ByteArray) (andI .u32 x (255 : Int))))))
        else none
      else none
    else none
  else none
noncomputable def math_bits_OnesCount32.sp : FSpec := ⟨[(.int .u32)], [(.int .i64)], fun x => math_bits_OnesCount32.f x⟩
noncomputable def math_bits_OnesCount32.env : Env := ⟨TYS, [], [], [], [], []⟩
theorem math_bits_OnesCount32.eq (x) : fnEval math_bits_OnesCount32.env math_bits_OnesCount32.sp.args math_bits_OnesCount32.sp.res Go.Proofs.Try.f51 x = math_bits_OnesCount32.sp.f x := by kernel_rfl
theorem math_bits_OnesCount32.sound : Sound Try.prog 51 math_bits_OnesCount32.sp := Lift.sound (E := math_bits_OnesCount32.env) Try.func51 (by kernel_rfl) (env_ok TYS.ok mixed trivial trivial) (by kernel_rfl) math_bits_OnesCount32.eq

/-! vmfleet/balloon.Count -/
noncomputable def balloon_Count.f (b : Int × Int) : Option Int :=
  (math_bits_OnesCount32.f b.2).bind fun r1 =>
  some r1
noncomputable def balloon_Count.sp : FSpec := ⟨[(.st (.pair (.int .u32) (.int .u32)))], [(.int .i64)], fun x => balloon_Count.f x⟩
noncomputable def balloon_Count.env : Env := ⟨TYS, [(51, math_bits_OnesCount32.sp)], [], [], [], []⟩
theorem balloon_Count.eq (x) : fnEval balloon_Count.env balloon_Count.sp.args balloon_Count.sp.res Go.Proofs.Try.f21 x = balloon_Count.sp.f x := by kernel_rfl
theorem balloon_Count.sound : Sound Try.prog 21 balloon_Count.sp := Lift.sound (E := balloon_Count.env) Try.func21 (by kernel_rfl) (env_ok TYS.ok mixed ⟨math_bits_OnesCount32.sound, trivial⟩ trivial) (by kernel_rfl) balloon_Count.eq

/-! vmfleet/balloon.Pending -/
noncomputable def balloon_Pending.f (b : Int × Int) : Option Bool :=
  (balloon_Count.f b).bind fun r1 =>
  some (!decide ((IntKind.wrap .u32 r1) = b.1))
noncomputable def balloon_Pending.sp : FSpec := ⟨[(.st (.pair (.int .u32) (.int .u32)))], [.bool], fun x => balloon_Pending.f x⟩
noncomputable def balloon_Pending.env : Env := ⟨TYS, [(21, balloon_Count.sp)], [], [], [], []⟩
theorem balloon_Pending.eq (x) : fnEval balloon_Pending.env balloon_Pending.sp.args balloon_Pending.sp.res Go.Proofs.Try.f23 x = balloon_Pending.sp.f x := by kernel_rfl
theorem balloon_Pending.sound : Sound Try.prog 23 balloon_Pending.sp := Lift.sound (E := balloon_Pending.env) Try.func23 (by kernel_rfl) (env_ok TYS.ok mixed ⟨balloon_Count.sound, trivial⟩ trivial) (by kernel_rfl) balloon_Pending.eq

/-! vmfleet/vmfleetlaw11.awake -/
noncomputable def vmfleetlaw11_awake.f  : Option Bool :=
  (vmfleetref1_New.f (4 : Int)).bind fun r1 =>
  (balloon_Out.f ((1 : Int), (0 : Int)) r1 (10 : Int) (2 : Int)).bind fun r2 =>
  bif decide (r2.1.2 = 4) then
    (balloon_Pending.f r2.1).bind fun r3 =>
    bif !r3 then
      (balloon_Count.f r2.1).bind fun r4 =>
      bif decide (r4 = 1) then
        bif decide ((r2.2.length : Int) = 128) then
          (balloon_Pending.f ((1 : Int), (0 : Int))).bind fun r5 =>
          some r5
        else
          some false
      else
        some false
    else
      some false
  else
    some false
noncomputable def vmfleetlaw11_awake.sp : FSpec := ⟨[], [.bool], fun _ => vmfleetlaw11_awake.f⟩
noncomputable def vmfleetlaw11_awake.env : Env := ⟨TYS, [(18, balloon_Out.sp), (21, balloon_Count.sp), (23, balloon_Pending.sp), (46, vmfleetref1_New.sp)], [], [], [], []⟩
theorem vmfleetlaw11_awake.eq (x) : fnEval vmfleetlaw11_awake.env vmfleetlaw11_awake.sp.args vmfleetlaw11_awake.sp.res Go.Proofs.Try.f14 x = vmfleetlaw11_awake.sp.f x := by kernel_rfl
theorem vmfleetlaw11_awake.sound : Sound Try.prog 14 vmfleetlaw11_awake.sp := Lift.sound (E := vmfleetlaw11_awake.env) Try.func14 (by kernel_rfl) (env_ok TYS.ok mixed ⟨balloon_Out.sound, balloon_Count.sound, balloon_Pending.sound, vmfleetref1_New.sound, trivial⟩ trivial) (by kernel_rfl) vmfleetlaw11_awake.eq

/-! vmfleet/vmfleetmake.Round -/
noncomputable def vmfleetmake_Round.f (n : Int) (k : Int) : Option Int :=
  if k = 0 then none else
  bif decide ((Int.tmod n k) < 0) then
    some (IntKind.wrap .i64 ((Int.tmod n k) + k))
  else
    some (Int.tmod n k)
noncomputable def vmfleetmake_Round.sp : FSpec := ⟨[(.int .i64), (.int .i64)], [(.int .i64)], fun x => vmfleetmake_Round.f x.1 x.2⟩
noncomputable def vmfleetmake_Round.env : Env := ⟨TYS, [], [], [], [], []⟩
theorem vmfleetmake_Round.eq (x) : fnEval vmfleetmake_Round.env vmfleetmake_Round.sp.args vmfleetmake_Round.sp.res Go.Proofs.Try.f17 x = vmfleetmake_Round.sp.f x := by kernel_rfl
theorem vmfleetmake_Round.sound : Sound Try.prog 17 vmfleetmake_Round.sp := Lift.sound (E := vmfleetmake_Round.env) Try.func17 (by kernel_rfl) (env_ok TYS.ok mixed trivial trivial) (by kernel_rfl) vmfleetmake_Round.eq

/-! vmfleet/vmfleetref1.Next -/
noncomputable def vmfleetref1_Next.f (seed : Int) : Option (Int × Int) :=
  let v1 := IntKind.wrap .u64 (seed + 11400714819323198485)
  let v2 := IntKind.wrap .u64 ((xorI .u64 v1 (shrI .u64 v1 (30 : Int))) * 13787848793156543929)
  let v3 := IntKind.wrap .u64 ((xorI .u64 v2 (shrI .u64 v2 (27 : Int))) * 10723151780598845931)
  some (xorI .u64 v3 (shrI .u64 v3 (31 : Int)), v1)
noncomputable def vmfleetref1_Next.sp : FSpec := ⟨[(.int .u64)], [(.int .u64), (.int .u64)], fun x => vmfleetref1_Next.f x⟩
noncomputable def vmfleetref1_Next.env : Env := ⟨TYS, [], [], [], [], []⟩
theorem vmfleetref1_Next.eq (x) : fnEval vmfleetref1_Next.env vmfleetref1_Next.sp.args vmfleetref1_Next.sp.res Go.Proofs.Try.f67 x = vmfleetref1_Next.sp.f x := by kernel_rfl
theorem vmfleetref1_Next.sound : Sound Try.prog 67 vmfleetref1_Next.sp := Lift.sound (E := vmfleetref1_Next.env) Try.func67 (by kernel_rfl) (env_ok TYS.ok mixed trivial trivial) (by kernel_rfl) vmfleetref1_Next.eq

/-! vmfleet/vmfleetmake.Mix -/
noncomputable def vmfleetmake_Mix.f (n : Int) (k : Int) : Option Int :=
  (vmfleetref1_Next.f (xorI .u64 (IntKind.wrap .u64 n) (IntKind.wrap .u64 ((IntKind.wrap .u64 k) * 11400714819323198485)))).bind fun r1 =>
  some (IntKind.wrap .i64 (shrI .u64 r1.1 (1 : Int)))
noncomputable def vmfleetmake_Mix.sp : FSpec := ⟨[(.int .i64), (.int .i64)], [(.int .i64)], fun x => vmfleetmake_Mix.f x.1 x.2⟩
noncomputable def vmfleetmake_Mix.env : Env := ⟨TYS, [(67, vmfleetref1_Next.sp)], [], [], [], []⟩
theorem vmfleetmake_Mix.eq (x) : fnEval vmfleetmake_Mix.env vmfleetmake_Mix.sp.args vmfleetmake_Mix.sp.res Go.Proofs.Try.f47 x = vmfleetmake_Mix.sp.f x := by kernel_rfl
theorem vmfleetmake_Mix.sound : Sound Try.prog 47 vmfleetmake_Mix.sp := Lift.sound (E := vmfleetmake_Mix.env) Try.func47 (by kernel_rfl) (env_ok TYS.ok mixed ⟨vmfleetref1_Next.sound, trivial⟩ trivial) (by kernel_rfl) vmfleetmake_Mix.eq

/-! vmfleet/vmfleetlaw11.words -/
noncomputable def vmfleetlaw11_words.f (n : Int) (pages : Int) : Option (List Int) :=
  (vmfleetmake_Round.f pages (8 : Int)).bind fun r1 =>
  (vmfleetref1_New.f (IntKind.wrap .i64 (1 + r1))).bind fun r2 =>
  (loop (Y := (List Int) ⊕ (List Int)) (fun (x1 : List Int × Int) =>
    bif decide (x1.2 < (x1.1.length : Int)) then
      (vmfleetmake_Mix.f n x1.2).bind fun r3 =>
      if 0 ≤ x1.2 ∧ x1.2 < (x1.1.length : Int) then
        some (.inl (put x1.1 x1.2 (IntKind.wrap .u32 (andI .i64 r3 (4294967295 : Int))), IntKind.wrap .i64 (x1.2 + 1)))
      else none
    else
      some (.inr (.inl x1.1))) (r2, (0 : Int))).bind fun o => match o with
  | .inl y2 =>
    some y2
  | .inr r => some r
noncomputable def vmfleetlaw11_words.sp : FSpec := ⟨[(.int .i64), (.int .i64)], [(.own (.int .u32))], fun x => vmfleetlaw11_words.f x.1 x.2⟩
noncomputable def vmfleetlaw11_words.env : Env := ⟨TYS, [(17, vmfleetmake_Round.sp), (46, vmfleetref1_New.sp), (47, vmfleetmake_Mix.sp)], [], [(3, ⟨[0, 4], [⟨5, false, (.own (.int .u32))⟩, ⟨6, false, (.int .i64)⟩], [⟨5, false, (.own (.int .u32))⟩], 0, none⟩)], [], []⟩
theorem vmfleetlaw11_words.eq (x) : fnEval vmfleetlaw11_words.env vmfleetlaw11_words.sp.args vmfleetlaw11_words.sp.res Go.Proofs.Try.f15 x = vmfleetlaw11_words.sp.f x := by kernel_rfl
theorem vmfleetlaw11_words.sound : Sound Try.prog 15 vmfleetlaw11_words.sp := Lift.sound (E := vmfleetlaw11_words.env) Try.func15 (by kernel_rfl) (env_ok TYS.ok mixed ⟨vmfleetmake_Round.sound, vmfleetref1_New.sound, vmfleetmake_Mix.sound, trivial⟩ trivial) (by kernel_rfl) vmfleetlaw11_words.eq

/-! vmfleet/vmfleetref1.Pages -/
noncomputable def vmfleetref1_Pages.f (m : List Int) : Option Int :=
  bif !decide ((Int.tmod (m.length : Int) (32 : Int)) = 0) then
    some (0 : Int)
  else
    bif decide ((m.length : Int) > 1024) then
      some (0 : Int)
    else
      some (IntKind.wrap .i64 (Int.tdiv (m.length : Int) (32 : Int)))
noncomputable def vmfleetref1_Pages.sp : FSpec := ⟨[(.sl (.int .u32))], [(.int .i64)], fun x => vmfleetref1_Pages.f x⟩
noncomputable def vmfleetref1_Pages.env : Env := ⟨TYS, [], [], [], [], []⟩
theorem vmfleetref1_Pages.eq (x) : fnEval vmfleetref1_Pages.env vmfleetref1_Pages.sp.args vmfleetref1_Pages.sp.res Go.Proofs.Try.f16 x = vmfleetref1_Pages.sp.f x := by kernel_rfl
theorem vmfleetref1_Pages.sound : Sound Try.prog 16 vmfleetref1_Pages.sp := Lift.sound (E := vmfleetref1_Pages.env) Try.func16 (by kernel_rfl) (env_ok TYS.ok mixed trivial trivial) (by kernel_rfl) vmfleetref1_Pages.eq

/-! vmfleet/vmfleetref1.SameWords -/
noncomputable def vmfleetref1_SameWords.f (a : List Int) (b : List Int) : Option Bool :=
  bif !decide ((a.length : Int) = (b.length : Int)) then
    some false
  else
    (loop (Y := (Unit) ⊕ (Bool)) (fun (x1 : Int) =>
      bif decide (x1 < (a.length : Int)) then
        if 0 ≤ x1 ∧ x1 < (a.length : Int) then
          if 0 ≤ x1 ∧ x1 < (b.length : Int) then
            bif !decide ((nth (0 : Int) a x1) = (nth (0 : Int) b x1)) then
              some (.inr (.inr false))
            else
              some (.inl (IntKind.wrap .i64 (x1 + 1)))
          else none
        else none
      else
        some (.inr (.inl ()))) (0 : Int)).bind fun o => match o with
    | .inl y2 =>
      some true
    | .inr r => some r
noncomputable def vmfleetref1_SameWords.sp : FSpec := ⟨[(.sl (.int .u32)), (.sl (.int .u32))], [.bool], fun x => vmfleetref1_SameWords.f x.1 x.2⟩
noncomputable def vmfleetref1_SameWords.env : Env := ⟨TYS, [], [], [(4, ⟨[0, 1], [⟨5, false, (.int .i64)⟩], [], 0, none⟩)], [], []⟩
theorem vmfleetref1_SameWords.eq (x) : fnEval vmfleetref1_SameWords.env vmfleetref1_SameWords.sp.args vmfleetref1_SameWords.sp.res Go.Proofs.Try.f26 x = vmfleetref1_SameWords.sp.f x := by kernel_rfl
theorem vmfleetref1_SameWords.sound : Sound Try.prog 26 vmfleetref1_SameWords.sp := Lift.sound (E := vmfleetref1_SameWords.env) Try.func26 (by kernel_rfl) (env_ok TYS.ok mixed trivial trivial) (by kernel_rfl) vmfleetref1_SameWords.eq

/-! vmfleet/vmfleetref1.Changed -/
noncomputable def vmfleetref1_Changed.f (a : List Int) (b : List Int) : Option (List Int) :=
  bif !decide ((a.length : Int) = (b.length : Int)) then
    some []
  else
    (loop (Y := (List Int) ⊕ (List Int)) (fun (x1 : List Int × Int) =>
      (vmfleetref1_Pages.f a).bind fun r1 =>
      bif decide (x1.2 < r1) then
        let v1 := IntKind.wrap .i64 ((IntKind.wrap .i64 (x1.2 + 1)) * 32)
        if 0 ≤ (IntKind.wrap .i64 (x1.2 * 32)) ∧ (IntKind.wrap .i64 (x1.2 * 32)) ≤ v1 ∧ v1 ≤ (a.length : Int) then
          let v2 := IntKind.wrap .i64 ((IntKind.wrap .i64 (x1.2 + 1)) * 32)
          if 0 ≤ (IntKind.wrap .i64 (x1.2 * 32)) ∧ (IntKind.wrap .i64 (x1.2 * 32)) ≤ v2 ∧ v2 ≤ (b.length : Int) then
            (vmfleetref1_SameWords.f (slc a (IntKind.wrap .i64 (x1.2 * 32)) v1) (slc b (IntKind.wrap .i64 (x1.2 * 32)) v2)).bind fun r2 =>
            bif !r2 then
              if (x1.1.length + ([x1.2] : List Int).length) * 8 ≤ 70368744177664 then
                some (.inl (x1.1 ++ ([x1.2] : List Int), IntKind.wrap .i64 (x1.2 + 1)))
              else none
            else
              some (.inl (x1.1, IntKind.wrap .i64 (x1.2 + 1)))
          else none
        else none
      else
        some (.inr (.inl x1.1))) ([], (0 : Int))).bind fun o => match o with
    | .inl y2 =>
      some y2
    | .inr r => some r
noncomputable def vmfleetref1_Changed.sp : FSpec := ⟨[(.sl (.int .u32)), (.sl (.int .u32))], [(.own (.int .i64))], fun x => vmfleetref1_Changed.f x.1 x.2⟩
noncomputable def vmfleetref1_Changed.env : Env := ⟨TYS, [(16, vmfleetref1_Pages.sp), (26, vmfleetref1_SameWords.sp)], [], [(5, ⟨[0, 1, 4], [⟨5, false, (.own (.int .i64))⟩, ⟨6, false, (.int .i64)⟩], [⟨5, false, (.own (.int .i64))⟩], 0, none⟩)], [], []⟩
theorem vmfleetref1_Changed.eq (x) : fnEval vmfleetref1_Changed.env vmfleetref1_Changed.sp.args vmfleetref1_Changed.sp.res Go.Proofs.Try.f19 x = vmfleetref1_Changed.sp.f x := by kernel_rfl
theorem vmfleetref1_Changed.sound : Sound Try.prog 19 vmfleetref1_Changed.sp := Lift.sound (E := vmfleetref1_Changed.env) Try.func19 (by kernel_rfl) (env_ok TYS.ok mixed ⟨vmfleetref1_Pages.sound, vmfleetref1_SameWords.sound, trivial⟩ trivial) (by kernel_rfl) vmfleetref1_Changed.eq

/-! vmfleet/vmfleetref1.Low -/
noncomputable def vmfleetref1_Low.f (x : Int) (n : Int) : Option ByteArray :=
  (loop (Y := (List Int) ⊕ (ByteArray)) (fun (x1 : List Int × Int) =>
    bif decide (x1.2 < n) then
      let v1 := IntKind.wrap .u64 (IntKind.wrap .i64 (8 * x1.2))
      if 0 ≤ v1 then
        if (x1.1.length + ([IntKind.wrap .u8 (shrI .u32 x v1)] : List Int).length) * 1 ≤ 70368744177664 then
          some (.inl ((x1.1 ++ ([IntKind.wrap .u8 (shrI .u32 x v1)] : List Int)), IntKind.wrap .i64 (x1.2 + 1)))
        else none
      else none
    else
      some (.inr (.inl x1.1))) ([], (0 : Int))).bind fun o => match o with
  | .inl y2 =>
    some (strOf y2)
  | .inr r => some r
noncomputable def vmfleetref1_Low.sp : FSpec := ⟨[(.int .u32), (.int .i64)], [.str], fun x => vmfleetref1_Low.f x.1 x.2⟩
noncomputable def vmfleetref1_Low.env : Env := ⟨TYS, [], [], [(3, ⟨[0, 1, 4], [⟨5, false, (.own (.int .u8))⟩, ⟨6, false, (.int .i64)⟩], [⟨5, false, (.own (.int .u8))⟩], 0, none⟩)], [], []⟩
theorem vmfleetref1_Low.eq (x) : fnEval vmfleetref1_Low.env vmfleetref1_Low.sp.args vmfleetref1_Low.sp.res Go.Proofs.Try.f50 x = vmfleetref1_Low.sp.f x := by kernel_rfl
theorem vmfleetref1_Low.sound : Sound Try.prog 50 vmfleetref1_Low.sp := Lift.sound (E := vmfleetref1_Low.env) Try.func50 (by kernel_rfl) (env_ok TYS.ok mixed trivial trivial) (by kernel_rfl) vmfleetref1_Low.eq

/-! vmfleet/vmfleetref1.Page -/
noncomputable def vmfleetref1_Page.f (m : List Int) (frame : Int) : Option (ByteArray × Bool) :=
  bif decide (frame < 0) then
    some ((⟨#[]⟩ : ByteArray), false)
  else
    (vmfleetref1_Pages.f m).bind fun r1 =>
    bif decide (frame ≥ r1) then
      some ((⟨#[]⟩ : ByteArray), false)
    else
      (loop (Y := (List Int) ⊕ (ByteArray × Bool)) (fun (x1 : List Int × Int) =>
        bif decide (x1.2 < 32) then
          let v1 := IntKind.wrap .i64 ((IntKind.wrap .i64 (frame * 32)) + x1.2)
          if 0 ≤ v1 ∧ v1 < (m.length : Int) then
            (vmfleetref1_Low.f (nth (0 : Int) m v1) (4 : Int)).bind fun r2 =>
            if (x1.1.length + (bytesOf r2).length) * 1 ≤ 70368744177664 then
              some (.inl (x1.1 ++ (bytesOf r2), IntKind.wrap .i64 (x1.2 + 1)))
            else none
          else none
        else
          some (.inr (.inl x1.1))) ([], (0 : Int))).bind fun o => match o with
      | .inl y2 =>
        some (strOf y2, true)
      | .inr r => some r
noncomputable def vmfleetref1_Page.sp : FSpec := ⟨[(.sl (.int .u32)), (.int .i64)], [.str, .bool], fun x => vmfleetref1_Page.f x.1 x.2⟩
noncomputable def vmfleetref1_Page.env : Env := ⟨TYS, [(16, vmfleetref1_Pages.sp), (50, vmfleetref1_Low.sp)], [], [(5, ⟨[0, 1, 4, 5], [⟨6, false, (.own (.int .u8))⟩, ⟨7, false, (.int .i64)⟩], [⟨6, false, (.own (.int .u8))⟩], 0, none⟩)], [], []⟩
theorem vmfleetref1_Page.eq (x) : fnEval vmfleetref1_Page.env vmfleetref1_Page.sp.args vmfleetref1_Page.sp.res Go.Proofs.Try.f20 x = vmfleetref1_Page.sp.f x := by kernel_rfl
theorem vmfleetref1_Page.sound : Sound Try.prog 20 vmfleetref1_Page.sp := Lift.sound (E := vmfleetref1_Page.env) Try.func20 (by kernel_rfl) (env_ok TYS.ok mixed ⟨vmfleetref1_Pages.sound, vmfleetref1_Low.sound, trivial⟩ trivial) (by kernel_rfl) vmfleetref1_Page.eq

/-! vmfleet/balloon.May -/
noncomputable def balloon_May.f (b : Int × Int) (pages : Int) : Option Bool :=
  (bif decide (pages < 0) then
    some (.inl (0 : Int))
  else
    some (.inl pages) : Option ((Int) ⊕ (Bool))).bind fun o => match o with
  | .inl y1 =>
    bif decide (y1 ≥ 32) then
      some true
    else
      if 0 ≤ y1 then
        some (decide ((shrI .u32 b.2 y1) = 0))
      else none
  | .inr r => some r
noncomputable def balloon_May.sp : FSpec := ⟨[(.st (.pair (.int .u32) (.int .u32))), (.int .i64)], [.bool], fun x => balloon_May.f x.1 x.2⟩
noncomputable def balloon_May.env : Env := ⟨TYS, [], [], [], [(3, ⟨[2, 4], [], [⟨1, false, (.int .i64)⟩], 0, none⟩)], []⟩
theorem balloon_May.eq (x) : fnEval balloon_May.env balloon_May.sp.args balloon_May.sp.res Go.Proofs.Try.f22 x = balloon_May.sp.f x := by kernel_rfl
theorem balloon_May.sound : Sound Try.prog 22 balloon_May.sp := Lift.sound (E := balloon_May.env) Try.func22 (by kernel_rfl) (env_ok TYS.ok mixed trivial trivial) (by kernel_rfl) balloon_May.eq

/-! vmfleet/vmfleetlaw11.BalloonGives -/
noncomputable def vmfleetlaw11_BalloonGives.f (n : Int) (pages : Int) (l : List Int) : Option Bool :=
  bif decide ((l.length : Int) > 60) then
    (vmfleetlaw11_awake.f).bind fun r1 =>
    some r1
  else
    (vmfleetlaw11_words.f n pages).bind fun r2 =>
    (vmfleetref1_Pages.f r2).bind fun r3 =>
    (loop (Y := (Unit) ⊕ (Bool)) (fun (x1 : List Int × (Int × Int) × List Bool × Int) =>
      bif decide (x1.2.2.2 < (l.length : Int)) then
        if 0 ≤ x1.2.2.2 ∧ x1.2.2.2 < (l.length : Int) then
          (vmfleetmake_Round.f (shrI .i64 (nth (0 : Int) l x1.2.2.2) (1 : Int)) (10 : Int)).bind fun r4 =>
          if 0 ≤ x1.2.2.2 ∧ x1.2.2.2 < (l.length : Int) then
            let v2 := andI .i64 (nth (0 : Int) l x1.2.2.2) (1 : Int)
            (balloon_Out.f x1.2.1 x1.1 (IntKind.wrap .i64 (10 + v2)) (IntKind.wrap .u32 r4)).bind fun r5 =>
            (bif decide ((IntKind.wrap .i64 (10 + v2)) = 10) then
              bif decide (r4 < r3) then
                if 0 ≤ r4 ∧ r4 < (x1.2.2.1.length : Int) then
                  some (.inl (!(nth false x1.2.2.1 r4)))
                else none
              else
                some (.inl false)
            else
              some (.inl false) : Option ((Bool) ⊕ ((List Int × (Int × Int) × List Bool × Int) ⊕ ((Unit) ⊕ (Bool))))).bind fun o => match o with
            | .inl y2 =>
              (vmfleetref1_Changed.f x1.1 r5.2).bind fun r6 =>
              (bif !decide ((r5.2.length : Int) = (x1.1.length : Int)) then
                some (.inr (.inr (.inr false)))
              else
                bif decide ((r6.length : Int) > 1) then
                  some (.inr (.inr (.inr false)))
                else
                  bif decide ((r6.length : Int) = 1) then
                    bif !y2 then
                      some (.inr (.inr (.inr false)))
                    else
                      if 0 ≤ (0 : Int) ∧ (0 : Int) < (r6.length : Int) then
                        bif (!decide ((nth (0 : Int) r6 (0 : Int)) = r4)) then
                          some (.inr (.inr (.inr false)))
                        else
                          some (.inl ())
                      else none
                  else
                    some (.inl ()) : Option ((Unit) ⊕ ((List Int × (Int × Int) × List Bool × Int) ⊕ ((Unit) ⊕ (Bool))))).bind fun o => match o with
              | .inl y3 =>
                (bif y2 then
                  (vmfleetref1_Page.f r5.2 r4).bind fun r7 =>
                  bif !decide (r7.1 = (strOf (List.replicate 128 (0 : Int)))) then
                    some (.inr (.inr (.inr false)))
                  else
                    if 0 ≤ r4 ∧ r4 < (x1.2.2.1.length : Int) then
                      some (.inl (put x1.2.2.1 r4 true))
                    else none
                else
                  some (.inl x1.2.2.1) : Option ((List Bool) ⊕ ((List Int × (Int × Int) × List Bool × Int) ⊕ ((Unit) ⊕ (Bool))))).bind fun o => match o with
                | .inl y4 =>
                  (bif decide ((IntKind.wrap .i64 (10 + v2)) = 11) then
                    if 0 ≤ r4 ∧ r4 < (y4.length : Int) then
                      some (.inl (put y4 r4 false))
                    else none
                  else
                    some (.inl y4) : Option ((List Bool) ⊕ ((List Int × (Int × Int) × List Bool × Int) ⊕ ((Unit) ⊕ (Bool))))).bind fun o => match o with
                  | .inl y5 =>
                    (loop (Y := (Int) ⊕ ((List Int × (Int × Int) × List Bool × Int) ⊕ ((Unit) ⊕ (Bool)))) (fun (x6 : Int × Int) =>
                      bif decide (x6.2 < 32) then
                        if 0 ≤ x6.2 ∧ x6.2 < (y5.length : Int) then
                          bif nth false y5 x6.2 then
                            some (.inl (IntKind.wrap .i64 (x6.1 + 1), IntKind.wrap .i64 (x6.2 + 1)))
                          else
                            some (.inl (x6.1, IntKind.wrap .i64 (x6.2 + 1)))
                        else none
                      else
                        some (.inr (.inl x6.1))) ((0 : Int), (0 : Int))).bind fun o => match o with
                    | .inl y7 =>
                      (balloon_Count.f r5.1).bind fun r8 =>
                      bif !decide (r8 = y7) then
                        some (.inr (.inr false))
                      else
                        (balloon_May.f r5.1 r3).bind fun r9 =>
                        bif !r9 then
                          some (.inr (.inr false))
                        else
                          if 0 ≤ x1.2.2.2 ∧ x1.2.2.2 < (l.length : Int) then
                            (vmfleetmake_Round.f (nth (0 : Int) l x1.2.2.2) (r5.2.length : Int)).bind fun r10 =>
                            if 0 ≤ x1.2.2.2 ∧ x1.2.2.2 < (l.length : Int) then
                              if 0 ≤ r10 ∧ r10 < (r5.2.length : Int) then
                                some (.inl (put r5.2 r10 (IntKind.wrap .u32 (andI .i64 (nth (0 : Int) l x1.2.2.2) (4294967295 : Int))), r5.1, y5, IntKind.wrap .i64 (x1.2.2.2 + 1)))
                              else none
                            else none
                          else none
                    | .inr r => some r
                  | .inr r => some r
                | .inr r => some r
              | .inr r => some r
            | .inr r => some r
          else none
        else none
      else
        some (.inr (.inl ()))) (r2, ((0 : Int), (0 : Int)), List.replicate 32 false, (0 : Int))).bind fun o => match o with
    | .inl y8 =>
      (vmfleetlaw11_awake.f).bind fun r11 =>
      some r11
    | .inr r => some r
noncomputable def vmfleetlaw11_BalloonGives.sp : FSpec := ⟨[(.int .i64), (.int .i64), (.sl (.int .i64))], [.bool], fun x => vmfleetlaw11_BalloonGives.f x.1 x.2.1 x.2.2⟩
noncomputable def vmfleetlaw11_BalloonGives.env : Env := ⟨TYS, [(14, vmfleetlaw11_awake.sp), (15, vmfleetlaw11_words.sp), (16, vmfleetref1_Pages.sp), (17, vmfleetmake_Round.sp), (18, balloon_Out.sp), (19, vmfleetref1_Changed.sp), (20, vmfleetref1_Page.sp), (21, balloon_Count.sp), (22, balloon_May.sp)], [], [(27, ⟨[2, 7, 8, 9, 10, 11], [⟨20, false, (.int .i64)⟩, ⟨21, false, (.int .i64)⟩], [⟨20, false, (.int .i64)⟩], 2, none⟩), (8, ⟨[2, 8], [⟨7, false, (.own (.int .u32))⟩, ⟨9, true, (.st (.pair (.int .u32) (.int .u32)))⟩, ⟨10, false, (.own .bool)⟩, ⟨11, false, (.int .i64)⟩], [], 0, none⟩)], [(14, ⟨[7, 9, 10, 11, 12, 13, 14, 15], [], [⟨16, false, .bool⟩], 0, none⟩), (17, ⟨[7, 9, 10, 11, 12, 13, 14, 15, 16], [], [], 0, none⟩), (22, ⟨[7, 9, 11, 12, 13, 14, 15], [⟨10, false, (.own .bool)⟩], [⟨10, false, (.own .bool)⟩], 0, none⟩), (24, ⟨[7, 9, 11, 14, 15], [⟨10, false, (.own .bool)⟩], [⟨10, false, (.own .bool)⟩], 0, none⟩)], []⟩
theorem vmfleetlaw11_BalloonGives.eq (x) : fnEval vmfleetlaw11_BalloonGives.env vmfleetlaw11_BalloonGives.sp.args vmfleetlaw11_BalloonGives.sp.res Go.Proofs.Try.f3 x = vmfleetlaw11_BalloonGives.sp.f x := by kernel_rfl
theorem vmfleetlaw11_BalloonGives.sound : Sound Try.prog 3 vmfleetlaw11_BalloonGives.sp := Lift.sound (E := vmfleetlaw11_BalloonGives.env) Try.func3 (by kernel_rfl) (env_ok TYS.ok mixed ⟨vmfleetlaw11_awake.sound, vmfleetlaw11_words.sound, vmfleetref1_Pages.sound, vmfleetmake_Round.sound, balloon_Out.sound, vmfleetref1_Changed.sound, vmfleetref1_Page.sound, balloon_Count.sound, balloon_May.sound, trivial⟩ trivial) (by kernel_rfl) vmfleetlaw11_BalloonGives.eq

/-! vmfleet/balloon.In -/
noncomputable def balloon_In.f (b : Int × Int) (port : Int) : Option Int :=
  bif decide (port = 10) then
    some b.1
  else
    bif decide (port = 11) then
      (balloon_Count.f b).bind fun r1 =>
      some (IntKind.wrap .u32 r1)
    else
      some (0 : Int)
noncomputable def balloon_In.sp : FSpec := ⟨[(.st (.pair (.int .u32) (.int .u32))), (.int .i64)], [(.int .u32)], fun x => balloon_In.f x.1 x.2⟩
noncomputable def balloon_In.env : Env := ⟨TYS, [(21, balloon_Count.sp)], [], [], [], []⟩
theorem balloon_In.eq (x) : fnEval balloon_In.env balloon_In.sp.args balloon_In.sp.res Go.Proofs.Try.f24 x = balloon_In.sp.f x := by kernel_rfl
theorem balloon_In.sound : Sound Try.prog 24 balloon_In.sp := Lift.sound (E := balloon_In.env) Try.func24 (by kernel_rfl) (env_ok TYS.ok mixed ⟨balloon_Count.sound, trivial⟩ trivial) (by kernel_rfl) balloon_In.eq

/-! vmfleet/vmfleetlaw11.BalloonAsks -/
noncomputable def vmfleetlaw11_BalloonAsks.f (given : Int) (target : Int) : Option Bool :=
  (loop (Y := (Int) ⊕ (Bool)) (fun (x1 : Int × Int) =>
    bif decide (x1.2 < 32) then
      if 0 ≤ (IntKind.wrap .u64 x1.2) then
        some (.inl ((IntKind.wrap .i64 (x1.1 + (IntKind.wrap .i64 (andI .u32 (shrI .u32 given (IntKind.wrap .u64 x1.2)) (1 : Int))))), IntKind.wrap .i64 (x1.2 + 1)))
      else none
    else
      some (.inr (.inl x1.1))) ((0 : Int), (0 : Int))).bind fun o => match o with
  | .inl y2 =>
    (balloon_Pending.f (Int.tmod target (40 : Int), given)).bind fun r1 =>
    bif r1 == (!decide ((IntKind.wrap .u32 y2) = (Int.tmod target (40 : Int)))) then
      (balloon_In.f (Int.tmod target (40 : Int), given) (11 : Int)).bind fun r2 =>
      bif decide (r2 = (IntKind.wrap .u32 y2)) then
        (balloon_In.f (Int.tmod target (40 : Int), given) (10 : Int)).bind fun r3 =>
        bif (decide (r3 = (Int.tmod target (40 : Int)))) then
          (vmfleetlaw11_awake.f).bind fun r4 =>
          some r4
        else
          some false
      else
        some false
    else
      some false
  | .inr r => some r
noncomputable def vmfleetlaw11_BalloonAsks.sp : FSpec := ⟨[(.int .u32), (.int .u32)], [.bool], fun x => vmfleetlaw11_BalloonAsks.f x.1 x.2⟩
noncomputable def vmfleetlaw11_BalloonAsks.env : Env := ⟨TYS, [(14, vmfleetlaw11_awake.sp), (23, balloon_Pending.sp), (24, balloon_In.sp)], [], [(3, ⟨[0, 1, 4], [⟨5, false, (.int .i64)⟩, ⟨6, false, (.int .i64)⟩], [⟨5, false, (.int .i64)⟩], 0, none⟩)], [], []⟩
theorem vmfleetlaw11_BalloonAsks.eq (x) : fnEval vmfleetlaw11_BalloonAsks.env vmfleetlaw11_BalloonAsks.sp.args vmfleetlaw11_BalloonAsks.sp.res Go.Proofs.Try.f4 x = vmfleetlaw11_BalloonAsks.sp.f x := by kernel_rfl
theorem vmfleetlaw11_BalloonAsks.sound : Sound Try.prog 4 vmfleetlaw11_BalloonAsks.sp := Lift.sound (E := vmfleetlaw11_BalloonAsks.env) Try.func4 (by kernel_rfl) (env_ok TYS.ok mixed ⟨vmfleetlaw11_awake.sound, balloon_Pending.sound, balloon_In.sound, trivial⟩ trivial) (by kernel_rfl) vmfleetlaw11_BalloonAsks.eq

/-! vmfleet/vmfleetref1.Copy -/
noncomputable def vmfleetref1_Copy.f (m : List Int) : Option (List Int) :=
  if 0 ≤ (m.length : Int) ∧ (m.length : Int) ≤ (m.length : Int) ∧ (m.length : Int) * ((4 : Nat) : Int) ≤ 70368744177664 then
    some (m.take (List.replicate ((m.length : Int).toNat) (0 : Int)).length ++ (List.replicate ((m.length : Int).toNat) (0 : Int)).drop m.length)
  else none
noncomputable def vmfleetref1_Copy.sp : FSpec := ⟨[(.sl (.int .u32))], [(.own (.int .u32))], fun x => vmfleetref1_Copy.f x⟩
noncomputable def vmfleetref1_Copy.env : Env := ⟨TYS, [], [], [], [], []⟩
theorem vmfleetref1_Copy.eq (x) : fnEval vmfleetref1_Copy.env vmfleetref1_Copy.sp.args vmfleetref1_Copy.sp.res Go.Proofs.Try.f52 x = vmfleetref1_Copy.sp.f x := by kernel_rfl
theorem vmfleetref1_Copy.sound : Sound Try.prog 52 vmfleetref1_Copy.sp := Lift.sound (E := vmfleetref1_Copy.env) Try.func52 (by kernel_rfl) (env_ok TYS.ok mixed trivial trivial) (by kernel_rfl) vmfleetref1_Copy.eq

/-! vmfleet/vmfleetref7.page -/
noncomputable def vmfleetref7_page.f (m : List Int) (frame : Int) : Option Bool :=
  (vmfleetref1_Pages.f m).bind fun r1 =>
  some (decide ((IntKind.wrap .u64 frame) < (IntKind.wrap .u64 r1)))
noncomputable def vmfleetref7_page.sp : FSpec := ⟨[(.sl (.int .u32)), (.int .u32)], [.bool], fun x => vmfleetref7_page.f x.1 x.2⟩
noncomputable def vmfleetref7_page.env : Env := ⟨TYS, [(16, vmfleetref1_Pages.sp)], [], [], [], []⟩
theorem vmfleetref7_page.eq (x) : fnEval vmfleetref7_page.env vmfleetref7_page.sp.args vmfleetref7_page.sp.res Go.Proofs.Try.f70 x = vmfleetref7_page.sp.f x := by kernel_rfl
theorem vmfleetref7_page.sound : Sound Try.prog 70 vmfleetref7_page.sp := Lift.sound (E := vmfleetref7_page.env) Try.func70 (by kernel_rfl) (env_ok TYS.ok mixed ⟨vmfleetref1_Pages.sound, trivial⟩ trivial) (by kernel_rfl) vmfleetref7_page.eq

/-! vmfleet/vmfleetref7.BalloonOut -/
noncomputable def vmfleetref7_BalloonOut.f (b : Int × Int) (m : List Int) (port : Int) (v : Int) : Option ((Int × Int) × List Int) :=
  (vmfleetref1_Copy.f m).bind fun r1 =>
  (bif decide (port = 10) then
    (vmfleetref7_page.f r1 v).bind fun r2 =>
    bif r2 then
      if 0 ≤ v then
        some (.inl (decide ((andI .u32 (shrI .u32 b.2 v) (1 : Int)) = 0)))
      else none
    else
      some (.inl false)
  else
    some (.inl false) : Option ((Bool) ⊕ ((Int × Int) × List Int))).bind fun o => match o with
  | .inl y1 =>
    bif y1 then
      if 0 ≤ v then
        (loop (Y := (Unit × List Int) ⊕ ((Int × Int) × List Int)) (fun (x2 : Int × List Int) =>
          bif decide (x2.1 < 32) then
            let v2 := IntKind.wrap .i64 ((IntKind.wrap .i64 v) * 32)
            if 0 ≤ (IntKind.wrap .i64 (v2 + x2.1)) ∧ (IntKind.wrap .i64 (v2 + x2.1)) < (x2.2.length : Int) then
              some (.inl (IntKind.wrap .i64 (x2.1 + 1), (put x2.2 (IntKind.wrap .i64 (v2 + x2.1)) (0 : Int))))
            else none
          else
            some (.inr (.inl ((), x2.2)))) ((0 : Int), r1)).bind fun o => match o with
        | .inl y3 =>
          some ((b.1, orI .u32 b.2 (shlI .u32 (1 : Int) v)), y3.2)
        | .inr r => some r
      else none
    else
      (bif decide (port = 11) then
        some (.inl (decide (v < 32)))
      else
        some (.inl false) : Option ((Bool) ⊕ ((Int × Int) × List Int))).bind fun o => match o with
      | .inl y4 =>
        bif y4 then
          if 0 ≤ v then
            some ((b.1, andNotI .u32 b.2 (shlI .u32 (1 : Int) v)), r1)
          else none
        else
          some (b, r1)
      | .inr r => some r
  | .inr r => some r
noncomputable def vmfleetref7_BalloonOut.sp : FSpec := ⟨[(.st (.pair (.int .u32) (.int .u32))), (.sl (.int .u32)), (.int .i64), (.int .u32)], [(.st (.pair (.int .u32) (.int .u32))), (.own (.int .u32))], fun x => vmfleetref7_BalloonOut.f x.1 x.2.1 x.2.2.1 x.2.2.2⟩
noncomputable def vmfleetref7_BalloonOut.env : Env := ⟨TYS, [(52, vmfleetref1_Copy.sp), (70, vmfleetref7_page.sp)], [(53, Go.Proofs.Try.f53)], [], [], [(53, ([(4, ⟨[1, 3, 4, 8], [⟨9, false, (.int .i64)⟩], [], 1, (some (1, (.int .u32)))⟩)], [(2, ⟨[1, 2, 3, 4, 8], [], [⟨10, false, .bool⟩], 0, none⟩), (8, ⟨[3, 4, 8], [], [⟨43, false, .bool⟩], 0, none⟩)]))]⟩
theorem vmfleetref7_BalloonOut.eq (x) : fnEval vmfleetref7_BalloonOut.env vmfleetref7_BalloonOut.sp.args vmfleetref7_BalloonOut.sp.res Go.Proofs.Try.f25 x = vmfleetref7_BalloonOut.sp.f x := by kernel_rfl
theorem vmfleetref7_BalloonOut.sound : Sound Try.prog 25 vmfleetref7_BalloonOut.sp := Lift.sound (E := vmfleetref7_BalloonOut.env) Try.func25 (by kernel_rfl) (env_ok TYS.ok mixed ⟨vmfleetref1_Copy.sound, vmfleetref7_page.sound, trivial⟩ ⟨inl_ok Try.func53 (by kernel_rfl), trivial⟩) (by kernel_rfl) vmfleetref7_BalloonOut.eq

/-! vmfleet/vmfleetref7.Given -/
noncomputable def vmfleetref7_Given.f (b : Int × Int) : Option Int :=
  (loop (Y := (Int) ⊕ (Int)) (fun (x1 : Int × Int) =>
    bif decide (x1.2 < 32) then
      if 0 ≤ (IntKind.wrap .u64 x1.2) then
        some (.inl ((IntKind.wrap .i64 (x1.1 + (IntKind.wrap .i64 (andI .u32 (shrI .u32 b.2 (IntKind.wrap .u64 x1.2)) (1 : Int))))), IntKind.wrap .i64 (x1.2 + 1)))
      else none
    else
      some (.inr (.inl x1.1))) ((0 : Int), (0 : Int))).bind fun o => match o with
  | .inl y2 =>
    some y2
  | .inr r => some r
noncomputable def vmfleetref7_Given.sp : FSpec := ⟨[(.st (.pair (.int .u32) (.int .u32)))], [(.int .i64)], fun x => vmfleetref7_Given.f x⟩
noncomputable def vmfleetref7_Given.env : Env := ⟨TYS, [], [], [(3, ⟨[1, 2], [⟨3, false, (.int .i64)⟩, ⟨4, false, (.int .i64)⟩], [⟨3, false, (.int .i64)⟩], 0, none⟩)], [], []⟩
theorem vmfleetref7_Given.eq (x) : fnEval vmfleetref7_Given.env vmfleetref7_Given.sp.args vmfleetref7_Given.sp.res Go.Proofs.Try.f28 x = vmfleetref7_Given.sp.f x := by kernel_rfl
theorem vmfleetref7_Given.sound : Sound Try.prog 28 vmfleetref7_Given.sp := Lift.sound (E := vmfleetref7_Given.env) Try.func28 (by kernel_rfl) (env_ok TYS.ok mixed trivial trivial) (by kernel_rfl) vmfleetref7_Given.eq

/-! vmfleet/vmfleetref7.BalloonIn -/
noncomputable def vmfleetref7_BalloonIn.f (b : Int × Int) (port : Int) : Option Int :=
  bif decide (port = 10) then
    some b.1
  else
    bif decide (port = 11) then
      (vmfleetref7_Given.f b).bind fun r1 =>
      some (IntKind.wrap .u32 r1)
    else
      some (0 : Int)
noncomputable def vmfleetref7_BalloonIn.sp : FSpec := ⟨[(.st (.pair (.int .u32) (.int .u32))), (.int .i64)], [(.int .u32)], fun x => vmfleetref7_BalloonIn.f x.1 x.2⟩
noncomputable def vmfleetref7_BalloonIn.env : Env := ⟨TYS, [(28, vmfleetref7_Given.sp)], [], [], [], []⟩
theorem vmfleetref7_BalloonIn.eq (x) : fnEval vmfleetref7_BalloonIn.env vmfleetref7_BalloonIn.sp.args vmfleetref7_BalloonIn.sp.res Go.Proofs.Try.f27 x = vmfleetref7_BalloonIn.sp.f x := by kernel_rfl
theorem vmfleetref7_BalloonIn.sound : Sound Try.prog 27 vmfleetref7_BalloonIn.sp := Lift.sound (E := vmfleetref7_BalloonIn.env) Try.func27 (by kernel_rfl) (env_ok TYS.ok mixed ⟨vmfleetref7_Given.sound, trivial⟩ trivial) (by kernel_rfl) vmfleetref7_BalloonIn.eq

/-! vmfleet/vmfleetref7.BalloonPending -/
noncomputable def vmfleetref7_BalloonPending.f (b : Int × Int) : Option Bool :=
  (vmfleetref7_Given.f b).bind fun r1 =>
  some (!decide ((IntKind.wrap .u64 r1) = (IntKind.wrap .u64 b.1)))
noncomputable def vmfleetref7_BalloonPending.sp : FSpec := ⟨[(.st (.pair (.int .u32) (.int .u32)))], [.bool], fun x => vmfleetref7_BalloonPending.f x⟩
noncomputable def vmfleetref7_BalloonPending.env : Env := ⟨TYS, [(28, vmfleetref7_Given.sp)], [], [], [], []⟩
theorem vmfleetref7_BalloonPending.eq (x) : fnEval vmfleetref7_BalloonPending.env vmfleetref7_BalloonPending.sp.args vmfleetref7_BalloonPending.sp.res Go.Proofs.Try.f29 x = vmfleetref7_BalloonPending.sp.f x := by kernel_rfl
theorem vmfleetref7_BalloonPending.sound : Sound Try.prog 29 vmfleetref7_BalloonPending.sp := Lift.sound (E := vmfleetref7_BalloonPending.env) Try.func29 (by kernel_rfl) (env_ok TYS.ok mixed ⟨vmfleetref7_Given.sound, trivial⟩ trivial) (by kernel_rfl) vmfleetref7_BalloonPending.eq

/-! vmfleet/vmfleetref7.BalloonMay -/
noncomputable def vmfleetref7_BalloonMay.f (b : Int × Int) (pages : Int) : Option Bool :=
  (loop (Y := (Unit) ⊕ (Bool)) (fun (x1 : Int) =>
    bif decide (x1 < 32) then
      if 0 ≤ (IntKind.wrap .u64 x1) then
        bif decide ((andI .u32 (shrI .u32 b.2 (IntKind.wrap .u64 x1)) (1 : Int)) = 1) then
          bif decide (x1 ≥ pages) then
            some (.inr (.inr false))
          else
            some (.inl (IntKind.wrap .i64 (x1 + 1)))
        else
          some (.inl (IntKind.wrap .i64 (x1 + 1)))
      else none
    else
      some (.inr (.inl ()))) (0 : Int)).bind fun o => match o with
  | .inl y2 =>
    some true
  | .inr r => some r
noncomputable def vmfleetref7_BalloonMay.sp : FSpec := ⟨[(.st (.pair (.int .u32) (.int .u32))), (.int .i64)], [.bool], fun x => vmfleetref7_BalloonMay.f x.1 x.2⟩
noncomputable def vmfleetref7_BalloonMay.env : Env := ⟨TYS, [], [], [(2, ⟨[1, 2], [⟨5, false, (.int .i64)⟩], [], 0, none⟩)], [], []⟩
theorem vmfleetref7_BalloonMay.eq (x) : fnEval vmfleetref7_BalloonMay.env vmfleetref7_BalloonMay.sp.args vmfleetref7_BalloonMay.sp.res Go.Proofs.Try.f30 x = vmfleetref7_BalloonMay.sp.f x := by kernel_rfl
theorem vmfleetref7_BalloonMay.sound : Sound Try.prog 30 vmfleetref7_BalloonMay.sp := Lift.sound (E := vmfleetref7_BalloonMay.env) Try.func30 (by kernel_rfl) (env_ok TYS.ok mixed trivial trivial) (by kernel_rfl) vmfleetref7_BalloonMay.eq

/-! vmfleet/vmfleetlaw11.BalloonTells -/
noncomputable def vmfleetlaw11_BalloonTells.f (b : Int × Int) (n : Int) (pages : Int) (port : Int) (v : Int) (small : Bool) : Option Bool :=
  (vmfleetlaw11_words.f n pages).bind fun r1 =>
  (bif small then
    (vmfleetmake_Round.f port (4 : Int)).bind fun r2 =>
    some (.inl (IntKind.wrap .i64 (9 + r2), Int.tmod v (34 : Int), b.1, andI .u32 b.2 (255 : Int)))
  else
    some (.inl (port, v, b)) : Option ((Int × Int × Int × Int) ⊕ (Bool))).bind fun o => match o with
  | .inl y1 =>
    (balloon_Out.f y1.2.2 r1 y1.1 y1.2.1).bind fun r3 =>
    (vmfleetref7_BalloonOut.f y1.2.2 r1 y1.1 y1.2.1).bind fun r4 =>
    bif decide (r3.1 = r4.1) then
      (vmfleetref1_SameWords.f r3.2 r4.2).bind fun r5 =>
      bif r5 then
        (balloon_In.f y1.2.2 y1.1).bind fun r6 =>
        (vmfleetref7_BalloonIn.f y1.2.2 y1.1).bind fun r7 =>
        bif decide (r6 = r7) then
          (balloon_Count.f y1.2.2).bind fun r8 =>
          (vmfleetref7_Given.f y1.2.2).bind fun r9 =>
          bif decide (r8 = r9) then
            (balloon_Pending.f y1.2.2).bind fun r10 =>
            (vmfleetref7_BalloonPending.f y1.2.2).bind fun r11 =>
            bif r10 == r11 then
              (balloon_May.f y1.2.2 pages).bind fun r12 =>
              (vmfleetref7_BalloonMay.f y1.2.2 pages).bind fun r13 =>
              bif r12 == r13 then
                (vmfleetlaw11_awake.f).bind fun r14 =>
                some r14
              else
                some false
            else
              some false
          else
            some false
        else
          some false
      else
        some false
    else
      some false
  | .inr r => some r
noncomputable def vmfleetlaw11_BalloonTells.sp : FSpec := ⟨[(.st (.pair (.int .u32) (.int .u32))), (.int .i64), (.int .i64), (.int .i64), (.int .u32), .bool], [.bool], fun x => vmfleetlaw11_BalloonTells.f x.1 x.2.1 x.2.2.1 x.2.2.2.1 x.2.2.2.2.1 x.2.2.2.2.2⟩
noncomputable def vmfleetlaw11_BalloonTells.env : Env := ⟨TYS, [(14, vmfleetlaw11_awake.sp), (15, vmfleetlaw11_words.sp), (17, vmfleetmake_Round.sp), (18, balloon_Out.sp), (21, balloon_Count.sp), (22, balloon_May.sp), (23, balloon_Pending.sp), (24, balloon_In.sp), (25, vmfleetref7_BalloonOut.sp), (26, vmfleetref1_SameWords.sp), (27, vmfleetref7_BalloonIn.sp), (28, vmfleetref7_Given.sp), (29, vmfleetref7_BalloonPending.sp), (30, vmfleetref7_BalloonMay.sp)], [], [], [(4, ⟨[2, 12, 13], [⟨6, true, (.st (.pair (.int .u32) (.int .u32)))⟩], [⟨3, false, (.int .i64)⟩, ⟨4, false, (.int .u32)⟩, ⟨6, true, (.st (.pair (.int .u32) (.int .u32)))⟩], 0, none⟩)], []⟩
theorem vmfleetlaw11_BalloonTells.eq (x) : fnEval vmfleetlaw11_BalloonTells.env vmfleetlaw11_BalloonTells.sp.args vmfleetlaw11_BalloonTells.sp.res Go.Proofs.Try.f5 x = vmfleetlaw11_BalloonTells.sp.f x := by kernel_rfl
theorem vmfleetlaw11_BalloonTells.sound : Sound Try.prog 5 vmfleetlaw11_BalloonTells.sp := Lift.sound (E := vmfleetlaw11_BalloonTells.env) Try.func5 (by kernel_rfl) (env_ok TYS.ok mixed ⟨vmfleetlaw11_awake.sound, vmfleetlaw11_words.sound, vmfleetmake_Round.sound, balloon_Out.sound, balloon_Count.sound, balloon_May.sound, balloon_Pending.sound, balloon_In.sound, vmfleetref7_BalloonOut.sound, vmfleetref1_SameWords.sound, vmfleetref7_BalloonIn.sound, vmfleetref7_Given.sound, vmfleetref7_BalloonPending.sound, vmfleetref7_BalloonMay.sound, trivial⟩ trivial) (by kernel_rfl) vmfleetlaw11_BalloonTells.eq

/-! slices.Clone[[]vmfleet/api.Output,vmfleet/api.Output] -/
noncomputable def slices_Clone_api_Output_api_Output.f (s : List (Int × Int × Int × ByteArray)) : Option (List (Int × Int × Int × ByteArray)) :=
  bif s.isEmpty then
    both
      (some [])
      (if (([] : List (Int × Int × Int × ByteArray)).length + s.length) * 40 ≤ 70368744177664 then
        some (([] : List (Int × Int × Int × ByteArray)) ++ s)
      else none)
  else
    if (([] : List (Int × Int × Int × ByteArray)).length + s.length) * 40 ≤ 70368744177664 then
      some (([] : List (Int × Int × Int × ByteArray)) ++ s)
    else none
noncomputable def slices_Clone_api_Output_api_Output.sp : FSpec := ⟨[(.sl (.st (.pair (.int .i64) (.pair (.int .u64) (.pair (.int .u32) .str)))))], [(.own (.st (.pair (.int .i64) (.pair (.int .u64) (.pair (.int .u32) .str)))))], fun x => slices_Clone_api_Output_api_Output.f x⟩
noncomputable def slices_Clone_api_Output_api_Output.env : Env := ⟨TYS, [], [], [], [], []⟩
theorem slices_Clone_api_Output_api_Output.eq (x) : fnEval slices_Clone_api_Output_api_Output.env slices_Clone_api_Output_api_Output.sp.args slices_Clone_api_Output_api_Output.sp.res Go.Proofs.Try.f59 x = slices_Clone_api_Output_api_Output.sp.f x := by kernel_rfl
theorem slices_Clone_api_Output_api_Output.sound : Sound Try.prog 59 slices_Clone_api_Output_api_Output.sp := Lift.sound (E := slices_Clone_api_Output_api_Output.env) Try.func59 (by kernel_rfl) (env_ok TYS.ok mixed trivial trivial) (by kernel_rfl) slices_Clone_api_Output_api_Output.eq

/-! vmfleet/copies.Gate -/
noncomputable def copies_Gate.f (g : (List (Int × Int × Int × ByteArray)) × Int × Int) : Option ((List (Int × Int × Int × ByteArray)) × Int × Int) :=
  (slices_Clone_api_Output_api_Output.f g.1).bind fun r1 =>
  some (r1, g.2)
noncomputable def copies_Gate.sp : FSpec := ⟨[(.st (.pair (.sl (.st (.pair (.int .i64) (.pair (.int .u64) (.pair (.int .u32) .str))))) (.pair (.int .u64) (.int .u64))))], [(.st (.pair (.own (.st (.pair (.int .i64) (.pair (.int .u64) (.pair (.int .u32) .str))))) (.pair (.int .u64) (.int .u64))))], fun x => copies_Gate.f x⟩
noncomputable def copies_Gate.env : Env := ⟨TYS, [(59, slices_Clone_api_Output_api_Output.sp)], [], [], [], []⟩
theorem copies_Gate.eq (x) : fnEval copies_Gate.env copies_Gate.sp.args copies_Gate.sp.res Go.Proofs.Try.f55 x = copies_Gate.sp.f x := by kernel_rfl
theorem copies_Gate.sound : Sound Try.prog 55 copies_Gate.sp := Lift.sound (E := copies_Gate.env) Try.func55 (by kernel_rfl) (env_ok TYS.ok mixed ⟨slices_Clone_api_Output_api_Output.sound, trivial⟩ trivial) (by kernel_rfl) copies_Gate.eq

/-! vmfleet/commit.holdable -/
noncomputable def commit_holdable.f (o_ : Int × Int × Int × ByteArray) : Option Bool :=
  bif decide (o_.1 = 1) then
    bif decide ((o_.2.2.2.size : Int) = 1) then
      some (decide (o_.2.2.1 = 0))
    else
      some false
  else
    bif decide (o_.1 = 2) then
      bif decide ((o_.2.2.2.size : Int) ≤ 128) then
        some (decide (o_.2.2.1 = 0))
      else
        some false
    else
      some false
noncomputable def commit_holdable.sp : FSpec := ⟨[(.st (.pair (.int .i64) (.pair (.int .u64) (.pair (.int .u32) .str))))], [.bool], fun x => commit_holdable.f x⟩
noncomputable def commit_holdable.env : Env := ⟨TYS, [], [], [], [], []⟩
theorem commit_holdable.eq (x) : fnEval commit_holdable.env commit_holdable.sp.args commit_holdable.sp.res Go.Proofs.Try.f71 x = commit_holdable.sp.f x := by kernel_rfl
theorem commit_holdable.sound : Sound Try.prog 71 commit_holdable.sp := Lift.sound (E := commit_holdable.env) Try.func71 (by kernel_rfl) (env_ok TYS.ok mixed trivial trivial) (by kernel_rfl) commit_holdable.eq

/-! vmfleet/commit.Valid -/
noncomputable def commit_Valid.f (g : (List (Int × Int × Int × ByteArray)) × Int × Int) : Option Bool :=
  (loop (Y := (Unit) ⊕ (Bool)) (fun (x1 : Int × Int) =>
    bif decide (x1.2 < (g.1.length : Int)) then
      if 0 ≤ x1.2 ∧ x1.2 < (g.1.length : Int) then
        (commit_holdable.f ((nth ((0 : Int), (0 : Int), (0 : Int), (⟨#[]⟩ : ByteArray)) g.1 x1.2).1, ((nth ((0 : Int), (0 : Int), (0 : Int), (⟨#[]⟩ : ByteArray)) g.1 x1.2).2).1, (((nth ((0 : Int), (0 : Int), (0 : Int), (⟨#[]⟩ : ByteArray)) g.1 x1.2).2).2))).bind fun r1 =>
        bif !r1 then
          some (.inr (.inr false))
        else
          bif (decide ((((nth ((0 : Int), (0 : Int), (0 : Int), (⟨#[]⟩ : ByteArray)) g.1 x1.2).2).1) < x1.1)) then
            some (.inr (.inr false))
          else
            some (.inl (((nth ((0 : Int), (0 : Int), (0 : Int), (⟨#[]⟩ : ByteArray)) g.1 x1.2).2).1, IntKind.wrap .i64 (x1.2 + 1)))
      else none
    else
      some (.inr (.inl ()))) (g.2.1, (0 : Int))).bind fun o => match o with
  | .inl y2 =>
    some true
  | .inr r => some r
noncomputable def commit_Valid.sp : FSpec := ⟨[(.st (.pair (.sl (.st (.pair (.int .i64) (.pair (.int .u64) (.pair (.int .u32) .str))))) (.pair (.int .u64) (.int .u64))))], [.bool], fun x => commit_Valid.f x⟩
noncomputable def commit_Valid.env : Env := ⟨TYS, [(71, commit_holdable.sp)], [], [(3, ⟨[9, 10], [⟨3, false, (.int .u64)⟩, ⟨11, false, (.int .i64)⟩], [], 0, none⟩)], [], []⟩
theorem commit_Valid.eq (x) : fnEval commit_Valid.env commit_Valid.sp.args commit_Valid.sp.res Go.Proofs.Try.f56 x = commit_Valid.sp.f x := by kernel_rfl
theorem commit_Valid.sound : Sound Try.prog 56 commit_Valid.sp := Lift.sound (E := commit_Valid.env) Try.func56 (by kernel_rfl) (env_ok TYS.ok mixed ⟨commit_holdable.sound, trivial⟩ trivial) (by kernel_rfl) commit_Valid.eq

/-! vmfleet/commit.Hold -/
noncomputable def commit_Hold.f (g : (List (Int × Int × Int × ByteArray)) × Int × Int) (l : List (Int × Int × Int × ByteArray)) : Option (((List (Int × Int × Int × ByteArray)) × Int × Int) × Bool) :=
  (copies_Gate.f g).bind fun r1 =>
  (commit_Valid.f r1).bind fun r2 =>
  bif !r2 then
    some (r1, false)
  else
    (copies_Gate.f r1).bind fun r3 =>
    (loop (Y := ((List (Int × Int × Int × ByteArray)) × Int × Int) ⊕ (((List (Int × Int × Int × ByteArray)) × Int × Int) × Bool)) (fun (x1 : ((List (Int × Int × Int × ByteArray)) × Int × Int) × Int) =>
      bif decide (x1.2 < (l.length : Int)) then
        if 0 ≤ x1.2 ∧ x1.2 < (l.length : Int) then
          (bif !decide (((nth ((0 : Int), (0 : Int), (0 : Int), (⟨#[]⟩ : ByteArray)) l x1.2).1) = 1) then
            some (.inl (!decide (((nth ((0 : Int), (0 : Int), (0 : Int), (⟨#[]⟩ : ByteArray)) l x1.2).1) = 2)))
          else
            some (.inl false) : Option ((Bool) ⊕ ((((List (Int × Int × Int × ByteArray)) × Int × Int) × Int) ⊕ (((List (Int × Int × Int × ByteArray)) × Int × Int) ⊕ (((List (Int × Int × Int × ByteArray)) × Int × Int) × Bool))))).bind fun o => match o with
          | .inl y2 =>
            bif y2 then
              some (.inl (x1.1, IntKind.wrap .i64 (x1.2 + 1)))
            else
              bif decide ((((nth ((0 : Int), (0 : Int), (0 : Int), (⟨#[]⟩ : ByteArray)) l x1.2).2).1) ≥ x1.1.2.1) then
                if (x1.1.1.length + ([((nth ((0 : Int), (0 : Int), (0 : Int), (⟨#[]⟩ : ByteArray)) l x1.2).1, ((nth ((0 : Int), (0 : Int), (0 : Int), (⟨#[]⟩ : ByteArray)) l x1.2).2).1, (((nth ((0 : Int), (0 : Int), (0 : Int), (⟨#[]⟩ : ByteArray)) l x1.2).2).2))] : List (Int × Int × Int × ByteArray)).length) * 40 ≤ 70368744177664 then
                  some (.inl (((x1.1.1 ++ ([((nth ((0 : Int), (0 : Int), (0 : Int), (⟨#[]⟩ : ByteArray)) l x1.2).1, ((nth ((0 : Int), (0 : Int), (0 : Int), (⟨#[]⟩ : ByteArray)) l x1.2).2).1, (((nth ((0 : Int), (0 : Int), (0 : Int), (⟨#[]⟩ : ByteArray)) l x1.2).2).2))] : List (Int × Int × Int × ByteArray))), x1.1.2), IntKind.wrap .i64 (x1.2 + 1)))
                else none
              else
                bif decide (((nth ((0 : Int), (0 : Int), (0 : Int), (⟨#[]⟩ : ByteArray)) l x1.2).1) = 1) then
                  some (.inl ((x1.1.1, x1.1.2.1, IntKind.wrap .u64 (x1.1.2.2 + 1)), IntKind.wrap .i64 (x1.2 + 1)))
                else
                  some (.inl (x1.1, IntKind.wrap .i64 (x1.2 + 1)))
          | .inr r => some r
        else none
      else
        some (.inr (.inl x1.1))) (r3, (0 : Int))).bind fun o => match o with
    | .inl y3 =>
      (commit_Valid.f y3).bind fun r4 =>
      bif !r4 then
        some (r1, false)
      else
        some (y3, true)
    | .inr r => some r
noncomputable def commit_Hold.sp : FSpec := ⟨[(.st (.pair (.sl (.st (.pair (.int .i64) (.pair (.int .u64) (.pair (.int .u32) .str))))) (.pair (.int .u64) (.int .u64)))), (.sl (.st (.pair (.int .i64) (.pair (.int .u64) (.pair (.int .u32) .str)))))], [(.st (.pair (.own (.st (.pair (.int .i64) (.pair (.int .u64) (.pair (.int .u32) .str))))) (.pair (.int .u64) (.int .u64)))), .bool], fun x => commit_Hold.f x.1 x.2⟩
noncomputable def commit_Hold.env : Env := ⟨TYS, [(55, copies_Gate.sp), (56, commit_Valid.sp)], [], [(6, ⟨[2, 4, 5, 17, 18], [⟨6, true, (.st (.pair (.own (.st (.pair (.int .i64) (.pair (.int .u64) (.pair (.int .u32) .str))))) (.pair (.int .u64) (.int .u64))))⟩, ⟨19, false, (.int .i64)⟩], [⟨6, true, (.st (.pair (.own (.st (.pair (.int .i64) (.pair (.int .u64) (.pair (.int .u32) .str))))) (.pair (.int .u64) (.int .u64))))⟩], 0, none⟩)], [(9, ⟨[6, 8, 19], [], [⟨23, false, .bool⟩], 0, none⟩)], []⟩
theorem commit_Hold.eq (x) : fnEval commit_Hold.env commit_Hold.sp.args commit_Hold.sp.res Go.Proofs.Try.f33 x = commit_Hold.sp.f x := by kernel_rfl
theorem commit_Hold.sound : Sound Try.prog 33 commit_Hold.sp := Lift.sound (E := commit_Hold.env) Try.func33 (by kernel_rfl) (env_ok TYS.ok mixed ⟨copies_Gate.sound, commit_Valid.sound, trivial⟩ trivial) (by kernel_rfl) commit_Hold.eq

/-! vmfleet/commit.Release -/
noncomputable def commit_Release.f (g : (List (Int × Int × Int × ByteArray)) × Int × Int) (acked : Int) : Option (((List (Int × Int × Int × ByteArray)) × Int × Int) × List ((Int × Int × Int × ByteArray) × Int)) :=
  (copies_Gate.f g).bind fun r1 =>
  (commit_Valid.f r1).bind fun r2 =>
  bif !r2 then
    some (r1, [])
  else
    bif decide (acked ≤ r1.2.1) then
      some (r1, [])
    else
      ((loop (Y := (Unit) ⊕ ((Int) ⊕ (((List (Int × Int × Int × ByteArray)) × Int × Int) × List ((Int × Int × Int × ByteArray) × Int)))) (fun (x1 : Int) =>
        bif decide (x1 < (r1.1.length : Int)) then
          if 0 ≤ x1 ∧ x1 < (r1.1.length : Int) then
            bif decide ((((nth ((0 : Int), (0 : Int), (0 : Int), (⟨#[]⟩ : ByteArray)) r1.1 x1).2).1) ≥ acked) then
              some (.inr (.inr (.inl x1)))
            else
              some (.inl (IntKind.wrap .i64 (x1 + 1)))
          else none
        else
          some (.inr (.inl ()))) (0 : Int)).bind fun o => match o with
      | .inl y2 =>
        some (.inl (-1 : Int))
      | .inr r => some r : Option ((Int) ⊕ (((List (Int × Int × Int × ByteArray)) × Int × Int) × List ((Int × Int × Int × ByteArray) × Int)))).bind fun o => match o with
      | .inl y3 =>
        (bif decide (y3 < 0) then
          some (.inl (r1.1.length : Int))
        else
          some (.inl y3) : Option ((Int) ⊕ (((List (Int × Int × Int × ByteArray)) × Int × Int) × List ((Int × Int × Int × ByteArray) × Int)))).bind fun o => match o with
        | .inl y4 =>
          if 0 ≤ y4 ∧ y4 ≤ (r1.1.length : Int) then
            (loop (Y := (((List (Int × Int × Int × ByteArray)) × Int × Int) × List ((Int × Int × Int × ByteArray) × Int)) ⊕ (((List (Int × Int × Int × ByteArray)) × Int × Int) × List ((Int × Int × Int × ByteArray) × Int))) (fun (x5 : ((List (Int × Int × Int × ByteArray)) × Int × Int) × (List ((Int × Int × Int × ByteArray) × Int)) × (List (Int × Int × Int × ByteArray)) × Int) =>
              bif decide (x5.2.2.2 < (y4 - (0 : Int))) then
                if 0 ≤ x5.2.2.2 ∧ x5.2.2.2 < (x5.2.2.1.length : Int) then
                  (bif decide (((nth ((0 : Int), (0 : Int), (0 : Int), (⟨#[]⟩ : ByteArray)) x5.2.2.1 x5.2.2.2).1) = 1) then
                    some (.inl ((x5.1.1, x5.1.2.1, IntKind.wrap .u64 (x5.1.2.2 + 1)), ((nth ((0 : Int), (0 : Int), (0 : Int), (⟨#[]⟩ : ByteArray)) x5.2.2.1 x5.2.2.2).1, ((nth ((0 : Int), (0 : Int), (0 : Int), (⟨#[]⟩ : ByteArray)) x5.2.2.1 x5.2.2.2).2).1, (((nth ((0 : Int), (0 : Int), (0 : Int), (⟨#[]⟩ : ByteArray)) x5.2.2.1 x5.2.2.2).2).2)), x5.1.2.2))
                  else
                    some (.inl (x5.1, ((nth ((0 : Int), (0 : Int), (0 : Int), (⟨#[]⟩ : ByteArray)) x5.2.2.1 x5.2.2.2).1, ((nth ((0 : Int), (0 : Int), (0 : Int), (⟨#[]⟩ : ByteArray)) x5.2.2.1 x5.2.2.2).2).1, (((nth ((0 : Int), (0 : Int), (0 : Int), (⟨#[]⟩ : ByteArray)) x5.2.2.1 x5.2.2.2).2).2)), (0 : Int))) : Option ((((List (Int × Int × Int × ByteArray)) × Int × Int) × (Int × Int × Int × ByteArray) × Int) ⊕ ((((List (Int × Int × Int × ByteArray)) × Int × Int) × (List ((Int × Int × Int × ByteArray) × Int)) × (List (Int × Int × Int × ByteArray)) × Int) ⊕ ((((List (Int × Int × Int × ByteArray)) × Int × Int) × List ((Int × Int × Int × ByteArray) × Int)) ⊕ (((List (Int × Int × Int × ByteArray)) × Int × Int) × List ((Int × Int × Int × ByteArray) × Int)))))).bind fun o => match o with
                  | .inl y6 =>
                    if (x5.2.1.length + ([y6.2] : List ((Int × Int × Int × ByteArray) × Int)).length) * 48 ≤ 70368744177664 then
                      some (.inl (y6.1, (x5.2.1 ++ ([y6.2] : List ((Int × Int × Int × ByteArray) × Int))), x5.2.2.1, IntKind.wrap .i64 (x5.2.2.2 + 1)))
                    else none
                  | .inr r => some r
                else none
              else
                some (.inr (.inl (x5.1, x5.2.1)))) ((r1.1, acked, r1.2.2), [], slc r1.1 (0 : Int) y4, (0 : Int))).bind fun o => match o with
            | .inl y7 =>
              if 0 ≤ y4 ∧ y4 ≤ (y7.1.1.length : Int) then
                (slices_Clone_api_Output_api_Output.f (slc y7.1.1 y4 (y7.1.1.length : Int))).bind fun r3 =>
                some ((r3, y7.1.2), y7.2)
              else none
            | .inr r => some r
          else none
        | .inr r => some r
      | .inr r => some r
noncomputable def commit_Release.sp : FSpec := ⟨[(.st (.pair (.sl (.st (.pair (.int .i64) (.pair (.int .u64) (.pair (.int .u32) .str))))) (.pair (.int .u64) (.int .u64)))), (.int .u64)], [(.st (.pair (.own (.st (.pair (.int .i64) (.pair (.int .u64) (.pair (.int .u32) .str))))) (.pair (.int .u64) (.int .u64)))), (.own (.st (.pair (.st (.pair (.int .i64) (.pair (.int .u64) (.pair (.int .u32) .str)))) (.int .u64))))], fun x => commit_Release.f x.1 x.2⟩
noncomputable def commit_Release.env : Env := ⟨TYS, [(55, copies_Gate.sp), (56, commit_Valid.sp), (59, slices_Clone_api_Output_api_Output.sp)], [(57, Go.Proofs.Try.f57), (58, Go.Proofs.Try.f58)], [(10, ⟨[4, 5, 6, 38], [⟨2, true, (.st (.pair (.sl (.st (.pair (.int .i64) (.pair (.int .u64) (.pair (.int .u32) .str))))) (.pair (.int .u64) (.int .u64))))⟩, ⟨7, false, (.own (.st (.pair (.st (.pair (.int .i64) (.pair (.int .u64) (.pair (.int .u32) .str)))) (.int .u64))))⟩, ⟨37, false, (.sl (.st (.pair (.int .i64) (.pair (.int .u64) (.pair (.int .u32) .str)))))⟩, ⟨39, false, (.int .i64)⟩], [⟨2, true, (.st (.pair (.sl (.st (.pair (.int .i64) (.pair (.int .u64) (.pair (.int .u32) .str))))) (.pair (.int .u64) (.int .u64))))⟩, ⟨7, false, (.own (.st (.pair (.st (.pair (.int .i64) (.pair (.int .u64) (.pair (.int .u32) .str)))) (.int .u64))))⟩], 0, none⟩)], [(6, ⟨[2, 4, 5], [], [⟨6, false, (.int .i64)⟩], 0, none⟩), (8, ⟨[2, 4, 5], [], [⟨6, false, (.int .i64)⟩], 0, none⟩), (16, ⟨[7, 37, 39], [⟨10, true, (.st (.pair (.st (.pair (.int .i64) (.pair (.int .u64) (.pair (.int .u32) .str)))) (.int .u64)))⟩, ⟨2, true, (.st (.pair (.sl (.st (.pair (.int .i64) (.pair (.int .u64) (.pair (.int .u32) .str))))) (.pair (.int .u64) (.int .u64))))⟩], [⟨2, true, (.st (.pair (.sl (.st (.pair (.int .i64) (.pair (.int .u64) (.pair (.int .u32) .str))))) (.pair (.int .u64) (.int .u64))))⟩, ⟨10, true, (.st (.pair (.st (.pair (.int .i64) (.pair (.int .u64) (.pair (.int .u32) .str)))) (.int .u64)))⟩], 0, none⟩)], [(57, ([(2, ⟨[0, 1, 6, 7], [⟨8, false, (.int .i64)⟩], [], 0, none⟩)], [])), (58, ([], []))]⟩
theorem commit_Release.eq (x) : fnEval commit_Release.env commit_Release.sp.args commit_Release.sp.res Go.Proofs.Try.f34 x = commit_Release.sp.f x := by kernel_rfl
theorem commit_Release.sound : Sound Try.prog 34 commit_Release.sp := Lift.sound (E := commit_Release.env) Try.func34 (by kernel_rfl) (env_ok TYS.ok mixed ⟨copies_Gate.sound, commit_Valid.sound, slices_Clone_api_Output_api_Output.sound, trivial⟩ ⟨inl_ok Try.func57 (by kernel_rfl), inl_ok Try.func58 (by kernel_rfl), trivial⟩) (by kernel_rfl) commit_Release.eq

/-! slices.Clone[[]string,string] -/
noncomputable def slices_Clone_string_string.f (s : List ByteArray) : Option (List ByteArray) :=
  bif s.isEmpty then
    both
      (some [])
      (if (([] : List ByteArray).length + s.length) * 16 ≤ 70368744177664 then
        some (([] : List ByteArray) ++ s)
      else none)
  else
    if (([] : List ByteArray).length + s.length) * 16 ≤ 70368744177664 then
      some (([] : List ByteArray) ++ s)
    else none
noncomputable def slices_Clone_string_string.sp : FSpec := ⟨[(.sl .str)], [(.own .str)], fun x => slices_Clone_string_string.f x⟩
noncomputable def slices_Clone_string_string.env : Env := ⟨TYS, [], [], [], [], []⟩
theorem slices_Clone_string_string.eq (x) : fnEval slices_Clone_string_string.env slices_Clone_string_string.sp.args slices_Clone_string_string.sp.res Go.Proofs.Try.f60 x = slices_Clone_string_string.sp.f x := by kernel_rfl
theorem slices_Clone_string_string.sound : Sound Try.prog 60 slices_Clone_string_string.sp := Lift.sound (E := slices_Clone_string_string.env) Try.func60 (by kernel_rfl) (env_ok TYS.ok mixed trivial trivial) (by kernel_rfl) slices_Clone_string_string.eq

/-! vmfleet/commit.Show -/
noncomputable def commit_Show.f (o_ : ByteArray × List ByteArray) (r_ : (Int × Int × Int × ByteArray) × Int) : Option ((ByteArray × List ByteArray) × Bool) :=
  (slices_Clone_string_string.f o_.2).bind fun r1 =>
  bif decide (r_.1.1 = 2) then
    if (r1.length + ([r_.1.2.2.2] : List ByteArray).length) * 16 ≤ 70368744177664 then
      some ((o_.1, r1 ++ ([r_.1.2.2.2] : List ByteArray)), true)
    else none
  else
    bif decide (r_.1.1 = 1) then
      (bif !decide ((r_.1.2.2.2.size : Int) = 1) then
        some (.inl true)
      else
        some (.inl (decide (r_.2 > (IntKind.wrap .u64 (o_.1.size : Int))))) : Option ((Bool) ⊕ ((ByteArray × List ByteArray) × Bool))).bind fun o => match o with
      | .inl y1 =>
        bif y1 then
          some ((o_.1, r1), false)
        else
          bif decide (r_.2 < (IntKind.wrap .u64 (o_.1.size : Int))) then
            if 0 ≤ r_.2 ∧ r_.2 < (o_.1.size : Int) then
              if 0 ≤ (0 : Int) ∧ (0 : Int) < (r_.1.2.2.2.size : Int) then
                some ((o_.1, r1), decide ((bt o_.1 r_.2) = (bt r_.1.2.2.2 (0 : Int))))
              else none
            else none
          else
            if o_.1.size + r_.1.2.2.2.size ≤ 9223372036854775807 then
              some ((o_.1 ++ r_.1.2.2.2, r1), true)
            else none
      | .inr r => some r
    else
      some ((o_.1, r1), false)
noncomputable def commit_Show.sp : FSpec := ⟨[(.st (.pair .str (.sl .str))), (.st (.pair (.st (.pair (.int .i64) (.pair (.int .u64) (.pair (.int .u32) .str)))) (.int .u64)))], [(.st (.pair .str (.own .str))), .bool], fun x => commit_Show.f x.1 x.2⟩
noncomputable def commit_Show.env : Env := ⟨TYS, [(60, slices_Clone_string_string.sp)], [], [], [(10, ⟨[2, 3, 4, 5, 6, 7], [], [⟨33, false, .bool⟩], 0, none⟩)], []⟩
theorem commit_Show.eq (x) : fnEval commit_Show.env commit_Show.sp.args commit_Show.sp.res Go.Proofs.Try.f38 x = commit_Show.sp.f x := by kernel_rfl
theorem commit_Show.sound : Sound Try.prog 38 commit_Show.sp := Lift.sound (E := commit_Show.env) Try.func38 (by kernel_rfl) (env_ok TYS.ok mixed ⟨slices_Clone_string_string.sound, trivial⟩ trivial) (by kernel_rfl) commit_Show.eq

/-! vmfleet/vmfleetlaw25.awake -/
noncomputable def vmfleetlaw25_awake.f  : Option Bool :=
  (commit_Hold.f ([], (0 : Int), (0 : Int)) ([((1 : Int), (3 : Int), (0 : Int), (⟨#[97]⟩ : ByteArray)), ((1 : Int), (5 : Int), (0 : Int), (⟨#[98]⟩ : ByteArray))] : List (Int × Int × Int × ByteArray))).bind fun r1 =>
  (commit_Release.f r1.1 (4 : Int)).bind fun r2 =>
  (commit_Release.f r2.1 (9 : Int)).bind fun r3 =>
  bif !r1.2 then
    some false
  else
    bif !decide ((r2.2.length : Int) = 1) then
      some false
    else
      bif !decide ((r3.2.length : Int) = 1) then
        some false
      else
        if 0 ≤ (0 : Int) ∧ (0 : Int) < (r2.2.length : Int) then
          (commit_Show.f ((⟨#[]⟩ : ByteArray), []) ((((nth (((0 : Int), (0 : Int), (0 : Int), (⟨#[]⟩ : ByteArray)), (0 : Int)) r2.2 (0 : Int)).1).1, (((nth (((0 : Int), (0 : Int), (0 : Int), (⟨#[]⟩ : ByteArray)), (0 : Int)) r2.2 (0 : Int)).1).2).1, ((((nth (((0 : Int), (0 : Int), (0 : Int), (⟨#[]⟩ : ByteArray)), (0 : Int)) r2.2 (0 : Int)).1).2).2)), (nth (((0 : Int), (0 : Int), (0 : Int), (⟨#[]⟩ : ByteArray)), (0 : Int)) r2.2 (0 : Int)).2)).bind fun r4 =>
          if 0 ≤ (0 : Int) ∧ (0 : Int) < (r2.2.length : Int) then
            bif decide (((nth (((0 : Int), (0 : Int), (0 : Int), (⟨#[]⟩ : ByteArray)), (0 : Int)) r2.2 (0 : Int)).2) = 0) then
              if 0 ≤ (0 : Int) ∧ (0 : Int) < (r3.2.length : Int) then
                bif (decide (((nth (((0 : Int), (0 : Int), (0 : Int), (⟨#[]⟩ : ByteArray)), (0 : Int)) r3.2 (0 : Int)).2) = 1)) then
                  if 0 ≤ (0 : Int) ∧ (0 : Int) < (r3.2.length : Int) then
                    bif (decide ((((((nth (((0 : Int), (0 : Int), (0 : Int), (⟨#[]⟩ : ByteArray)), (0 : Int)) r3.2 (0 : Int)).1).2).2).2) = (⟨#[98]⟩ : ByteArray))) then
                      bif r4.2 then
                        some (decide (r4.1.1 = (⟨#[97]⟩ : ByteArray)))
                      else
                        some false
                    else
                      some false
                  else none
                else
                  some false
              else none
            else
              some false
          else none
        else none
noncomputable def vmfleetlaw25_awake.sp : FSpec := ⟨[], [.bool], fun _ => vmfleetlaw25_awake.f⟩
noncomputable def vmfleetlaw25_awake.env : Env := ⟨TYS, [(33, commit_Hold.sp), (34, commit_Release.sp), (38, commit_Show.sp)], [], [], [], []⟩
theorem vmfleetlaw25_awake.eq (x) : fnEval vmfleetlaw25_awake.env vmfleetlaw25_awake.sp.args vmfleetlaw25_awake.sp.res Go.Proofs.Try.f31 x = vmfleetlaw25_awake.sp.f x := by kernel_rfl
theorem vmfleetlaw25_awake.sound : Sound Try.prog 31 vmfleetlaw25_awake.sp := Lift.sound (E := vmfleetlaw25_awake.env) Try.func31 (by kernel_rfl) (env_ok TYS.ok mixed ⟨commit_Hold.sound, commit_Release.sound, commit_Show.sound, trivial⟩ trivial) (by kernel_rfl) vmfleetlaw25_awake.eq

/-! vmfleet/vmfleetmake.Data -/
noncomputable def vmfleetmake_Data.f (n : Int) (k : Int) : Option ByteArray :=
  (loop (Y := (List Int) ⊕ (ByteArray)) (fun (x1 : List Int × Int) =>
    bif decide (x1.2 < k) then
      (vmfleetmake_Mix.f n (IntKind.wrap .i64 (Int.tdiv x1.2 (9 : Int)))).bind fun r1 =>
      if (x1.1.length + ([IntKind.wrap .u8 r1] : List Int).length) * 1 ≤ 70368744177664 then
        some (.inl ((x1.1 ++ ([IntKind.wrap .u8 r1] : List Int)), IntKind.wrap .i64 (x1.2 + 1)))
      else none
    else
      some (.inr (.inl x1.1))) ([], (0 : Int))).bind fun o => match o with
  | .inl y2 =>
    some (strOf y2)
  | .inr r => some r
noncomputable def vmfleetmake_Data.sp : FSpec := ⟨[(.int .i64), (.int .i64)], [.str], fun x => vmfleetmake_Data.f x.1 x.2⟩
noncomputable def vmfleetmake_Data.env : Env := ⟨TYS, [(47, vmfleetmake_Mix.sp)], [], [(3, ⟨[0, 1, 4], [⟨5, false, (.own (.int .u8))⟩, ⟨6, false, (.int .i64)⟩], [⟨5, false, (.own (.int .u8))⟩], 0, none⟩)], [], []⟩
theorem vmfleetmake_Data.eq (x) : fnEval vmfleetmake_Data.env vmfleetmake_Data.sp.args vmfleetmake_Data.sp.res Go.Proofs.Try.f54 x = vmfleetmake_Data.sp.f x := by kernel_rfl
theorem vmfleetmake_Data.sound : Sound Try.prog 54 vmfleetmake_Data.sp := Lift.sound (E := vmfleetmake_Data.env) Try.func54 (by kernel_rfl) (env_ok TYS.ok mixed ⟨vmfleetmake_Mix.sound, trivial⟩ trivial) (by kernel_rfl) vmfleetmake_Data.eq

/-! vmfleet/vmfleetlaw25.outputs -/
noncomputable def vmfleetlaw25_outputs.f (l : List Int) : Option (List (Int × Int × Int × ByteArray)) :=
  (loop (Y := (List (Int × Int × Int × ByteArray)) ⊕ (List (Int × Int × Int × ByteArray))) (fun (x1 : (List (Int × Int × Int × ByteArray)) × Int × Int) =>
    bif decide (x1.2.2 < (l.length : Int)) then
      if 0 ≤ x1.2.2 ∧ x1.2.2 < (l.length : Int) then
        (vmfleetmake_Round.f (nth (0 : Int) l x1.2.2) (3 : Int)).bind fun r1 =>
        let v1 := IntKind.wrap .u64 (x1.2.1 + (IntKind.wrap .u64 r1))
        if 0 ≤ x1.2.2 ∧ x1.2.2 < (l.length : Int) then
          (vmfleetmake_Round.f (IntKind.wrap .i64 (Int.tdiv (nth (0 : Int) l x1.2.2) (3 : Int))) (4 : Int)).bind fun r2 =>
          (bif decide ((IntKind.wrap .i64 (1 + r2)) = 1) then
            if 0 ≤ x1.2.2 ∧ x1.2.2 < (l.length : Int) then
              (vmfleetmake_Round.f (IntKind.wrap .i64 (Int.tdiv (nth (0 : Int) l x1.2.2) (12 : Int))) (26 : Int)).bind fun r3 =>
              some (.inl (IntKind.wrap .i64 (1 + r2), v1, (0 : Int), strOf ([(IntKind.wrap .u8 (IntKind.wrap .i64 (97 + r3)))] : List Int)))
            else none
          else
            bif decide ((IntKind.wrap .i64 (1 + r2)) = 2) then
              if 0 ≤ x1.2.2 ∧ x1.2.2 < (l.length : Int) then
                if 0 ≤ x1.2.2 ∧ x1.2.2 < (l.length : Int) then
                  (vmfleetmake_Round.f (nth (0 : Int) l x1.2.2) (20 : Int)).bind fun r4 =>
                  (vmfleetmake_Data.f (nth (0 : Int) l x1.2.2) (IntKind.wrap .i64 (1 + r4))).bind fun r5 =>
                  some (.inl (IntKind.wrap .i64 (1 + r2), v1, (0 : Int), r5))
                else none
              else none
            else
              some (.inl (IntKind.wrap .i64 (1 + r2), v1, (0 : Int), (⟨#[]⟩ : ByteArray))) : Option ((Int × Int × Int × ByteArray) ⊕ (((List (Int × Int × Int × ByteArray)) × Int × Int) ⊕ ((List (Int × Int × Int × ByteArray)) ⊕ (List (Int × Int × Int × ByteArray)))))).bind fun o => match o with
          | .inl y2 =>
            if (x1.1.length + ([y2] : List (Int × Int × Int × ByteArray)).length) * 40 ≤ 70368744177664 then
              some (.inl ((x1.1 ++ ([y2] : List (Int × Int × Int × ByteArray))), v1, IntKind.wrap .i64 (x1.2.2 + 1)))
            else none
          | .inr r => some r
        else none
      else none
    else
      some (.inr (.inl x1.1))) ([], (1 : Int), (0 : Int))).bind fun o => match o with
  | .inl y3 =>
    some y3
  | .inr r => some r
noncomputable def vmfleetlaw25_outputs.sp : FSpec := ⟨[(.sl (.int .i64))], [(.own (.st (.pair (.int .i64) (.pair (.int .u64) (.pair (.int .u32) .str)))))], fun x => vmfleetlaw25_outputs.f x⟩
noncomputable def vmfleetlaw25_outputs.env : Env := ⟨TYS, [(17, vmfleetmake_Round.sp), (54, vmfleetmake_Data.sp)], [], [(4, ⟨[0, 2], [⟨3, false, (.own (.st (.pair (.int .i64) (.pair (.int .u64) (.pair (.int .u32) .str)))))⟩, ⟨4, false, (.int .u64)⟩, ⟨5, false, (.int .i64)⟩], [⟨3, false, (.own (.st (.pair (.int .i64) (.pair (.int .u64) (.pair (.int .u32) .str)))))⟩], 0, none⟩)], [(13, ⟨[3, 4, 5], [⟨6, true, (.st (.pair (.int .i64) (.pair (.int .u64) (.pair (.int .u32) .str))))⟩], [⟨6, true, (.st (.pair (.int .i64) (.pair (.int .u64) (.pair (.int .u32) .str))))⟩], 0, none⟩)], []⟩
theorem vmfleetlaw25_outputs.eq (x) : fnEval vmfleetlaw25_outputs.env vmfleetlaw25_outputs.sp.args vmfleetlaw25_outputs.sp.res Go.Proofs.Try.f32 x = vmfleetlaw25_outputs.sp.f x := by kernel_rfl
theorem vmfleetlaw25_outputs.sound : Sound Try.prog 32 vmfleetlaw25_outputs.sp := Lift.sound (E := vmfleetlaw25_outputs.env) Try.func32 (by kernel_rfl) (env_ok TYS.ok mixed ⟨vmfleetmake_Round.sound, vmfleetmake_Data.sound, trivial⟩ trivial) (by kernel_rfl) vmfleetlaw25_outputs.eq

/-! vmfleet/vmfleetlaw25.plain -/
noncomputable def vmfleetlaw25_plain.f (l : List ((Int × Int × Int × ByteArray) × Int)) : Option (List (Int × Int × Int × ByteArray)) :=
  (loop (Y := (List (Int × Int × Int × ByteArray)) ⊕ (List (Int × Int × Int × ByteArray))) (fun (x1 : (List (Int × Int × Int × ByteArray)) × Int) =>
    bif decide (x1.2 < (l.length : Int)) then
      if 0 ≤ x1.2 ∧ x1.2 < (l.length : Int) then
        if (x1.1.length + ([(((nth (((0 : Int), (0 : Int), (0 : Int), (⟨#[]⟩ : ByteArray)), (0 : Int)) l x1.2).1).1, (((nth (((0 : Int), (0 : Int), (0 : Int), (⟨#[]⟩ : ByteArray)), (0 : Int)) l x1.2).1).2).1, ((((nth (((0 : Int), (0 : Int), (0 : Int), (⟨#[]⟩ : ByteArray)), (0 : Int)) l x1.2).1).2).2))] : List (Int × Int × Int × ByteArray)).length) * 40 ≤ 70368744177664 then
          some (.inl ((x1.1 ++ ([(((nth (((0 : Int), (0 : Int), (0 : Int), (⟨#[]⟩ : ByteArray)), (0 : Int)) l x1.2).1).1, (((nth (((0 : Int), (0 : Int), (0 : Int), (⟨#[]⟩ : ByteArray)), (0 : Int)) l x1.2).1).2).1, ((((nth (((0 : Int), (0 : Int), (0 : Int), (⟨#[]⟩ : ByteArray)), (0 : Int)) l x1.2).1).2).2))] : List (Int × Int × Int × ByteArray))), IntKind.wrap .i64 (x1.2 + 1)))
        else none
      else none
    else
      some (.inr (.inl x1.1))) ([], (0 : Int))).bind fun o => match o with
  | .inl y2 =>
    some y2
  | .inr r => some r
noncomputable def vmfleetlaw25_plain.sp : FSpec := ⟨[(.sl (.st (.pair (.st (.pair (.int .i64) (.pair (.int .u64) (.pair (.int .u32) .str)))) (.int .u64))))], [(.own (.st (.pair (.int .i64) (.pair (.int .u64) (.pair (.int .u32) .str)))))], fun x => vmfleetlaw25_plain.f x⟩
noncomputable def vmfleetlaw25_plain.env : Env := ⟨TYS, [], [], [(3, ⟨[0, 2], [⟨3, false, (.own (.st (.pair (.int .i64) (.pair (.int .u64) (.pair (.int .u32) .str)))))⟩, ⟨4, false, (.int .i64)⟩], [⟨3, false, (.own (.st (.pair (.int .i64) (.pair (.int .u64) (.pair (.int .u32) .str)))))⟩], 0, none⟩)], [], []⟩
theorem vmfleetlaw25_plain.eq (x) : fnEval vmfleetlaw25_plain.env vmfleetlaw25_plain.sp.args vmfleetlaw25_plain.sp.res Go.Proofs.Try.f35 x = vmfleetlaw25_plain.sp.f x := by kernel_rfl
theorem vmfleetlaw25_plain.sound : Sound Try.prog 35 vmfleetlaw25_plain.sp := Lift.sound (E := vmfleetlaw25_plain.env) Try.func35 (by kernel_rfl) (env_ok TYS.ok mixed trivial trivial) (by kernel_rfl) vmfleetlaw25_plain.eq

/-! vmfleet/vmfleetlaw25.gated -/
noncomputable def vmfleetlaw25_gated.f (l : List (Int × Int × Int × ByteArray)) (below : Int) : Option (List (Int × Int × Int × ByteArray)) :=
  (loop (Y := (List (Int × Int × Int × ByteArray)) ⊕ (List (Int × Int × Int × ByteArray))) (fun (x1 : (List (Int × Int × Int × ByteArray)) × Int) =>
    bif decide (x1.2 < (l.length : Int)) then
      (if 0 ≤ x1.2 ∧ x1.2 < (l.length : Int) then
        bif decide ((((nth ((0 : Int), (0 : Int), (0 : Int), (⟨#[]⟩ : ByteArray)) l x1.2).2).1) < below) then
          if 0 ≤ x1.2 ∧ x1.2 < (l.length : Int) then
            bif decide (((nth ((0 : Int), (0 : Int), (0 : Int), (⟨#[]⟩ : ByteArray)) l x1.2).1) = 1) then
              some (.inl true)
            else
              if 0 ≤ x1.2 ∧ x1.2 < (l.length : Int) then
                some (.inl (decide (((nth ((0 : Int), (0 : Int), (0 : Int), (⟨#[]⟩ : ByteArray)) l x1.2).1) = 2)))
              else none
          else none
        else
          some (.inl false)
      else none : Option ((Bool) ⊕ (((List (Int × Int × Int × ByteArray)) × Int) ⊕ ((List (Int × Int × Int × ByteArray)) ⊕ (List (Int × Int × Int × ByteArray)))))).bind fun o => match o with
      | .inl y2 =>
        bif y2 then
          if 0 ≤ x1.2 ∧ x1.2 < (l.length : Int) then
            if (x1.1.length + ([((nth ((0 : Int), (0 : Int), (0 : Int), (⟨#[]⟩ : ByteArray)) l x1.2).1, ((nth ((0 : Int), (0 : Int), (0 : Int), (⟨#[]⟩ : ByteArray)) l x1.2).2).1, (((nth ((0 : Int), (0 : Int), (0 : Int), (⟨#[]⟩ : ByteArray)) l x1.2).2).2))] : List (Int × Int × Int × ByteArray)).length) * 40 ≤ 70368744177664 then
              some (.inl ((x1.1 ++ ([((nth ((0 : Int), (0 : Int), (0 : Int), (⟨#[]⟩ : ByteArray)) l x1.2).1, ((nth ((0 : Int), (0 : Int), (0 : Int), (⟨#[]⟩ : ByteArray)) l x1.2).2).1, (((nth ((0 : Int), (0 : Int), (0 : Int), (⟨#[]⟩ : ByteArray)) l x1.2).2).2))] : List (Int × Int × Int × ByteArray))), IntKind.wrap .i64 (x1.2 + 1)))
            else none
          else none
        else
          some (.inl (x1.1, IntKind.wrap .i64 (x1.2 + 1)))
      | .inr r => some r
    else
      some (.inr (.inl x1.1))) ([], (0 : Int))).bind fun o => match o with
  | .inl y3 =>
    some y3
  | .inr r => some r
noncomputable def vmfleetlaw25_gated.sp : FSpec := ⟨[(.sl (.st (.pair (.int .i64) (.pair (.int .u64) (.pair (.int .u32) .str))))), (.int .u64)], [(.own (.st (.pair (.int .i64) (.pair (.int .u64) (.pair (.int .u32) .str)))))], fun x => vmfleetlaw25_gated.f x.1 x.2⟩
noncomputable def vmfleetlaw25_gated.env : Env := ⟨TYS, [], [], [(3, ⟨[0, 1, 4], [⟨5, false, (.own (.st (.pair (.int .i64) (.pair (.int .u64) (.pair (.int .u32) .str)))))⟩, ⟨6, false, (.int .i64)⟩], [⟨5, false, (.own (.st (.pair (.int .i64) (.pair (.int .u64) (.pair (.int .u32) .str)))))⟩], 0, none⟩)], [(6, ⟨[5, 6], [], [⟨35, false, .bool⟩], 0, none⟩)], []⟩
theorem vmfleetlaw25_gated.eq (x) : fnEval vmfleetlaw25_gated.env vmfleetlaw25_gated.sp.args vmfleetlaw25_gated.sp.res Go.Proofs.Try.f37 x = vmfleetlaw25_gated.sp.f x := by kernel_rfl
theorem vmfleetlaw25_gated.sound : Sound Try.prog 37 vmfleetlaw25_gated.sp := Lift.sound (E := vmfleetlaw25_gated.env) Try.func37 (by kernel_rfl) (env_ok TYS.ok mixed trivial trivial) (by kernel_rfl) vmfleetlaw25_gated.eq

/-! vmfleet/vmfleetref24.SameOutputs -/
noncomputable def vmfleetref24_SameOutputs.f (a : List (Int × Int × Int × ByteArray)) (b : List (Int × Int × Int × ByteArray)) : Option Bool :=
  bif !decide ((a.length : Int) = (b.length : Int)) then
    some false
  else
    (loop (Y := (Unit) ⊕ (Bool)) (fun (x1 : Int) =>
      bif decide (x1 < (a.length : Int)) then
        if 0 ≤ x1 ∧ x1 < (a.length : Int) then
          if 0 ≤ x1 ∧ x1 < (b.length : Int) then
            bif (!decide (((nth ((0 : Int), (0 : Int), (0 : Int), (⟨#[]⟩ : ByteArray)) a x1).1, ((nth ((0 : Int), (0 : Int), (0 : Int), (⟨#[]⟩ : ByteArray)) a x1).2).1, (((nth ((0 : Int), (0 : Int), (0 : Int), (⟨#[]⟩ : ByteArray)) a x1).2).2)) = ((nth ((0 : Int), (0 : Int), (0 : Int), (⟨#[]⟩ : ByteArray)) b x1).1, ((nth ((0 : Int), (0 : Int), (0 : Int), (⟨#[]⟩ : ByteArray)) b x1).2).1, (((nth ((0 : Int), (0 : Int), (0 : Int), (⟨#[]⟩ : ByteArray)) b x1).2).2)))) then
              some (.inr (.inr false))
            else
              some (.inl (IntKind.wrap .i64 (x1 + 1)))
          else none
        else none
      else
        some (.inr (.inl ()))) (0 : Int)).bind fun o => match o with
    | .inl y2 =>
      some true
    | .inr r => some r
noncomputable def vmfleetref24_SameOutputs.sp : FSpec := ⟨[(.sl (.st (.pair (.int .i64) (.pair (.int .u64) (.pair (.int .u32) .str))))), (.sl (.st (.pair (.int .i64) (.pair (.int .u64) (.pair (.int .u32) .str)))))], [.bool], fun x => vmfleetref24_SameOutputs.f x.1 x.2⟩
noncomputable def vmfleetref24_SameOutputs.env : Env := ⟨TYS, [], [], [(4, ⟨[0, 1], [⟨5, false, (.int .i64)⟩], [], 0, none⟩)], [], []⟩
theorem vmfleetref24_SameOutputs.eq (x) : fnEval vmfleetref24_SameOutputs.env vmfleetref24_SameOutputs.sp.args vmfleetref24_SameOutputs.sp.res Go.Proofs.Try.f36 x = vmfleetref24_SameOutputs.sp.f x := by kernel_rfl
theorem vmfleetref24_SameOutputs.sound : Sound Try.prog 36 vmfleetref24_SameOutputs.sp := Lift.sound (E := vmfleetref24_SameOutputs.env) Try.func36 (by kernel_rfl) (env_ok TYS.ok mixed trivial trivial) (by kernel_rfl) vmfleetref24_SameOutputs.eq

/-! vmfleet/vmfleetlaw25.CommitWaits -/
noncomputable def vmfleetlaw25_CommitWaits.f (l : List Int) (parts : List Int) (acks : List Int) : Option Bool :=
  bif decide ((l.length : Int) > 40) then
    (vmfleetlaw25_awake.f).bind fun r1 =>
    some r1
  else
    bif decide ((parts.length : Int) > 20) then
      (vmfleetlaw25_awake.f).bind fun r2 =>
      some r2
    else
      bif decide ((acks.length : Int) > 20) then
        (vmfleetlaw25_awake.f).bind fun r3 =>
        some r3
      else
        (vmfleetlaw25_outputs.f l).bind fun r4 =>
        (loop (Y := (Unit) ⊕ (Bool)) (fun (x1 : ((List (Int × Int × Int × ByteArray)) × Int × Int) × (List (Int × Int × Int × ByteArray)) × Int × Int × Int) =>
          bif decide (x1.2.2.2.2 ≤ (parts.length : Int)) then
            (bif decide (x1.2.2.2.2 < (parts.length : Int)) then
              if 0 ≤ x1.2.2.2.2 ∧ x1.2.2.2.2 < (parts.length : Int) then
                (vmfleetmake_Round.f (nth (0 : Int) parts x1.2.2.2.2) (9 : Int)).bind fun r5 =>
                some (.inl (min (r4.length : Int) (IntKind.wrap .i64 (x1.2.2.1 + r5))))
              else none
            else
              some (.inl (r4.length : Int)) : Option ((Int) ⊕ ((((List (Int × Int × Int × ByteArray)) × Int × Int) × (List (Int × Int × Int × ByteArray)) × Int × Int × Int) ⊕ ((Unit) ⊕ (Bool))))).bind fun o => match o with
            | .inl y2 =>
              if 0 ≤ x1.2.2.1 ∧ x1.2.2.1 ≤ y2 ∧ y2 ≤ (r4.length : Int) then
                (commit_Hold.f x1.1 (slc r4 x1.2.2.1 y2)).bind fun r6 =>
                bif !r6.2 then
                  some (.inr (.inr false))
                else
                  (bif decide (x1.2.2.2.2 < (acks.length : Int)) then
                    (bif decide (y2 < (r4.length : Int)) then
                      if 0 ≤ y2 ∧ y2 < (r4.length : Int) then
                        some (.inl (((nth ((0 : Int), (0 : Int), (0 : Int), (⟨#[]⟩ : ByteArray)) r4 y2).2).1))
                      else none
                    else
                      some (.inl (1152921504606846976 : Int)) : Option ((Int) ⊕ ((((List (Int × Int × Int × ByteArray)) × Int × Int) × (List (Int × Int × Int × ByteArray)) × Int) ⊕ ((((List (Int × Int × Int × ByteArray)) × Int × Int) × (List (Int × Int × Int × ByteArray)) × Int × Int × Int) ⊕ ((Unit) ⊕ (Bool)))))).bind fun o => match o with
                    | .inl y3 =>
                      if 0 ≤ x1.2.2.2.2 ∧ x1.2.2.2.2 < (acks.length : Int) then
                        (commit_Release.f r6.1 (min (nth (0 : Int) acks x1.2.2.2.2) y3)).bind fun r7 =>
                        (vmfleetlaw25_plain.f r7.2).bind fun r8 =>
                        if (x1.2.1.length + r8.length) * 40 ≤ 70368744177664 then
                          some (.inl (r7.1, x1.2.1 ++ r8, (max x1.2.2.2.1 (min (nth (0 : Int) acks x1.2.2.2.2) y3))))
                        else none
                      else none
                    | .inr r => some r
                  else
                    some (.inl (r6.1, x1.2.1, x1.2.2.2.1)) : Option ((((List (Int × Int × Int × ByteArray)) × Int × Int) × (List (Int × Int × Int × ByteArray)) × Int) ⊕ ((((List (Int × Int × Int × ByteArray)) × Int × Int) × (List (Int × Int × Int × ByteArray)) × Int × Int × Int) ⊕ ((Unit) ⊕ (Bool))))).bind fun o => match o with
                  | .inl y4 =>
                    if 0 ≤ y2 ∧ y2 ≤ (r4.length : Int) then
                      (vmfleetlaw25_gated.f (slc r4 (0 : Int) y2) y4.2.2).bind fun r9 =>
                      (vmfleetref24_SameOutputs.f y4.2.1 r9).bind fun r10 =>
                      bif !r10 then
                        some (.inr (.inr false))
                      else
                        some (.inl (y4.1, y4.2.1, y2, y4.2.2, IntKind.wrap .i64 (x1.2.2.2.2 + 1)))
                    else none
                  | .inr r => some r
              else none
            | .inr r => some r
          else
            some (.inr (.inl ()))) (([], (0 : Int), (0 : Int)), [], (0 : Int), (0 : Int), (0 : Int))).bind fun o => match o with
        | .inl y5 =>
          (vmfleetlaw25_awake.f).bind fun r11 =>
          some r11
        | .inr r => some r
noncomputable def vmfleetlaw25_CommitWaits.sp : FSpec := ⟨[(.sl (.int .i64)), (.sl (.int .i64)), (.sl (.int .u64))], [.bool], fun x => vmfleetlaw25_CommitWaits.f x.1 x.2.1 x.2.2⟩
noncomputable def vmfleetlaw25_CommitWaits.env : Env := ⟨TYS, [(17, vmfleetmake_Round.sp), (31, vmfleetlaw25_awake.sp), (32, vmfleetlaw25_outputs.sp), (33, commit_Hold.sp), (34, commit_Release.sp), (35, vmfleetlaw25_plain.sp), (36, vmfleetref24_SameOutputs.sp), (37, vmfleetlaw25_gated.sp)], [], [(8, ⟨[1, 2, 7], [⟨8, true, (.st (.pair (.own (.st (.pair (.int .i64) (.pair (.int .u64) (.pair (.int .u32) .str))))) (.pair (.int .u64) (.int .u64))))⟩, ⟨9, false, (.own (.st (.pair (.int .i64) (.pair (.int .u64) (.pair (.int .u32) .str)))))⟩, ⟨10, false, (.int .i64)⟩, ⟨11, false, (.int .u64)⟩, ⟨12, false, (.int .i64)⟩], [], 0, none⟩)], [(13, ⟨[8, 9, 10, 11, 12], [], [⟨13, false, (.int .i64)⟩], 0, none⟩), (21, ⟨[8, 9, 11], [], [⟨16, false, (.int .u64)⟩], 0, none⟩), (24, ⟨[10, 12], [⟨9, false, (.own (.st (.pair (.int .i64) (.pair (.int .u64) (.pair (.int .u32) .str)))))⟩, ⟨8, true, (.st (.pair (.own (.st (.pair (.int .i64) (.pair (.int .u64) (.pair (.int .u32) .str))))) (.pair (.int .u64) (.int .u64))))⟩], [⟨8, true, (.st (.pair (.own (.st (.pair (.int .i64) (.pair (.int .u64) (.pair (.int .u32) .str))))) (.pair (.int .u64) (.int .u64))))⟩, ⟨9, false, (.own (.st (.pair (.int .i64) (.pair (.int .u64) (.pair (.int .u32) .str)))))⟩, ⟨11, false, (.int .u64)⟩], 0, none⟩)], []⟩
theorem vmfleetlaw25_CommitWaits.eq (x) : fnEval vmfleetlaw25_CommitWaits.env vmfleetlaw25_CommitWaits.sp.args vmfleetlaw25_CommitWaits.sp.res Go.Proofs.Try.f6 x = vmfleetlaw25_CommitWaits.sp.f x := by kernel_rfl
theorem vmfleetlaw25_CommitWaits.sound : Sound Try.prog 6 vmfleetlaw25_CommitWaits.sp := Lift.sound (E := vmfleetlaw25_CommitWaits.env) Try.func6 (by kernel_rfl) (env_ok TYS.ok mixed ⟨vmfleetmake_Round.sound, vmfleetlaw25_awake.sound, vmfleetlaw25_outputs.sound, commit_Hold.sound, commit_Release.sound, vmfleetlaw25_plain.sound, vmfleetref24_SameOutputs.sound, vmfleetlaw25_gated.sound, trivial⟩ trivial) (by kernel_rfl) vmfleetlaw25_CommitWaits.eq

/-! vmfleet/vmfleetlaw25.CommitTakes -/
noncomputable def vmfleetlaw25_CommitTakes.f (l : List Int) (acked : Int) (mark : Int) : Option Bool :=
  bif decide ((l.length : Int) > 40) then
    (vmfleetlaw25_awake.f).bind fun r1 =>
    some r1
  else
    bif decide (mark > acked) then
      (vmfleetlaw25_awake.f).bind fun r2 =>
      some r2
    else
      bif decide (acked > 1000) then
        (vmfleetlaw25_awake.f).bind fun r3 =>
        some r3
      else
        (vmfleetlaw25_outputs.f l).bind fun r4 =>
        (commit_Hold.f ([], (0 : Int), (0 : Int)) r4).bind fun r5 =>
        (commit_Hold.f ([], (0 : Int), (0 : Int)) r4).bind fun r6 =>
        (commit_Release.f r5.1 acked).bind fun r7 =>
        (commit_Release.f r6.1 mark).bind fun r8 =>
        (commit_Release.f r8.1 (2000 : Int)).bind fun r9 =>
        (loop (Y := (ByteArray × List ByteArray) ⊕ (Bool)) (fun (x1 : (ByteArray × List ByteArray) × Int) =>
          bif decide (x1.2 < (r7.2.length : Int)) then
            if 0 ≤ x1.2 ∧ x1.2 < (r7.2.length : Int) then
              (commit_Show.f x1.1 ((((nth (((0 : Int), (0 : Int), (0 : Int), (⟨#[]⟩ : ByteArray)), (0 : Int)) r7.2 x1.2).1).1, (((nth (((0 : Int), (0 : Int), (0 : Int), (⟨#[]⟩ : ByteArray)), (0 : Int)) r7.2 x1.2).1).2).1, ((((nth (((0 : Int), (0 : Int), (0 : Int), (⟨#[]⟩ : ByteArray)), (0 : Int)) r7.2 x1.2).1).2).2)), (nth (((0 : Int), (0 : Int), (0 : Int), (⟨#[]⟩ : ByteArray)), (0 : Int)) r7.2 x1.2).2)).bind fun r10 =>
              bif !r10.2 then
                some (.inr (.inr false))
              else
                some (.inl (r10.1, IntKind.wrap .i64 (x1.2 + 1)))
            else none
          else
            some (.inr (.inl x1.1))) (((⟨#[]⟩ : ByteArray), []), (0 : Int))).bind fun o => match o with
        | .inl y2 =>
          (loop (Y := (ByteArray × List ByteArray) ⊕ (Bool)) (fun (x3 : (ByteArray × List ByteArray) × Int) =>
            bif decide (x3.2 < (r9.2.length : Int)) then
              if 0 ≤ x3.2 ∧ x3.2 < (r9.2.length : Int) then
                (commit_Show.f x3.1 ((((nth (((0 : Int), (0 : Int), (0 : Int), (⟨#[]⟩ : ByteArray)), (0 : Int)) r9.2 x3.2).1).1, (((nth (((0 : Int), (0 : Int), (0 : Int), (⟨#[]⟩ : ByteArray)), (0 : Int)) r9.2 x3.2).1).2).1, ((((nth (((0 : Int), (0 : Int), (0 : Int), (⟨#[]⟩ : ByteArray)), (0 : Int)) r9.2 x3.2).1).2).2)), (nth (((0 : Int), (0 : Int), (0 : Int), (⟨#[]⟩ : ByteArray)), (0 : Int)) r9.2 x3.2).2)).bind fun r11 =>
                bif !r11.2 then
                  some (.inr (.inr false))
                else
                  some (.inl (r11.1, IntKind.wrap .i64 (x3.2 + 1)))
              else none
            else
              some (.inr (.inl x3.1))) (y2, (0 : Int))).bind fun o => match o with
          | .inl y4 =>
            (loop (Y := (ByteArray) ⊕ (Bool)) (fun (x5 : ByteArray × Int) =>
              bif decide (x5.2 < (r4.length : Int)) then
                if 0 ≤ x5.2 ∧ x5.2 < (r4.length : Int) then
                  bif decide (((nth ((0 : Int), (0 : Int), (0 : Int), (⟨#[]⟩ : ByteArray)) r4 x5.2).1) = 1) then
                    if 0 ≤ x5.2 ∧ x5.2 < (r4.length : Int) then
                      if x5.1.size + ((((nth ((0 : Int), (0 : Int), (0 : Int), (⟨#[]⟩ : ByteArray)) r4 x5.2).2).2).2).size ≤ 9223372036854775807 then
                        some (.inl ((x5.1 ++ ((((nth ((0 : Int), (0 : Int), (0 : Int), (⟨#[]⟩ : ByteArray)) r4 x5.2).2).2).2)), IntKind.wrap .i64 (x5.2 + 1)))
                      else none
                    else none
                  else
                    some (.inl (x5.1, IntKind.wrap .i64 (x5.2 + 1)))
                else none
              else
                some (.inr (.inl x5.1))) ((⟨#[]⟩ : ByteArray), (0 : Int))).bind fun o => match o with
            | .inl y6 =>
              bif r5.2 then
                bif r6.2 then
                  bif decide (y4.1 = y6) then
                    (vmfleetlaw25_awake.f).bind fun r12 =>
                    some r12
                  else
                    some false
                else
                  some false
              else
                some false
            | .inr r => some r
          | .inr r => some r
        | .inr r => some r
noncomputable def vmfleetlaw25_CommitTakes.sp : FSpec := ⟨[(.sl (.int .i64)), (.int .u64), (.int .u64)], [.bool], fun x => vmfleetlaw25_CommitTakes.f x.1 x.2.1 x.2.2⟩
noncomputable def vmfleetlaw25_CommitTakes.env : Env := ⟨TYS, [(31, vmfleetlaw25_awake.sp), (32, vmfleetlaw25_outputs.sp), (33, commit_Hold.sp), (34, commit_Release.sp), (38, commit_Show.sp)], [], [(12, ⟨[7, 9, 11, 13, 15, 17], [⟨16, true, (.st (.pair .str (.own .str)))⟩, ⟨18, false, (.int .i64)⟩], [⟨16, true, (.st (.pair .str (.own .str)))⟩], 0, none⟩), (19, ⟨[7, 9, 11, 15, 17], [⟨16, true, (.st (.pair .str (.own .str)))⟩, ⟨21, false, (.int .i64)⟩], [⟨16, true, (.st (.pair .str (.own .str)))⟩], 2, none⟩), (26, ⟨[7, 9, 11, 16], [⟨17, false, .str⟩, ⟨24, false, (.int .i64)⟩], [⟨17, false, .str⟩], 4, none⟩)], [], []⟩
theorem vmfleetlaw25_CommitTakes.eq (x) : fnEval vmfleetlaw25_CommitTakes.env vmfleetlaw25_CommitTakes.sp.args vmfleetlaw25_CommitTakes.sp.res Go.Proofs.Try.f7 x = vmfleetlaw25_CommitTakes.sp.f x := by kernel_rfl
theorem vmfleetlaw25_CommitTakes.sound : Sound Try.prog 7 vmfleetlaw25_CommitTakes.sp := Lift.sound (E := vmfleetlaw25_CommitTakes.env) Try.func7 (by kernel_rfl) (env_ok TYS.ok mixed ⟨vmfleetlaw25_awake.sound, vmfleetlaw25_outputs.sound, commit_Hold.sound, commit_Release.sound, commit_Show.sound, trivial⟩ trivial) (by kernel_rfl) vmfleetlaw25_CommitTakes.eq

/-! vmfleet/vmfleetref24.SameGate -/
noncomputable def vmfleetref24_SameGate.f (a : (List (Int × Int × Int × ByteArray)) × Int × Int) (b : (List (Int × Int × Int × ByteArray)) × Int × Int) : Option Bool :=
  bif decide (a.2.1 = b.2.1) then
    bif decide (a.2.2 = b.2.2) then
      (vmfleetref24_SameOutputs.f a.1 b.1).bind fun r1 =>
      some r1
    else
      some false
  else
    some false
noncomputable def vmfleetref24_SameGate.sp : FSpec := ⟨[(.st (.pair (.sl (.st (.pair (.int .i64) (.pair (.int .u64) (.pair (.int .u32) .str))))) (.pair (.int .u64) (.int .u64)))), (.st (.pair (.sl (.st (.pair (.int .i64) (.pair (.int .u64) (.pair (.int .u32) .str))))) (.pair (.int .u64) (.int .u64))))], [.bool], fun x => vmfleetref24_SameGate.f x.1 x.2⟩
noncomputable def vmfleetref24_SameGate.env : Env := ⟨TYS, [(36, vmfleetref24_SameOutputs.sp)], [], [], [], []⟩
theorem vmfleetref24_SameGate.eq (x) : fnEval vmfleetref24_SameGate.env vmfleetref24_SameGate.sp.args vmfleetref24_SameGate.sp.res Go.Proofs.Try.f39 x = vmfleetref24_SameGate.sp.f x := by kernel_rfl
theorem vmfleetref24_SameGate.sound : Sound Try.prog 39 vmfleetref24_SameGate.sp := Lift.sound (E := vmfleetref24_SameGate.env) Try.func39 (by kernel_rfl) (env_ok TYS.ok mixed ⟨vmfleetref24_SameOutputs.sound, trivial⟩ trivial) (by kernel_rfl) vmfleetref24_SameGate.eq

/-! vmfleet/vmfleetlaw25.CommitLate -/
noncomputable def vmfleetlaw25_CommitLate.f (l : List Int) (mark : Int) : Option Bool :=
  bif decide ((l.length : Int) > 40) then
    (vmfleetlaw25_awake.f).bind fun r1 =>
    some r1
  else
    bif decide (mark > 1000) then
      (vmfleetlaw25_awake.f).bind fun r2 =>
      some r2
    else
      (vmfleetlaw25_outputs.f l).bind fun r3 =>
      (commit_Hold.f ([], (0 : Int), (0 : Int)) r3).bind fun r4 =>
      (commit_Release.f r4.1 mark).bind fun r5 =>
      (commit_Release.f ([], (0 : Int), (0 : Int)) mark).bind fun r6 =>
      (commit_Hold.f r6.1 r3).bind fun r7 =>
      bif r4.2 then
        bif r7.2 then
          (vmfleetref24_SameGate.f r5.1 r7.1).bind fun r8 =>
          bif r8 then
            (vmfleetlaw25_awake.f).bind fun r9 =>
            some r9
          else
            some false
        else
          some false
      else
        some false
noncomputable def vmfleetlaw25_CommitLate.sp : FSpec := ⟨[(.sl (.int .i64)), (.int .u64)], [.bool], fun x => vmfleetlaw25_CommitLate.f x.1 x.2⟩
noncomputable def vmfleetlaw25_CommitLate.env : Env := ⟨TYS, [(31, vmfleetlaw25_awake.sp), (32, vmfleetlaw25_outputs.sp), (33, commit_Hold.sp), (34, commit_Release.sp), (39, vmfleetref24_SameGate.sp)], [], [], [], []⟩
theorem vmfleetlaw25_CommitLate.eq (x) : fnEval vmfleetlaw25_CommitLate.env vmfleetlaw25_CommitLate.sp.args vmfleetlaw25_CommitLate.sp.res Go.Proofs.Try.f8 x = vmfleetlaw25_CommitLate.sp.f x := by kernel_rfl
theorem vmfleetlaw25_CommitLate.sound : Sound Try.prog 8 vmfleetlaw25_CommitLate.sp := Lift.sound (E := vmfleetlaw25_CommitLate.env) Try.func8 (by kernel_rfl) (env_ok TYS.ok mixed ⟨vmfleetlaw25_awake.sound, vmfleetlaw25_outputs.sound, commit_Hold.sound, commit_Release.sound, vmfleetref24_SameGate.sound, trivial⟩ trivial) (by kernel_rfl) vmfleetlaw25_CommitLate.eq

/-! vmfleet/vmfleetlaw25.CommitShows -/
noncomputable def vmfleetlaw25_CommitShows.f (text : ByteArray) (index : Int) (c : Int) : Option Bool :=
  bif decide ((text.size : Int) > 200) then
    (vmfleetlaw25_awake.f).bind fun r1 =>
    some r1
  else
    (loop (Y := (ByteArray × List ByteArray) ⊕ (Bool)) (fun (x1 : (ByteArray × List ByteArray) × Int) =>
      bif decide (x1.2 < (text.size : Int)) then
        if 0 ≤ x1.2 ∧ x1.2 ≤ (IntKind.wrap .i64 (x1.2 + 1)) ∧ (IntKind.wrap .i64 (x1.2 + 1)) ≤ (text.size : Int) then
          (commit_Show.f x1.1 (((1 : Int), (0 : Int), (0 : Int), cut text x1.2 (IntKind.wrap .i64 (x1.2 + 1))), IntKind.wrap .u64 x1.2)).bind fun r2 =>
          bif !r2.2 then
            some (.inr (.inr false))
          else
            some (.inl (r2.1, IntKind.wrap .i64 (x1.2 + 1)))
        else none
      else
        some (.inr (.inl x1.1))) (((⟨#[]⟩ : ByteArray), []), (0 : Int))).bind fun o => match o with
    | .inl y2 =>
      (commit_Show.f y2 (((1 : Int), (0 : Int), (0 : Int), strOf ([c] : List Int)), index)).bind fun r3 =>
      bif decide (index > (IntKind.wrap .u64 (text.size : Int))) then
        bif !r3.2 then
          bif decide (r3.1.1 = text) then
            (vmfleetlaw25_awake.f).bind fun r4 =>
            some r4
          else
            some false
        else
          some false
      else
        bif decide (index = (IntKind.wrap .u64 (text.size : Int))) then
          bif r3.2 then
            if text.size + (strOf ([c] : List Int)).size ≤ 9223372036854775807 then
              bif (decide (r3.1.1 = (text ++ (strOf ([c] : List Int))))) then
                (vmfleetlaw25_awake.f).bind fun r5 =>
                some r5
              else
                some false
            else none
          else
            some false
        else
          if 0 ≤ (IntKind.wrap .i64 index) ∧ (IntKind.wrap .i64 index) < (text.size : Int) then
            bif r3.2 == (decide ((bt text (IntKind.wrap .i64 index)) = c)) then
              bif decide (r3.1.1 = text) then
                (vmfleetlaw25_awake.f).bind fun r6 =>
                some r6
              else
                some false
            else
              some false
          else none
    | .inr r => some r
noncomputable def vmfleetlaw25_CommitShows.sp : FSpec := ⟨[.str, (.int .u64), (.int .u8)], [.bool], fun x => vmfleetlaw25_CommitShows.f x.1 x.2.1 x.2.2⟩
noncomputable def vmfleetlaw25_CommitShows.env : Env := ⟨TYS, [(31, vmfleetlaw25_awake.sp), (38, commit_Show.sp)], [], [(5, ⟨[0, 1, 2], [⟨7, true, (.st (.pair .str (.own .str)))⟩, ⟨8, false, (.int .i64)⟩], [⟨7, true, (.st (.pair .str (.own .str)))⟩], 0, none⟩)], [], []⟩
theorem vmfleetlaw25_CommitShows.eq (x) : fnEval vmfleetlaw25_CommitShows.env vmfleetlaw25_CommitShows.sp.args vmfleetlaw25_CommitShows.sp.res Go.Proofs.Try.f9 x = vmfleetlaw25_CommitShows.sp.f x := by kernel_rfl
theorem vmfleetlaw25_CommitShows.sound : Sound Try.prog 9 vmfleetlaw25_CommitShows.sp := Lift.sound (E := vmfleetlaw25_CommitShows.env) Try.func9 (by kernel_rfl) (env_ok TYS.ok mixed ⟨vmfleetlaw25_awake.sound, commit_Show.sound, trivial⟩ trivial) (by kernel_rfl) vmfleetlaw25_CommitShows.eq

noncomputable def slices_Clone_uint32_uint32.g (fuel_ : Nat) (s : List Int) : Option (List Int) :=
  bif s.isEmpty then
    bothD
      (some [])
      (if (([] : List Int).length + s.length) * 4 ≤ 70368744177664 then
        some (([] : List Int) ++ s)
      else none)
  else
    if (([] : List Int).length + s.length) * 4 ≤ 70368744177664 then
      some (([] : List Int) ++ s)
    else none
theorem slices_Clone_uint32_uint32.mono (fuel_ : Nat) (s : List Int) : Le (slices_Clone_uint32_uint32.g fuel_ s) (slices_Clone_uint32_uint32.f s) := by
  unfold slices_Clone_uint32_uint32.g slices_Clone_uint32_uint32.f
  repeat' (first | with_reducible exact Le.refl _ | with_reducible refine Le.bind ?_ ?_ | with_reducible refine Le.cond ?_ ?_ | with_reducible refine Le.ite ?_ ?_ | with_reducible refine Le.bothD ?_ ?_ | with_reducible refine Le.loop ?_ _ | (intro o; rcases o with y | r <;> try dsimp only) | (intro _; show Le _ _) | dsimp only)
noncomputable def memory_SetPage.g (fuel_ : Nat) (m : List Int) (frame : Int) (s : ByteArray) : Option (List Int × Bool) :=
  (memory_clone.f m).bind fun r1 =>
  (memory_has.f m frame).bind fun r2 =>
  bif !r2 then
    some (r1, false)
  else
    bif !decide ((s.size : Int) = 128) then
      some (r1, false)
    else
      (loopF fuel_ (Y := (List Int) ⊕ (List Int × Bool)) (fun (x1 : List Int × Int) =>
        bif decide (x1.2 < 32) then
          let v1 := IntKind.wrap .i64 ((IntKind.wrap .i64 (frame * 32)) + x1.2)
          if 0 ≤ (IntKind.wrap .i64 (4 * x1.2)) ∧ (IntKind.wrap .i64 (4 * x1.2)) < (s.size : Int) then
            let v3 := IntKind.wrap .i64 ((IntKind.wrap .i64 (4 * x1.2)) + 1)
            if 0 ≤ v3 ∧ v3 < (s.size : Int) then
              let v5 := IntKind.wrap .i64 ((IntKind.wrap .i64 (4 * x1.2)) + 2)
              if 0 ≤ v5 ∧ v5 < (s.size : Int) then
                let v7 := IntKind.wrap .i64 ((IntKind.wrap .i64 (4 * x1.2)) + 3)
                if 0 ≤ v7 ∧ v7 < (s.size : Int) then
                  if 0 ≤ v1 ∧ v1 < (x1.1.length : Int) then
                    some (.inl (put x1.1 v1 (orI .u32 (orI .u32 (orI .u32 (IntKind.wrap .u32 (bt s (IntKind.wrap .i64 (4 * x1.2)))) (shlI .u32 (IntKind.wrap .u32 (bt s v3)) (8 : Int))) (shlI .u32 (IntKind.wrap .u32 (bt s v5)) (16 : Int))) (shlI .u32 (IntKind.wrap .u32 (bt s v7)) (24 : Int))), IntKind.wrap .i64 (x1.2 + 1)))
                  else none
                else none
              else none
            else none
          else none
        else
          some (.inr (.inl x1.1))) (r1, (0 : Int))).bind fun o => match o with
      | .inl y2 =>
        some (y2, true)
      | .inr r => some r
theorem memory_SetPage.mono (fuel_ : Nat) (m : List Int) (frame : Int) (s : ByteArray) : Le (memory_SetPage.g fuel_ m frame s) (memory_SetPage.f m frame s) := by
  unfold memory_SetPage.g memory_SetPage.f
  repeat' (first | with_reducible exact Le.refl _ | with_reducible refine Le.bind ?_ ?_ | with_reducible refine Le.cond ?_ ?_ | with_reducible refine Le.ite ?_ ?_ | with_reducible refine Le.bothD ?_ ?_ | with_reducible refine Le.loop ?_ _ | (intro o; rcases o with y | r <;> try dsimp only) | (intro _; show Le _ _) | dsimp only)
noncomputable def balloon_Out.g (fuel_ : Nat) (b : Int × Int) (m : List Int) (port : Int) (v : Int) : Option ((Int × Int) × List Int) :=
  (slices_Clone_uint32_uint32.g fuel_ m).bind fun r1 =>
  bif decide (v ≥ 32) then
    some (b, r1)
  else
    if 0 ≤ v then
      bif decide (port = 10) then
        (memory_SetPage.g fuel_ m (IntKind.wrap .i64 v) (strOf (List.replicate 128 (0 : Int)))).bind fun r2 =>
        (bif r2.2 then
          some (.inl (decide ((andI .u32 b.2 (shlI .u32 (1 : Int) v)) = 0)))
        else
          some (.inl false) : Option ((Bool) ⊕ ((Int × Int) × List Int))).bind fun o => match o with
        | .inl y1 =>
          bif y1 then
            some ((b.1, orI .u32 b.2 (shlI .u32 (1 : Int) v)), r2.1)
          else
            some (b, r1)
        | .inr r => some r
      else
        bif decide (port = 11) then
          some ((b.1, andNotI .u32 b.2 (shlI .u32 (1 : Int) v)), r1)
        else
          some (b, r1)
    else none
theorem balloon_Out.mono (fuel_ : Nat) (b : Int × Int) (m : List Int) (port : Int) (v : Int) : Le (balloon_Out.g fuel_ b m port v) (balloon_Out.f b m port v) := by
  unfold balloon_Out.g balloon_Out.f
  repeat' (first | with_reducible exact Le.refl _ | with_reducible exact slices_Clone_uint32_uint32.mono _ _ | with_reducible exact memory_SetPage.mono _ _ _ _ | with_reducible refine Le.bind ?_ ?_ | with_reducible refine Le.cond ?_ ?_ | with_reducible refine Le.ite ?_ ?_ | with_reducible refine Le.bothD ?_ ?_ | with_reducible refine Le.loop ?_ _ | (intro o; rcases o with y | r <;> try dsimp only) | (intro _; show Le _ _) | dsimp only)
noncomputable def vmfleetlaw11_awake.g (fuel_ : Nat)  : Option Bool :=
  (vmfleetref1_New.f (4 : Int)).bind fun r1 =>
  (balloon_Out.g fuel_ ((1 : Int), (0 : Int)) r1 (10 : Int) (2 : Int)).bind fun r2 =>
  bif decide (r2.1.2 = 4) then
    (balloon_Pending.f r2.1).bind fun r3 =>
    bif !r3 then
      (balloon_Count.f r2.1).bind fun r4 =>
      bif decide (r4 = 1) then
        bif decide ((r2.2.length : Int) = 128) then
          (balloon_Pending.f ((1 : Int), (0 : Int))).bind fun r5 =>
          some r5
        else
          some false
      else
        some false
    else
      some false
  else
    some false
theorem vmfleetlaw11_awake.mono (fuel_ : Nat)  : Le (vmfleetlaw11_awake.g fuel_) (vmfleetlaw11_awake.f) := by
  unfold vmfleetlaw11_awake.g vmfleetlaw11_awake.f
  repeat' (first | with_reducible exact Le.refl _ | with_reducible exact balloon_Out.mono _ _ _ _ _ | with_reducible refine Le.bind ?_ ?_ | with_reducible refine Le.cond ?_ ?_ | with_reducible refine Le.ite ?_ ?_ | with_reducible refine Le.bothD ?_ ?_ | with_reducible refine Le.loop ?_ _ | (intro o; rcases o with y | r <;> try dsimp only) | (intro _; show Le _ _) | dsimp only)
theorem vmfleetlaw11_awake.ok : vmfleetlaw11_awake.f = some true := vmfleetlaw11_awake.mono 5000 true (by kernel_rfl)
noncomputable def slices_Clone_api_Output_api_Output.g (fuel_ : Nat) (s : List (Int × Int × Int × ByteArray)) : Option (List (Int × Int × Int × ByteArray)) :=
  bif s.isEmpty then
    bothD
      (some [])
      (if (([] : List (Int × Int × Int × ByteArray)).length + s.length) * 40 ≤ 70368744177664 then
        some (([] : List (Int × Int × Int × ByteArray)) ++ s)
      else none)
  else
    if (([] : List (Int × Int × Int × ByteArray)).length + s.length) * 40 ≤ 70368744177664 then
      some (([] : List (Int × Int × Int × ByteArray)) ++ s)
    else none
theorem slices_Clone_api_Output_api_Output.mono (fuel_ : Nat) (s : List (Int × Int × Int × ByteArray)) : Le (slices_Clone_api_Output_api_Output.g fuel_ s) (slices_Clone_api_Output_api_Output.f s) := by
  unfold slices_Clone_api_Output_api_Output.g slices_Clone_api_Output_api_Output.f
  repeat' (first | with_reducible exact Le.refl _ | with_reducible refine Le.bind ?_ ?_ | with_reducible refine Le.cond ?_ ?_ | with_reducible refine Le.ite ?_ ?_ | with_reducible refine Le.bothD ?_ ?_ | with_reducible refine Le.loop ?_ _ | (intro o; rcases o with y | r <;> try dsimp only) | (intro _; show Le _ _) | dsimp only)
noncomputable def copies_Gate.g (fuel_ : Nat) (g : (List (Int × Int × Int × ByteArray)) × Int × Int) : Option ((List (Int × Int × Int × ByteArray)) × Int × Int) :=
  (slices_Clone_api_Output_api_Output.g fuel_ g.1).bind fun r1 =>
  some (r1, g.2)
theorem copies_Gate.mono (fuel_ : Nat) (g : (List (Int × Int × Int × ByteArray)) × Int × Int) : Le (copies_Gate.g fuel_ g) (copies_Gate.f g) := by
  unfold copies_Gate.g copies_Gate.f
  repeat' (first | with_reducible exact Le.refl _ | with_reducible exact slices_Clone_api_Output_api_Output.mono _ _ | with_reducible refine Le.bind ?_ ?_ | with_reducible refine Le.cond ?_ ?_ | with_reducible refine Le.ite ?_ ?_ | with_reducible refine Le.bothD ?_ ?_ | with_reducible refine Le.loop ?_ _ | (intro o; rcases o with y | r <;> try dsimp only) | (intro _; show Le _ _) | dsimp only)
noncomputable def commit_Valid.g (fuel_ : Nat) (g : (List (Int × Int × Int × ByteArray)) × Int × Int) : Option Bool :=
  (loopF fuel_ (Y := (Unit) ⊕ (Bool)) (fun (x1 : Int × Int) =>
    bif decide (x1.2 < (g.1.length : Int)) then
      if 0 ≤ x1.2 ∧ x1.2 < (g.1.length : Int) then
        (commit_holdable.f ((nth ((0 : Int), (0 : Int), (0 : Int), (⟨#[]⟩ : ByteArray)) g.1 x1.2).1, ((nth ((0 : Int), (0 : Int), (0 : Int), (⟨#[]⟩ : ByteArray)) g.1 x1.2).2).1, (((nth ((0 : Int), (0 : Int), (0 : Int), (⟨#[]⟩ : ByteArray)) g.1 x1.2).2).2))).bind fun r1 =>
        bif !r1 then
          some (.inr (.inr false))
        else
          bif (decide ((((nth ((0 : Int), (0 : Int), (0 : Int), (⟨#[]⟩ : ByteArray)) g.1 x1.2).2).1) < x1.1)) then
            some (.inr (.inr false))
          else
            some (.inl (((nth ((0 : Int), (0 : Int), (0 : Int), (⟨#[]⟩ : ByteArray)) g.1 x1.2).2).1, IntKind.wrap .i64 (x1.2 + 1)))
      else none
    else
      some (.inr (.inl ()))) (g.2.1, (0 : Int))).bind fun o => match o with
  | .inl y2 =>
    some true
  | .inr r => some r
theorem commit_Valid.mono (fuel_ : Nat) (g : (List (Int × Int × Int × ByteArray)) × Int × Int) : Le (commit_Valid.g fuel_ g) (commit_Valid.f g) := by
  unfold commit_Valid.g commit_Valid.f
  repeat' (first | with_reducible exact Le.refl _ | with_reducible refine Le.bind ?_ ?_ | with_reducible refine Le.cond ?_ ?_ | with_reducible refine Le.ite ?_ ?_ | with_reducible refine Le.bothD ?_ ?_ | with_reducible refine Le.loop ?_ _ | (intro o; rcases o with y | r <;> try dsimp only) | (intro _; show Le _ _) | dsimp only)
noncomputable def commit_Hold.g (fuel_ : Nat) (g : (List (Int × Int × Int × ByteArray)) × Int × Int) (l : List (Int × Int × Int × ByteArray)) : Option (((List (Int × Int × Int × ByteArray)) × Int × Int) × Bool) :=
  (copies_Gate.g fuel_ g).bind fun r1 =>
  (commit_Valid.g fuel_ r1).bind fun r2 =>
  bif !r2 then
    some (r1, false)
  else
    (copies_Gate.g fuel_ r1).bind fun r3 =>
    (loopF fuel_ (Y := ((List (Int × Int × Int × ByteArray)) × Int × Int) ⊕ (((List (Int × Int × Int × ByteArray)) × Int × Int) × Bool)) (fun (x1 : ((List (Int × Int × Int × ByteArray)) × Int × Int) × Int) =>
      bif decide (x1.2 < (l.length : Int)) then
        if 0 ≤ x1.2 ∧ x1.2 < (l.length : Int) then
          (bif !decide (((nth ((0 : Int), (0 : Int), (0 : Int), (⟨#[]⟩ : ByteArray)) l x1.2).1) = 1) then
            some (.inl (!decide (((nth ((0 : Int), (0 : Int), (0 : Int), (⟨#[]⟩ : ByteArray)) l x1.2).1) = 2)))
          else
            some (.inl false) : Option ((Bool) ⊕ ((((List (Int × Int × Int × ByteArray)) × Int × Int) × Int) ⊕ (((List (Int × Int × Int × ByteArray)) × Int × Int) ⊕ (((List (Int × Int × Int × ByteArray)) × Int × Int) × Bool))))).bind fun o => match o with
          | .inl y2 =>
            bif y2 then
              some (.inl (x1.1, IntKind.wrap .i64 (x1.2 + 1)))
            else
              bif decide ((((nth ((0 : Int), (0 : Int), (0 : Int), (⟨#[]⟩ : ByteArray)) l x1.2).2).1) ≥ x1.1.2.1) then
                if (x1.1.1.length + ([((nth ((0 : Int), (0 : Int), (0 : Int), (⟨#[]⟩ : ByteArray)) l x1.2).1, ((nth ((0 : Int), (0 : Int), (0 : Int), (⟨#[]⟩ : ByteArray)) l x1.2).2).1, (((nth ((0 : Int), (0 : Int), (0 : Int), (⟨#[]⟩ : ByteArray)) l x1.2).2).2))] : List (Int × Int × Int × ByteArray)).length) * 40 ≤ 70368744177664 then
                  some (.inl (((x1.1.1 ++ ([((nth ((0 : Int), (0 : Int), (0 : Int), (⟨#[]⟩ : ByteArray)) l x1.2).1, ((nth ((0 : Int), (0 : Int), (0 : Int), (⟨#[]⟩ : ByteArray)) l x1.2).2).1, (((nth ((0 : Int), (0 : Int), (0 : Int), (⟨#[]⟩ : ByteArray)) l x1.2).2).2))] : List (Int × Int × Int × ByteArray))), x1.1.2), IntKind.wrap .i64 (x1.2 + 1)))
                else none
              else
                bif decide (((nth ((0 : Int), (0 : Int), (0 : Int), (⟨#[]⟩ : ByteArray)) l x1.2).1) = 1) then
                  some (.inl ((x1.1.1, x1.1.2.1, IntKind.wrap .u64 (x1.1.2.2 + 1)), IntKind.wrap .i64 (x1.2 + 1)))
                else
                  some (.inl (x1.1, IntKind.wrap .i64 (x1.2 + 1)))
          | .inr r => some r
        else none
      else
        some (.inr (.inl x1.1))) (r3, (0 : Int))).bind fun o => match o with
    | .inl y3 =>
      (commit_Valid.g fuel_ y3).bind fun r4 =>
      bif !r4 then
        some (r1, false)
      else
        some (y3, true)
    | .inr r => some r
theorem commit_Hold.mono (fuel_ : Nat) (g : (List (Int × Int × Int × ByteArray)) × Int × Int) (l : List (Int × Int × Int × ByteArray)) : Le (commit_Hold.g fuel_ g l) (commit_Hold.f g l) := by
  unfold commit_Hold.g commit_Hold.f
  repeat' (first | with_reducible exact Le.refl _ | with_reducible exact copies_Gate.mono _ _ | with_reducible exact commit_Valid.mono _ _ | with_reducible refine Le.bind ?_ ?_ | with_reducible refine Le.cond ?_ ?_ | with_reducible refine Le.ite ?_ ?_ | with_reducible refine Le.bothD ?_ ?_ | with_reducible refine Le.loop ?_ _ | (intro o; rcases o with y | r <;> try dsimp only) | (intro _; show Le _ _) | dsimp only)
noncomputable def commit_Release.g (fuel_ : Nat) (g : (List (Int × Int × Int × ByteArray)) × Int × Int) (acked : Int) : Option (((List (Int × Int × Int × ByteArray)) × Int × Int) × List ((Int × Int × Int × ByteArray) × Int)) :=
  (copies_Gate.g fuel_ g).bind fun r1 =>
  (commit_Valid.g fuel_ r1).bind fun r2 =>
  bif !r2 then
    some (r1, [])
  else
    bif decide (acked ≤ r1.2.1) then
      some (r1, [])
    else
      ((loopF fuel_ (Y := (Unit) ⊕ ((Int) ⊕ (((List (Int × Int × Int × ByteArray)) × Int × Int) × List ((Int × Int × Int × ByteArray) × Int)))) (fun (x1 : Int) =>
        bif decide (x1 < (r1.1.length : Int)) then
          if 0 ≤ x1 ∧ x1 < (r1.1.length : Int) then
            bif decide ((((nth ((0 : Int), (0 : Int), (0 : Int), (⟨#[]⟩ : ByteArray)) r1.1 x1).2).1) ≥ acked) then
              some (.inr (.inr (.inl x1)))
            else
              some (.inl (IntKind.wrap .i64 (x1 + 1)))
          else none
        else
          some (.inr (.inl ()))) (0 : Int)).bind fun o => match o with
      | .inl y2 =>
        some (.inl (-1 : Int))
      | .inr r => some r : Option ((Int) ⊕ (((List (Int × Int × Int × ByteArray)) × Int × Int) × List ((Int × Int × Int × ByteArray) × Int)))).bind fun o => match o with
      | .inl y3 =>
        (bif decide (y3 < 0) then
          some (.inl (r1.1.length : Int))
        else
          some (.inl y3) : Option ((Int) ⊕ (((List (Int × Int × Int × ByteArray)) × Int × Int) × List ((Int × Int × Int × ByteArray) × Int)))).bind fun o => match o with
        | .inl y4 =>
          if 0 ≤ y4 ∧ y4 ≤ (r1.1.length : Int) then
            (loopF fuel_ (Y := (((List (Int × Int × Int × ByteArray)) × Int × Int) × List ((Int × Int × Int × ByteArray) × Int)) ⊕ (((List (Int × Int × Int × ByteArray)) × Int × Int) × List ((Int × Int × Int × ByteArray) × Int))) (fun (x5 : ((List (Int × Int × Int × ByteArray)) × Int × Int) × (List ((Int × Int × Int × ByteArray) × Int)) × (List (Int × Int × Int × ByteArray)) × Int) =>
              bif decide (x5.2.2.2 < (y4 - (0 : Int))) then
                if 0 ≤ x5.2.2.2 ∧ x5.2.2.2 < (x5.2.2.1.length : Int) then
                  (bif decide (((nth ((0 : Int), (0 : Int), (0 : Int), (⟨#[]⟩ : ByteArray)) x5.2.2.1 x5.2.2.2).1) = 1) then
                    some (.inl ((x5.1.1, x5.1.2.1, IntKind.wrap .u64 (x5.1.2.2 + 1)), ((nth ((0 : Int), (0 : Int), (0 : Int), (⟨#[]⟩ : ByteArray)) x5.2.2.1 x5.2.2.2).1, ((nth ((0 : Int), (0 : Int), (0 : Int), (⟨#[]⟩ : ByteArray)) x5.2.2.1 x5.2.2.2).2).1, (((nth ((0 : Int), (0 : Int), (0 : Int), (⟨#[]⟩ : ByteArray)) x5.2.2.1 x5.2.2.2).2).2)), x5.1.2.2))
                  else
                    some (.inl (x5.1, ((nth ((0 : Int), (0 : Int), (0 : Int), (⟨#[]⟩ : ByteArray)) x5.2.2.1 x5.2.2.2).1, ((nth ((0 : Int), (0 : Int), (0 : Int), (⟨#[]⟩ : ByteArray)) x5.2.2.1 x5.2.2.2).2).1, (((nth ((0 : Int), (0 : Int), (0 : Int), (⟨#[]⟩ : ByteArray)) x5.2.2.1 x5.2.2.2).2).2)), (0 : Int))) : Option ((((List (Int × Int × Int × ByteArray)) × Int × Int) × (Int × Int × Int × ByteArray) × Int) ⊕ ((((List (Int × Int × Int × ByteArray)) × Int × Int) × (List ((Int × Int × Int × ByteArray) × Int)) × (List (Int × Int × Int × ByteArray)) × Int) ⊕ ((((List (Int × Int × Int × ByteArray)) × Int × Int) × List ((Int × Int × Int × ByteArray) × Int)) ⊕ (((List (Int × Int × Int × ByteArray)) × Int × Int) × List ((Int × Int × Int × ByteArray) × Int)))))).bind fun o => match o with
                  | .inl y6 =>
                    if (x5.2.1.length + ([y6.2] : List ((Int × Int × Int × ByteArray) × Int)).length) * 48 ≤ 70368744177664 then
                      some (.inl (y6.1, (x5.2.1 ++ ([y6.2] : List ((Int × Int × Int × ByteArray) × Int))), x5.2.2.1, IntKind.wrap .i64 (x5.2.2.2 + 1)))
                    else none
                  | .inr r => some r
                else none
              else
                some (.inr (.inl (x5.1, x5.2.1)))) ((r1.1, acked, r1.2.2), [], slc r1.1 (0 : Int) y4, (0 : Int))).bind fun o => match o with
            | .inl y7 =>
              if 0 ≤ y4 ∧ y4 ≤ (y7.1.1.length : Int) then
                (slices_Clone_api_Output_api_Output.g fuel_ (slc y7.1.1 y4 (y7.1.1.length : Int))).bind fun r3 =>
                some ((r3, y7.1.2), y7.2)
              else none
            | .inr r => some r
          else none
        | .inr r => some r
      | .inr r => some r
theorem commit_Release.mono (fuel_ : Nat) (g : (List (Int × Int × Int × ByteArray)) × Int × Int) (acked : Int) : Le (commit_Release.g fuel_ g acked) (commit_Release.f g acked) := by
  unfold commit_Release.g commit_Release.f
  repeat' (first | with_reducible exact Le.refl _ | with_reducible exact copies_Gate.mono _ _ | with_reducible exact commit_Valid.mono _ _ | with_reducible exact slices_Clone_api_Output_api_Output.mono _ _ | with_reducible refine Le.bind ?_ ?_ | with_reducible refine Le.cond ?_ ?_ | with_reducible refine Le.ite ?_ ?_ | with_reducible refine Le.bothD ?_ ?_ | with_reducible refine Le.loop ?_ _ | (intro o; rcases o with y | r <;> try dsimp only) | (intro _; show Le _ _) | dsimp only)
noncomputable def slices_Clone_string_string.g (fuel_ : Nat) (s : List ByteArray) : Option (List ByteArray) :=
  bif s.isEmpty then
    bothD
      (some [])
      (if (([] : List ByteArray).length + s.length) * 16 ≤ 70368744177664 then
        some (([] : List ByteArray) ++ s)
      else none)
  else
    if (([] : List ByteArray).length + s.length) * 16 ≤ 70368744177664 then
      some (([] : List ByteArray) ++ s)
    else none
theorem slices_Clone_string_string.mono (fuel_ : Nat) (s : List ByteArray) : Le (slices_Clone_string_string.g fuel_ s) (slices_Clone_string_string.f s) := by
  unfold slices_Clone_string_string.g slices_Clone_string_string.f
  repeat' (first | with_reducible exact Le.refl _ | with_reducible refine Le.bind ?_ ?_ | with_reducible refine Le.cond ?_ ?_ | with_reducible refine Le.ite ?_ ?_ | with_reducible refine Le.bothD ?_ ?_ | with_reducible refine Le.loop ?_ _ | (intro o; rcases o with y | r <;> try dsimp only) | (intro _; show Le _ _) | dsimp only)
noncomputable def commit_Show.g (fuel_ : Nat) (o_ : ByteArray × List ByteArray) (r_ : (Int × Int × Int × ByteArray) × Int) : Option ((ByteArray × List ByteArray) × Bool) :=
  (slices_Clone_string_string.g fuel_ o_.2).bind fun r1 =>
  bif decide (r_.1.1 = 2) then
    if (r1.length + ([r_.1.2.2.2] : List ByteArray).length) * 16 ≤ 70368744177664 then
      some ((o_.1, r1 ++ ([r_.1.2.2.2] : List ByteArray)), true)
    else none
  else
    bif decide (r_.1.1 = 1) then
      (bif !decide ((r_.1.2.2.2.size : Int) = 1) then
        some (.inl true)
      else
        some (.inl (decide (r_.2 > (IntKind.wrap .u64 (o_.1.size : Int))))) : Option ((Bool) ⊕ ((ByteArray × List ByteArray) × Bool))).bind fun o => match o with
      | .inl y1 =>
        bif y1 then
          some ((o_.1, r1), false)
        else
          bif decide (r_.2 < (IntKind.wrap .u64 (o_.1.size : Int))) then
            if 0 ≤ r_.2 ∧ r_.2 < (o_.1.size : Int) then
              if 0 ≤ (0 : Int) ∧ (0 : Int) < (r_.1.2.2.2.size : Int) then
                some ((o_.1, r1), decide ((bt o_.1 r_.2) = (bt r_.1.2.2.2 (0 : Int))))
              else none
            else none
          else
            if o_.1.size + r_.1.2.2.2.size ≤ 9223372036854775807 then
              some ((o_.1 ++ r_.1.2.2.2, r1), true)
            else none
      | .inr r => some r
    else
      some ((o_.1, r1), false)
theorem commit_Show.mono (fuel_ : Nat) (o_ : ByteArray × List ByteArray) (r_ : (Int × Int × Int × ByteArray) × Int) : Le (commit_Show.g fuel_ o_ r_) (commit_Show.f o_ r_) := by
  unfold commit_Show.g commit_Show.f
  repeat' (first | with_reducible exact Le.refl _ | with_reducible exact slices_Clone_string_string.mono _ _ | with_reducible refine Le.bind ?_ ?_ | with_reducible refine Le.cond ?_ ?_ | with_reducible refine Le.ite ?_ ?_ | with_reducible refine Le.bothD ?_ ?_ | with_reducible refine Le.loop ?_ _ | (intro o; rcases o with y | r <;> try dsimp only) | (intro _; show Le _ _) | dsimp only)
noncomputable def vmfleetlaw25_awake.g (fuel_ : Nat)  : Option Bool :=
  (commit_Hold.g fuel_ ([], (0 : Int), (0 : Int)) ([((1 : Int), (3 : Int), (0 : Int), (⟨#[97]⟩ : ByteArray)), ((1 : Int), (5 : Int), (0 : Int), (⟨#[98]⟩ : ByteArray))] : List (Int × Int × Int × ByteArray))).bind fun r1 =>
  (commit_Release.g fuel_ r1.1 (4 : Int)).bind fun r2 =>
  (commit_Release.g fuel_ r2.1 (9 : Int)).bind fun r3 =>
  bif !r1.2 then
    some false
  else
    bif !decide ((r2.2.length : Int) = 1) then
      some false
    else
      bif !decide ((r3.2.length : Int) = 1) then
        some false
      else
        if 0 ≤ (0 : Int) ∧ (0 : Int) < (r2.2.length : Int) then
          (commit_Show.g fuel_ ((⟨#[]⟩ : ByteArray), []) ((((nth (((0 : Int), (0 : Int), (0 : Int), (⟨#[]⟩ : ByteArray)), (0 : Int)) r2.2 (0 : Int)).1).1, (((nth (((0 : Int), (0 : Int), (0 : Int), (⟨#[]⟩ : ByteArray)), (0 : Int)) r2.2 (0 : Int)).1).2).1, ((((nth (((0 : Int), (0 : Int), (0 : Int), (⟨#[]⟩ : ByteArray)), (0 : Int)) r2.2 (0 : Int)).1).2).2)), (nth (((0 : Int), (0 : Int), (0 : Int), (⟨#[]⟩ : ByteArray)), (0 : Int)) r2.2 (0 : Int)).2)).bind fun r4 =>
          if 0 ≤ (0 : Int) ∧ (0 : Int) < (r2.2.length : Int) then
            bif decide (((nth (((0 : Int), (0 : Int), (0 : Int), (⟨#[]⟩ : ByteArray)), (0 : Int)) r2.2 (0 : Int)).2) = 0) then
              if 0 ≤ (0 : Int) ∧ (0 : Int) < (r3.2.length : Int) then
                bif (decide (((nth (((0 : Int), (0 : Int), (0 : Int), (⟨#[]⟩ : ByteArray)), (0 : Int)) r3.2 (0 : Int)).2) = 1)) then
                  if 0 ≤ (0 : Int) ∧ (0 : Int) < (r3.2.length : Int) then
                    bif (decide ((((((nth (((0 : Int), (0 : Int), (0 : Int), (⟨#[]⟩ : ByteArray)), (0 : Int)) r3.2 (0 : Int)).1).2).2).2) = (⟨#[98]⟩ : ByteArray))) then
                      bif r4.2 then
                        some (decide (r4.1.1 = (⟨#[97]⟩ : ByteArray)))
                      else
                        some false
                    else
                      some false
                  else none
                else
                  some false
              else none
            else
              some false
          else none
        else none
theorem vmfleetlaw25_awake.mono (fuel_ : Nat)  : Le (vmfleetlaw25_awake.g fuel_) (vmfleetlaw25_awake.f) := by
  unfold vmfleetlaw25_awake.g vmfleetlaw25_awake.f
  repeat' (first | with_reducible exact Le.refl _ | with_reducible exact commit_Hold.mono _ _ _ | with_reducible exact commit_Release.mono _ _ _ | with_reducible exact commit_Show.mono _ _ _ | with_reducible refine Le.bind ?_ ?_ | with_reducible refine Le.cond ?_ ?_ | with_reducible refine Le.ite ?_ ?_ | with_reducible refine Le.bothD ?_ ?_ | with_reducible refine Le.loop ?_ _ | (intro o; rcases o with y | r <;> try dsimp only) | (intro _; show Le _ _) | dsimp only)
theorem vmfleetlaw25_awake.ok : vmfleetlaw25_awake.f = some true := vmfleetlaw25_awake.mono 5000 true (by kernel_rfl)
end Go.Proofs.Ytapngmfecjhlfaa.Fn
