/- The functions that the laws of this seat reach, each as a plain Lean function, with the proof that the loaded code computes it. -/
import Derived.Test.YtklckjfafomlmaaLLaw
import Derived.Test.YtklckjfafomlmaaLPure
import Derived.Test.YtklckjfafomlmaaProg
import Derived.Test.YtklckjfafomlmaaChecked
import Derived.Test.YtklckjfafomlmaaExtRepeat
set_option maxRecDepth 100000
set_option linter.unusedVariables false
namespace Go.Proofs.Ytklckjfafomlmaa.Fn
open Go Lift
def TYS : List (Nat × TI) := [(3, ⟨(.int .i64), 0⟩), (4, ⟨.bool, 0⟩), (5, ⟨(.int .u8), 0⟩), (9, ⟨.str, 0⟩), (22, ⟨(.sl .str), 16⟩), (24, ⟨(.st (.pair (.sl .str) (.pair (.sl .str) (.int .i64)))), 0⟩), (37, ⟨(.sl (.int .i64)), 8⟩), (70, ⟨(.sl (.int .u8)), 1⟩), (96, ⟨(.int .u64), 0⟩)]
theorem TYS.ok : tysB Try.prog TYS = true := by kernel_rfl
theorem mixed : Try.prog.follows .mixedOrders = true := Checked.mixed Try.checked

/-! vmfleet/vmfleetlaw32.light -/
noncomputable def vmfleetlaw32_light.f (l : List ByteArray) : Option Bool :=
  (loop (Y := (Unit) ⊕ (Bool)) (fun (x1 : Int) =>
    bif decide (x1 < (l.length : Int)) then
      bif decide (x1 < 200) then
        if 0 ≤ x1 ∧ x1 < (l.length : Int) then
          bif decide (((nth (⟨#[]⟩ : ByteArray) l x1).size : Int) > 300) then
            some (.inr (.inr false))
          else
            some (.inl (IntKind.wrap .i64 (x1 + 1)))
        else none
      else
        some (.inr (.inl ()))
    else
      some (.inr (.inl ()))) (0 : Int)).bind fun o => match o with
  | .inl y2 =>
    some (decide ((l.length : Int) ≤ 100))
  | .inr r => some r
noncomputable def vmfleetlaw32_light.sp : FSpec := ⟨[(.sl .str)], [.bool], fun x => vmfleetlaw32_light.f x⟩
noncomputable def vmfleetlaw32_light.env : Env := ⟨TYS, [], [], [(2, ⟨[0], [⟨3, false, (.int .i64)⟩], [], 0, none⟩)], [], []⟩
theorem vmfleetlaw32_light.eq (x) : fnEval vmfleetlaw32_light.env vmfleetlaw32_light.sp.args vmfleetlaw32_light.sp.res Go.Proofs.Try.f11 x = vmfleetlaw32_light.sp.f x := by kernel_rfl
theorem vmfleetlaw32_light.sound : Sound Try.prog 11 vmfleetlaw32_light.sp := Lift.sound (E := vmfleetlaw32_light.env) Try.func11 (by kernel_rfl) (env_ok TYS.ok mixed trivial trivial) (by kernel_rfl) vmfleetlaw32_light.eq

/-! vmfleet/vmfleetref1.Next -/
noncomputable def vmfleetref1_Next.f (seed : Int) : Option (Int × Int) :=
  let v1 := IntKind.wrap .u64 (seed + 11400714819323198485)
  let v2 := IntKind.wrap .u64 ((xorI .u64 v1 (shrI .u64 v1 (30 : Int))) * 13787848793156543929)
  let v3 := IntKind.wrap .u64 ((xorI .u64 v2 (shrI .u64 v2 (27 : Int))) * 10723151780598845931)
  some (xorI .u64 v3 (shrI .u64 v3 (31 : Int)), v1)
noncomputable def vmfleetref1_Next.sp : FSpec := ⟨[(.int .u64)], [(.int .u64), (.int .u64)], fun x => vmfleetref1_Next.f x⟩
noncomputable def vmfleetref1_Next.env : Env := ⟨TYS, [], [], [], [], []⟩
theorem vmfleetref1_Next.eq (x) : fnEval vmfleetref1_Next.env vmfleetref1_Next.sp.args vmfleetref1_Next.sp.res Go.Proofs.Try.f70 x = vmfleetref1_Next.sp.f x := by kernel_rfl
theorem vmfleetref1_Next.sound : Sound Try.prog 70 vmfleetref1_Next.sp := Lift.sound (E := vmfleetref1_Next.env) Try.func70 (by kernel_rfl) (env_ok TYS.ok mixed trivial trivial) (by kernel_rfl) vmfleetref1_Next.eq

/-! vmfleet/vmfleetmake.Mix -/
noncomputable def vmfleetmake_Mix.f (n : Int) (k : Int) : Option Int :=
  (vmfleetref1_Next.f (xorI .u64 (IntKind.wrap .u64 n) (IntKind.wrap .u64 ((IntKind.wrap .u64 k) * 11400714819323198485)))).bind fun r1 =>
  some (IntKind.wrap .i64 (shrI .u64 r1.1 (1 : Int)))
noncomputable def vmfleetmake_Mix.sp : FSpec := ⟨[(.int .i64), (.int .i64)], [(.int .i64)], fun x => vmfleetmake_Mix.f x.1 x.2⟩
noncomputable def vmfleetmake_Mix.env : Env := ⟨TYS, [(70, vmfleetref1_Next.sp)], [], [], [], []⟩
theorem vmfleetmake_Mix.eq (x) : fnEval vmfleetmake_Mix.env vmfleetmake_Mix.sp.args vmfleetmake_Mix.sp.res Go.Proofs.Try.f48 x = vmfleetmake_Mix.sp.f x := by kernel_rfl
theorem vmfleetmake_Mix.sound : Sound Try.prog 48 vmfleetmake_Mix.sp := Lift.sound (E := vmfleetmake_Mix.env) Try.func48 (by kernel_rfl) (env_ok TYS.ok mixed ⟨vmfleetref1_Next.sound, trivial⟩ trivial) (by kernel_rfl) vmfleetmake_Mix.eq

/-! vmfleet/vmfleetmake.Data -/
noncomputable def vmfleetmake_Data.f (n : Int) (k : Int) : Option ByteArray :=
  (loop (Y := (List Int) ⊕ (ByteArray)) (fun (x1 : List Int × Int) =>
    bif decide (x1.2 < k) then
      (vmfleetmake_Mix.f n (IntKind.wrap .i64 (Int.tdiv x1.2 (9 : Int)))).bind fun r1 =>
      if (x1.1.length + ([IntKind.wrap .u8 r1] : List Int).length) * 1 ≤ 70368744177664 then
        some (.inl ((x1.1 ++ ([IntKind.wrap .u8 r1] : List Int)), IntKind.wrap .i64 (x1.2 + 1)))
      else none
    else
      some (.inr (.inl x1.1))) ([], (0 : Int))).bind fun o => match o with
  | .inl y2 =>
    some (strOf y2)
  | .inr r => some r
noncomputable def vmfleetmake_Data.sp : FSpec := ⟨[(.int .i64), (.int .i64)], [.str], fun x => vmfleetmake_Data.f x.1 x.2⟩
noncomputable def vmfleetmake_Data.env : Env := ⟨TYS, [(48, vmfleetmake_Mix.sp)], [], [(3, ⟨[0, 1, 4], [⟨5, false, (.own (.int .u8))⟩, ⟨6, false, (.int .i64)⟩], [⟨5, false, (.own (.int .u8))⟩], 0, none⟩)], [], []⟩
theorem vmfleetmake_Data.eq (x) : fnEval vmfleetmake_Data.env vmfleetmake_Data.sp.args vmfleetmake_Data.sp.res Go.Proofs.Try.f28 x = vmfleetmake_Data.sp.f x := by kernel_rfl
theorem vmfleetmake_Data.sound : Sound Try.prog 28 vmfleetmake_Data.sp := Lift.sound (E := vmfleetmake_Data.env) Try.func28 (by kernel_rfl) (env_ok TYS.ok mixed ⟨vmfleetmake_Mix.sound, trivial⟩ trivial) (by kernel_rfl) vmfleetmake_Data.eq

/-! vmfleet/vmfleetplan.Blocks -/
noncomputable def vmfleetplan_Blocks.f (n : Int) : Option (List ByteArray) :=
  (loop (Y := (List ByteArray) ⊕ (List ByteArray)) (fun (x1 : List ByteArray × Int) =>
    bif decide (x1.2 < 4) then
      (vmfleetmake_Data.f (IntKind.wrap .i64 (n + x1.2)) (128 : Int)).bind fun r1 =>
      if (x1.1.length + ([r1] : List ByteArray).length) * 16 ≤ 70368744177664 then
        some (.inl (x1.1 ++ ([r1] : List ByteArray), IntKind.wrap .i64 (x1.2 + 1)))
      else none
    else
      some (.inr (.inl x1.1))) ([], (0 : Int))).bind fun o => match o with
  | .inl y2 =>
    some y2
  | .inr r => some r
noncomputable def vmfleetplan_Blocks.sp : FSpec := ⟨[(.int .i64)], [(.own .str)], fun x => vmfleetplan_Blocks.f x⟩
noncomputable def vmfleetplan_Blocks.env : Env := ⟨TYS, [(28, vmfleetmake_Data.sp)], [], [(3, ⟨[0, 2], [⟨3, false, (.own .str)⟩, ⟨4, false, (.int .i64)⟩], [⟨3, false, (.own .str)⟩], 0, none⟩)], [], []⟩
theorem vmfleetplan_Blocks.eq (x) : fnEval vmfleetplan_Blocks.env vmfleetplan_Blocks.sp.args vmfleetplan_Blocks.sp.res Go.Proofs.Try.f26 x = vmfleetplan_Blocks.sp.f x := by kernel_rfl
theorem vmfleetplan_Blocks.sound : Sound Try.prog 26 vmfleetplan_Blocks.sp := Lift.sound (E := vmfleetplan_Blocks.env) Try.func26 (by kernel_rfl) (env_ok TYS.ok mixed ⟨vmfleetmake_Data.sound, trivial⟩ trivial) (by kernel_rfl) vmfleetplan_Blocks.eq

/-! vmfleet/mirror.blocks -/
noncomputable def mirror_blocks.f (l : List ByteArray) : Option Bool :=
  bif decide ((l.length : Int) ≥ 1) then
    bif decide ((l.length : Int) ≤ 64) then
      (loop (Y := (Unit) ⊕ (Bool)) (fun (x1 : Int) =>
        bif decide (x1 < (l.length : Int)) then
          if 0 ≤ x1 ∧ x1 < (l.length : Int) then
            bif !decide (((nth (⟨#[]⟩ : ByteArray) l x1).size : Int) = 128) then
              some (.inr (.inr (!(decide (x1 ≥ 0)))))
            else
              some (.inl (IntKind.wrap .i64 (x1 + 1)))
          else none
        else
          some (.inr (.inl ()))) (0 : Int)).bind fun o => match o with
      | .inl y2 =>
        some true
      | .inr r => some r
    else
      some false
  else
    some false
noncomputable def mirror_blocks.sp : FSpec := ⟨[(.sl .str)], [.bool], fun x => mirror_blocks.f x⟩
noncomputable def mirror_blocks.env : Env := ⟨TYS, [], [(62, Go.Proofs.Try.f62), (63, Go.Proofs.Try.f63), (77, Go.Proofs.Try.f77)], [], [], [(62, ([], [])), (63, ([], [])), (77, ([(2, ⟨[0, 1, 7], [⟨8, false, (.int .i64)⟩], [], 0, none⟩)], []))]⟩
theorem mirror_blocks.eq (x) : fnEval mirror_blocks.env mirror_blocks.sp.args mirror_blocks.sp.res Go.Proofs.Try.f43 x = mirror_blocks.sp.f x := by kernel_rfl
theorem mirror_blocks.sound : Sound Try.prog 43 mirror_blocks.sp := Lift.sound (E := mirror_blocks.env) Try.func43 (by kernel_rfl) (env_ok TYS.ok mixed trivial ⟨inl_ok Try.func62 (by kernel_rfl), inl_ok Try.func63 (by kernel_rfl), inl_ok Try.func77 (by kernel_rfl), trivial⟩) (by kernel_rfl) mirror_blocks.eq

/-! slices.Clone[[]string,string] -/
noncomputable def slices_Clone_string_string.f (s : List ByteArray) : Option (List ByteArray) :=
  bif s.isEmpty then
    both
      (some [])
      (if (([] : List ByteArray).length + s.length) * 16 ≤ 70368744177664 then
        some (([] : List ByteArray) ++ s)
      else none)
  else
    if (([] : List ByteArray).length + s.length) * 16 ≤ 70368744177664 then
      some (([] : List ByteArray) ++ s)
    else none
noncomputable def slices_Clone_string_string.sp : FSpec := ⟨[(.sl .str)], [(.own .str)], fun x => slices_Clone_string_string.f x⟩
noncomputable def slices_Clone_string_string.env : Env := ⟨TYS, [], [], [], [], []⟩
theorem slices_Clone_string_string.eq (x) : fnEval slices_Clone_string_string.env slices_Clone_string_string.sp.args slices_Clone_string_string.sp.res Go.Proofs.Try.f44 x = slices_Clone_string_string.sp.f x := by kernel_rfl
theorem slices_Clone_string_string.sound : Sound Try.prog 44 slices_Clone_string_string.sp := Lift.sound (E := slices_Clone_string_string.env) Try.func44 (by kernel_rfl) (env_ok TYS.ok mixed trivial trivial) (by kernel_rfl) slices_Clone_string_string.eq

/-! vmfleet/mirror.Begin -/
noncomputable def mirror_Begin.f (source : List ByteArray) : Option ((List ByteArray × List ByteArray × Int) × Bool) :=
  (mirror_blocks.f source).bind fun r1 =>
  bif !r1 then
    some (([], [], (0 : Int)), false)
  else
    (slices_Clone_string_string.f source).bind fun r2 =>
    (loop (Y := (List ByteArray × List ByteArray × Int) ⊕ ((List ByteArray × List ByteArray × Int) × Bool)) (fun (x1 : (List ByteArray × List ByteArray × Int) × Int) =>
      bif decide (x1.2 < (source.length : Int)) then
        (strings_Repeat.f (⟨#[0]⟩ : ByteArray) (128 : Int)).bind fun r3 =>
        if (x1.1.2.1.length + ([r3] : List ByteArray).length) * 16 ≤ 70368744177664 then
          some (.inl ((x1.1.1, x1.1.2.1 ++ ([r3] : List ByteArray), x1.1.2.2), IntKind.wrap .i64 (x1.2 + 1)))
        else none
      else
        some (.inr (.inl x1.1))) ((r2, [], (0 : Int)), (0 : Int))).bind fun o => match o with
    | .inl y2 =>
      some (y2, true)
    | .inr r => some r
noncomputable def mirror_Begin.sp : FSpec := ⟨[(.sl .str)], [(.st (.pair (.own .str) (.pair (.own .str) (.int .i64)))), .bool], fun x => mirror_Begin.f x⟩
noncomputable def mirror_Begin.env : Env := ⟨TYS, [(43, mirror_blocks.sp), (44, slices_Clone_string_string.sp), (45, strings_Repeat.sp)], [], [(5, ⟨[2, 3, 13], [⟨4, true, (.st (.pair (.own .str) (.pair (.own .str) (.int .i64))))⟩, ⟨14, false, (.int .i64)⟩], [⟨4, true, (.st (.pair (.own .str) (.pair (.own .str) (.int .i64))))⟩], 0, none⟩)], [], []⟩
theorem mirror_Begin.eq (x) : fnEval mirror_Begin.env mirror_Begin.sp.args mirror_Begin.sp.res Go.Proofs.Try.f13 x = mirror_Begin.sp.f x := by kernel_rfl
theorem mirror_Begin.sound : Sound Try.prog 13 mirror_Begin.sp := Lift.sound (E := mirror_Begin.env) Try.func13 (by kernel_rfl) (env_ok TYS.ok mixed ⟨mirror_blocks.sound, slices_Clone_string_string.sound, strings_Repeat.sound, trivial⟩ trivial) (by kernel_rfl) mirror_Begin.eq

/-! vmfleet/mirror.copied -/
noncomputable def mirror_copied.f (m : List ByteArray × List ByteArray × Int) : Option (List ByteArray × List ByteArray × Int) :=
  (slices_Clone_string_string.f m.1).bind fun r1 =>
  (slices_Clone_string_string.f m.2.1).bind fun r2 =>
  some (r1, r2, m.2.2)
noncomputable def mirror_copied.sp : FSpec := ⟨[(.st (.pair (.sl .str) (.pair (.sl .str) (.int .i64))))], [(.st (.pair (.own .str) (.pair (.own .str) (.int .i64))))], fun x => mirror_copied.f x⟩
noncomputable def mirror_copied.env : Env := ⟨TYS, [(44, slices_Clone_string_string.sp)], [], [], [], []⟩
theorem mirror_copied.eq (x) : fnEval mirror_copied.env mirror_copied.sp.args mirror_copied.sp.res Go.Proofs.Try.f46 x = mirror_copied.sp.f x := by kernel_rfl
theorem mirror_copied.sound : Sound Try.prog 46 mirror_copied.sp := Lift.sound (E := mirror_copied.env) Try.func46 (by kernel_rfl) (env_ok TYS.ok mixed ⟨slices_Clone_string_string.sound, trivial⟩ trivial) (by kernel_rfl) mirror_copied.eq

/-! slices.Equal[[]string,string] -/
noncomputable def slices_Equal_string_string.f (s1 : List ByteArray) (s2 : List ByteArray) : Option Bool :=
  bif !decide ((s1.length : Int) = (s2.length : Int)) then
    some false
  else
    (loop (Y := (Unit) ⊕ (Bool)) (fun (x1 : Int) =>
      bif decide (x1 < (s1.length : Int)) then
        if 0 ≤ x1 ∧ x1 < (s1.length : Int) then
          if 0 ≤ x1 ∧ x1 < (s2.length : Int) then
            bif !decide ((nth (⟨#[]⟩ : ByteArray) s1 x1) = (nth (⟨#[]⟩ : ByteArray) s2 x1)) then
              some (.inr (.inr false))
            else
              some (.inl (IntKind.wrap .i64 (x1 + 1)))
          else none
        else none
      else
        some (.inr (.inl ()))) (0 : Int)).bind fun o => match o with
    | .inl y2 =>
      some true
    | .inr r => some r
noncomputable def slices_Equal_string_string.sp : FSpec := ⟨[(.sl .str), (.sl .str)], [.bool], fun x => slices_Equal_string_string.f x.1 x.2⟩
noncomputable def slices_Equal_string_string.env : Env := ⟨TYS, [], [], [(4, ⟨[0, 1, 12], [⟨13, false, (.int .i64)⟩], [], 0, none⟩)], [], []⟩
theorem slices_Equal_string_string.eq (x) : fnEval slices_Equal_string_string.env slices_Equal_string_string.sp.args slices_Equal_string_string.sp.res Go.Proofs.Try.f47 x = slices_Equal_string_string.sp.f x := by kernel_rfl
theorem slices_Equal_string_string.sound : Sound Try.prog 47 slices_Equal_string_string.sp := Lift.sound (E := slices_Equal_string_string.env) Try.func47 (by kernel_rfl) (env_ok TYS.ok mixed trivial trivial) (by kernel_rfl) slices_Equal_string_string.eq

/-! vmfleet/mirror.Valid -/
noncomputable def mirror_Valid.f (m : List ByteArray × List ByteArray × Int) : Option Bool :=
  (mirror_blocks.f m.1).bind fun r1 =>
  bif r1 then
    (mirror_blocks.f m.2.1).bind fun r2 =>
    bif r2 then
      bif (decide ((m.1.length : Int) = (m.2.1.length : Int))) then
        bif decide (m.2.2 ≥ 0) then
          bif decide (m.2.2 ≤ (m.1.length : Int)) then
            if 0 ≤ m.2.2 ∧ m.2.2 ≤ (m.1.length : Int) then
              if 0 ≤ m.2.2 ∧ m.2.2 ≤ (m.2.1.length : Int) then
                (slices_Equal_string_string.f (slc m.1 (0 : Int) m.2.2) (slc m.2.1 (0 : Int) m.2.2)).bind fun r3 =>
                some r3
              else none
            else none
          else
            some false
        else
          some false
      else
        some false
    else
      some false
  else
    some false
noncomputable def mirror_Valid.sp : FSpec := ⟨[(.st (.pair (.sl .str) (.pair (.sl .str) (.int .i64))))], [.bool], fun x => mirror_Valid.f x⟩
noncomputable def mirror_Valid.env : Env := ⟨TYS, [(43, mirror_blocks.sp), (47, slices_Equal_string_string.sp)], [], [], [], []⟩
theorem mirror_Valid.eq (x) : fnEval mirror_Valid.env mirror_Valid.sp.args mirror_Valid.sp.res Go.Proofs.Try.f19 x = mirror_Valid.sp.f x := by kernel_rfl
theorem mirror_Valid.sound : Sound Try.prog 19 mirror_Valid.sp := Lift.sound (E := mirror_Valid.env) Try.func19 (by kernel_rfl) (env_ok TYS.ok mixed ⟨mirror_blocks.sound, slices_Equal_string_string.sound, trivial⟩ trivial) (by kernel_rfl) mirror_Valid.eq

/-! vmfleet/mirror.Copy -/
noncomputable def mirror_Copy.f (m : List ByteArray × List ByteArray × Int) (n : Int) : Option (List ByteArray × List ByteArray × Int) :=
  (mirror_copied.f m).bind fun r1 =>
  (mirror_Valid.f r1).bind fun r2 =>
  bif !r2 then
    some r1
  else
    (loop (Y := (List ByteArray × List ByteArray × Int) ⊕ (List ByteArray × List ByteArray × Int)) (fun (x1 : Int × List ByteArray × List ByteArray × Int) =>
      bif decide (x1.1 > 0) then
        bif (decide (x1.2.2.2 < (x1.2.1.length : Int))) then
          if 0 ≤ x1.2.2.2 ∧ x1.2.2.2 < (x1.2.1.length : Int) then
            if 0 ≤ x1.2.2.2 ∧ x1.2.2.2 < (x1.2.2.1.length : Int) then
              some (.inl (IntKind.wrap .i64 (x1.1 - 1), x1.2.1, (put x1.2.2.1 x1.2.2.2 (nth (⟨#[]⟩ : ByteArray) x1.2.1 x1.2.2.2)), IntKind.wrap .i64 (x1.2.2.2 + 1)))
            else none
          else none
        else
          some (.inr (.inl x1.2))
      else
        some (.inr (.inl x1.2))) (n, r1)).bind fun o => match o with
    | .inl y2 =>
      some y2
    | .inr r => some r
noncomputable def mirror_Copy.sp : FSpec := ⟨[(.st (.pair (.sl .str) (.pair (.sl .str) (.int .i64)))), (.int .i64)], [(.st (.pair (.own .str) (.pair (.own .str) (.int .i64))))], fun x => mirror_Copy.f x.1 x.2⟩
noncomputable def mirror_Copy.env : Env := ⟨TYS, [(19, mirror_Valid.sp), (46, mirror_copied.sp)], [], [(4, ⟨[4], [⟨1, false, (.int .i64)⟩, ⟨2, true, (.st (.pair (.own .str) (.pair (.own .str) (.int .i64))))⟩], [⟨2, true, (.st (.pair (.own .str) (.pair (.own .str) (.int .i64))))⟩], 0, none⟩)], [], []⟩
theorem mirror_Copy.eq (x) : fnEval mirror_Copy.env mirror_Copy.sp.args mirror_Copy.sp.res Go.Proofs.Try.f22 x = mirror_Copy.sp.f x := by kernel_rfl
theorem mirror_Copy.sound : Sound Try.prog 22 mirror_Copy.sp := Lift.sound (E := mirror_Copy.env) Try.func22 (by kernel_rfl) (env_ok TYS.ok mixed ⟨mirror_Valid.sound, mirror_copied.sound, trivial⟩ trivial) (by kernel_rfl) mirror_Copy.eq

/-! vmfleet/mirror.Write -/
noncomputable def mirror_Write.f (m : List ByteArray × List ByteArray × Int) (block : Int) (data : ByteArray) : Option ((List ByteArray × List ByteArray × Int) × Bool) :=
  (mirror_copied.f m).bind fun r1 =>
  (mirror_Valid.f r1).bind fun r2 =>
  bif !r2 then
    some (r1, false)
  else
    bif decide (block < 0) then
      some (r1, false)
    else
      bif decide (block ≥ (r1.1.length : Int)) then
        some (r1, false)
      else
        bif !decide ((data.size : Int) = 128) then
          some (r1, false)
        else
          if 0 ≤ block ∧ block < (r1.1.length : Int) then
            bif decide (block < r1.2.2) then
              if 0 ≤ block ∧ block < (r1.2.1.length : Int) then
                some ((put r1.1 block data, put r1.2.1 block data, r1.2.2), true)
              else none
            else
              some ((put r1.1 block data, r1.2), true)
          else none
noncomputable def mirror_Write.sp : FSpec := ⟨[(.st (.pair (.sl .str) (.pair (.sl .str) (.int .i64)))), (.int .i64), .str], [(.st (.pair (.own .str) (.pair (.own .str) (.int .i64)))), .bool], fun x => mirror_Write.f x.1 x.2.1 x.2.2⟩
noncomputable def mirror_Write.env : Env := ⟨TYS, [(19, mirror_Valid.sp), (46, mirror_copied.sp)], [], [], [], []⟩
theorem mirror_Write.eq (x) : fnEval mirror_Write.env mirror_Write.sp.args mirror_Write.sp.res Go.Proofs.Try.f15 x = mirror_Write.sp.f x := by kernel_rfl
theorem mirror_Write.sound : Sound Try.prog 15 mirror_Write.sp := Lift.sound (E := mirror_Write.env) Try.func15 (by kernel_rfl) (env_ok TYS.ok mixed ⟨mirror_Valid.sound, mirror_copied.sound, trivial⟩ trivial) (by kernel_rfl) mirror_Write.eq

/-! vmfleet/mirror.Done -/
noncomputable def mirror_Done.f (m : List ByteArray × List ByteArray × Int) : Option Bool :=
  (mirror_Valid.f m).bind fun r1 =>
  bif r1 then
    some (decide (m.2.2 = (m.1.length : Int)))
  else
    some false
noncomputable def mirror_Done.sp : FSpec := ⟨[(.st (.pair (.sl .str) (.pair (.sl .str) (.int .i64))))], [.bool], fun x => mirror_Done.f x⟩
noncomputable def mirror_Done.env : Env := ⟨TYS, [(19, mirror_Valid.sp)], [], [], [], []⟩
theorem mirror_Done.eq (x) : fnEval mirror_Done.env mirror_Done.sp.args mirror_Done.sp.res Go.Proofs.Try.f24 x = mirror_Done.sp.f x := by kernel_rfl
theorem mirror_Done.sound : Sound Try.prog 24 mirror_Done.sp := Lift.sound (E := mirror_Done.env) Try.func24 (by kernel_rfl) (env_ok TYS.ok mixed ⟨mirror_Valid.sound, trivial⟩ trivial) (by kernel_rfl) mirror_Done.eq

/-! vmfleet/mirror.Switch -/
noncomputable def mirror_Switch.f (m : List ByteArray × List ByteArray × Int) : Option (List ByteArray × Bool) :=
  (mirror_Done.f m).bind fun r1 =>
  bif !r1 then
    some ([], false)
  else
    (slices_Clone_string_string.f m.2.1).bind fun r2 =>
    some (r2, true)
noncomputable def mirror_Switch.sp : FSpec := ⟨[(.st (.pair (.sl .str) (.pair (.sl .str) (.int .i64))))], [(.own .str), .bool], fun x => mirror_Switch.f x⟩
noncomputable def mirror_Switch.env : Env := ⟨TYS, [(24, mirror_Done.sp), (44, slices_Clone_string_string.sp)], [], [], [], []⟩
theorem mirror_Switch.eq (x) : fnEval mirror_Switch.env mirror_Switch.sp.args mirror_Switch.sp.res Go.Proofs.Try.f17 x = mirror_Switch.sp.f x := by kernel_rfl
theorem mirror_Switch.sound : Sound Try.prog 17 mirror_Switch.sp := Lift.sound (E := mirror_Switch.env) Try.func17 (by kernel_rfl) (env_ok TYS.ok mixed ⟨mirror_Done.sound, slices_Clone_string_string.sound, trivial⟩ trivial) (by kernel_rfl) mirror_Switch.eq

/-! vmfleet/vmfleetlaw32.awake -/
noncomputable def vmfleetlaw32_awake.f  : Option Bool :=
  (vmfleetplan_Blocks.f (1 : Int)).bind fun r1 =>
  (mirror_Begin.f r1).bind fun r2 =>
  (mirror_Copy.f r2.1 (1 : Int)).bind fun r3 =>
  (vmfleetmake_Data.f (9 : Int) (128 : Int)).bind fun r4 =>
  (mirror_Write.f r3 (0 : Int) r4).bind fun r5 =>
  (mirror_Write.f r3 (1 : Int) r4).bind fun r6 =>
  (mirror_Switch.f r3).bind fun r7 =>
  bif !r2.2 then
    some false
  else
    bif !r5.2 then
      some false
    else
      bif !r6.2 then
        some false
      else
        bif !decide ((r5.1.2.1.length : Int) = 4) then
          some false
        else
          bif !decide ((r6.1.2.1.length : Int) = 4) then
            some false
          else
            (mirror_Copy.f r6.1 (9 : Int)).bind fun r8 =>
            (mirror_Switch.f r8).bind fun r9 =>
            if 0 ≤ (0 : Int) ∧ (0 : Int) < (r5.1.2.1.length : Int) then
              bif decide ((nth (⟨#[]⟩ : ByteArray) r5.1.2.1 (0 : Int)) = r4) then
                if 0 ≤ (1 : Int) ∧ (1 : Int) < (r6.1.2.1.length : Int) then
                  bif (!decide ((nth (⟨#[]⟩ : ByteArray) r6.1.2.1 (1 : Int)) = r4)) then
                    if 0 ≤ (1 : Int) ∧ (1 : Int) < (r6.1.1.length : Int) then
                      bif (decide ((nth (⟨#[]⟩ : ByteArray) r6.1.1 (1 : Int)) = r4)) then
                        bif !r7.2 then
                          bif r9.2 then
                            bif decide ((r9.1.length : Int) = 4) then
                              if 0 ≤ (1 : Int) ∧ (1 : Int) < (r9.1.length : Int) then
                                some (decide ((nth (⟨#[]⟩ : ByteArray) r9.1 (1 : Int)) = r4))
                              else none
                            else
                              some false
                          else
                            some false
                        else
                          some false
                      else
                        some false
                    else none
                  else
                    some false
                else none
              else
                some false
            else none
noncomputable def vmfleetlaw32_awake.sp : FSpec := ⟨[], [.bool], fun _ => vmfleetlaw32_awake.f⟩
noncomputable def vmfleetlaw32_awake.env : Env := ⟨TYS, [(13, mirror_Begin.sp), (15, mirror_Write.sp), (17, mirror_Switch.sp), (22, mirror_Copy.sp), (26, vmfleetplan_Blocks.sp), (28, vmfleetmake_Data.sp)], [], [], [], []⟩
theorem vmfleetlaw32_awake.eq (x) : fnEval vmfleetlaw32_awake.env vmfleetlaw32_awake.sp.args vmfleetlaw32_awake.sp.res Go.Proofs.Try.f12 x = vmfleetlaw32_awake.sp.f x := by kernel_rfl
theorem vmfleetlaw32_awake.sound : Sound Try.prog 12 vmfleetlaw32_awake.sp := Lift.sound (E := vmfleetlaw32_awake.env) Try.func12 (by kernel_rfl) (env_ok TYS.ok mixed ⟨mirror_Begin.sound, mirror_Write.sound, mirror_Switch.sound, mirror_Copy.sound, vmfleetplan_Blocks.sound, vmfleetmake_Data.sound, trivial⟩ trivial) (by kernel_rfl) vmfleetlaw32_awake.eq

/-! vmfleet/vmfleetref30.ValidMirror -/
noncomputable def vmfleetref30_ValidMirror.f (m : List ByteArray × List ByteArray × Int) : Option Bool :=
  bif decide ((m.1.length : Int) < 1) then
    some false
  else
    bif decide ((m.1.length : Int) > 64) then
      some false
    else
      bif (!decide ((m.2.1.length : Int) = (m.1.length : Int))) then
        some false
      else
        bif decide (m.2.2 < 0) then
          some false
        else
          bif decide (m.2.2 > (m.1.length : Int)) then
            some false
          else
            (loop (Y := (Unit) ⊕ (Bool)) (fun (x1 : Int) =>
              bif decide (x1 < (m.1.length : Int)) then
                if 0 ≤ x1 ∧ x1 < (m.1.length : Int) then
                  bif !decide (((nth (⟨#[]⟩ : ByteArray) m.1 x1).size : Int) = 128) then
                    some (.inr (.inr false))
                  else
                    if 0 ≤ x1 ∧ x1 < (m.2.1.length : Int) then
                      bif (!decide (((nth (⟨#[]⟩ : ByteArray) m.2.1 x1).size : Int) = 128)) then
                        some (.inr (.inr false))
                      else
                        bif decide (x1 < m.2.2) then
                          if 0 ≤ x1 ∧ x1 < (m.1.length : Int) then
                            if 0 ≤ x1 ∧ x1 < (m.2.1.length : Int) then
                              bif (!decide ((nth (⟨#[]⟩ : ByteArray) m.1 x1) = (nth (⟨#[]⟩ : ByteArray) m.2.1 x1))) then
                                some (.inr (.inr false))
                              else
                                some (.inl (IntKind.wrap .i64 (x1 + 1)))
                            else none
                          else none
                        else
                          some (.inl (IntKind.wrap .i64 (x1 + 1)))
                    else none
                else none
              else
                some (.inr (.inl ()))) (0 : Int)).bind fun o => match o with
            | .inl y2 =>
              some true
            | .inr r => some r
noncomputable def vmfleetref30_ValidMirror.sp : FSpec := ⟨[(.st (.pair (.sl .str) (.pair (.sl .str) (.int .i64))))], [.bool], fun x => vmfleetref30_ValidMirror.f x⟩
noncomputable def vmfleetref30_ValidMirror.env : Env := ⟨TYS, [], [], [(5, ⟨[1, 3], [⟨4, false, (.int .i64)⟩], [], 0, none⟩)], [], []⟩
theorem vmfleetref30_ValidMirror.eq (x) : fnEval vmfleetref30_ValidMirror.env vmfleetref30_ValidMirror.sp.args vmfleetref30_ValidMirror.sp.res Go.Proofs.Try.f20 x = vmfleetref30_ValidMirror.sp.f x := by kernel_rfl
theorem vmfleetref30_ValidMirror.sound : Sound Try.prog 20 vmfleetref30_ValidMirror.sp := Lift.sound (E := vmfleetref30_ValidMirror.env) Try.func20 (by kernel_rfl) (env_ok TYS.ok mixed trivial trivial) (by kernel_rfl) vmfleetref30_ValidMirror.eq

/-! vmfleet/vmfleetref30.BeginMirror -/
noncomputable def vmfleetref30_BeginMirror.f (source : List ByteArray) : Option ((List ByteArray × List ByteArray × Int) × Bool) :=
  if (([] : List ByteArray).length + source.length) * 16 ≤ 70368744177664 then
    (loop (Y := (List ByteArray × List ByteArray × Int) ⊕ ((List ByteArray × List ByteArray × Int) × Bool)) (fun (x1 : (List ByteArray × List ByteArray × Int) × Int) =>
      bif decide (x1.2 < (source.length : Int)) then
        bif decide (x1.2 ≤ 64) then
          if (x1.1.2.1.length + ([strOf (List.replicate 128 (0 : Int))] : List ByteArray).length) * 16 ≤ 70368744177664 then
            some (.inl ((x1.1.1, (x1.1.2.1 ++ ([strOf (List.replicate 128 (0 : Int))] : List ByteArray)), x1.1.2.2), IntKind.wrap .i64 (x1.2 + 1)))
          else none
        else
          some (.inr (.inl x1.1))
      else
        some (.inr (.inl x1.1))) ((([] : List ByteArray) ++ source, [], (0 : Int)), (0 : Int))).bind fun o => match o with
    | .inl y2 =>
      (vmfleetref30_ValidMirror.f y2).bind fun r1 =>
      bif !r1 then
        some (([], [], (0 : Int)), false)
      else
        some (y2, true)
    | .inr r => some r
  else none
noncomputable def vmfleetref30_BeginMirror.sp : FSpec := ⟨[(.sl .str)], [(.st (.pair (.own .str) (.pair (.own .str) (.int .i64)))), .bool], fun x => vmfleetref30_BeginMirror.f x⟩
noncomputable def vmfleetref30_BeginMirror.env : Env := ⟨TYS, [(20, vmfleetref30_ValidMirror.sp)], [], [(3, ⟨[0, 2, 3], [⟨4, true, (.st (.pair (.own .str) (.pair (.own .str) (.int .i64))))⟩, ⟨5, false, (.int .i64)⟩], [⟨4, true, (.st (.pair (.own .str) (.pair (.own .str) (.int .i64))))⟩], 0, none⟩)], [], []⟩
theorem vmfleetref30_BeginMirror.eq (x) : fnEval vmfleetref30_BeginMirror.env vmfleetref30_BeginMirror.sp.args vmfleetref30_BeginMirror.sp.res Go.Proofs.Try.f14 x = vmfleetref30_BeginMirror.sp.f x := by kernel_rfl
theorem vmfleetref30_BeginMirror.sound : Sound Try.prog 14 vmfleetref30_BeginMirror.sp := Lift.sound (E := vmfleetref30_BeginMirror.env) Try.func14 (by kernel_rfl) (env_ok TYS.ok mixed ⟨vmfleetref30_ValidMirror.sound, trivial⟩ trivial) (by kernel_rfl) vmfleetref30_BeginMirror.eq

/-! vmfleet/vmfleetref30.WriteBlock -/
noncomputable def vmfleetref30_WriteBlock.f (m : List ByteArray × List ByteArray × Int) (block : Int) (data : ByteArray) : Option ((List ByteArray × List ByteArray × Int) × Bool) :=
  (vmfleetref30_ValidMirror.f m).bind fun r1 =>
  bif !r1 then
    some (m, false)
  else
    bif decide (block < 0) then
      some (m, false)
    else
      bif decide (block ≥ (m.1.length : Int)) then
        some (m, false)
      else
        bif !decide ((data.size : Int) = 128) then
          some (m, false)
        else
          if (([] : List ByteArray).length + m.1.length) * 16 ≤ 70368744177664 then
            if 0 ≤ block ∧ block < ((([] : List ByteArray) ++ m.1).length : Int) then
              let v1 := put (([] : List ByteArray) ++ m.1) block data
              bif decide (block < m.2.2) then
                if (([] : List ByteArray).length + m.2.1.length) * 16 ≤ 70368744177664 then
                  if 0 ≤ block ∧ block < ((([] : List ByteArray) ++ m.2.1).length : Int) then
                    some ((v1, (put (([] : List ByteArray) ++ m.2.1) block data), m.2.2), true)
                  else none
                else none
              else
                some ((v1, m.2), true)
            else none
          else none
noncomputable def vmfleetref30_WriteBlock.sp : FSpec := ⟨[(.st (.pair (.sl .str) (.pair (.sl .str) (.int .i64)))), (.int .i64), .str], [(.st (.pair (.sl .str) (.pair (.sl .str) (.int .i64)))), .bool], fun x => vmfleetref30_WriteBlock.f x.1 x.2.1 x.2.2⟩
noncomputable def vmfleetref30_WriteBlock.env : Env := ⟨TYS, [(20, vmfleetref30_ValidMirror.sp)], [], [], [], []⟩
theorem vmfleetref30_WriteBlock.eq (x) : fnEval vmfleetref30_WriteBlock.env vmfleetref30_WriteBlock.sp.args vmfleetref30_WriteBlock.sp.res Go.Proofs.Try.f16 x = vmfleetref30_WriteBlock.sp.f x := by kernel_rfl
theorem vmfleetref30_WriteBlock.sound : Sound Try.prog 16 vmfleetref30_WriteBlock.sp := Lift.sound (E := vmfleetref30_WriteBlock.env) Try.func16 (by kernel_rfl) (env_ok TYS.ok mixed ⟨vmfleetref30_ValidMirror.sound, trivial⟩ trivial) (by kernel_rfl) vmfleetref30_WriteBlock.eq

/-! vmfleet/vmfleetref30.DoneMirror -/
noncomputable def vmfleetref30_DoneMirror.f (m : List ByteArray × List ByteArray × Int) : Option Bool :=
  (vmfleetref30_ValidMirror.f m).bind fun r1 =>
  bif r1 then
    some (decide (m.2.2 = (m.1.length : Int)))
  else
    some false
noncomputable def vmfleetref30_DoneMirror.sp : FSpec := ⟨[(.st (.pair (.sl .str) (.pair (.sl .str) (.int .i64))))], [.bool], fun x => vmfleetref30_DoneMirror.f x⟩
noncomputable def vmfleetref30_DoneMirror.env : Env := ⟨TYS, [(20, vmfleetref30_ValidMirror.sp)], [], [], [], []⟩
theorem vmfleetref30_DoneMirror.eq (x) : fnEval vmfleetref30_DoneMirror.env vmfleetref30_DoneMirror.sp.args vmfleetref30_DoneMirror.sp.res Go.Proofs.Try.f18 x = vmfleetref30_DoneMirror.sp.f x := by kernel_rfl
theorem vmfleetref30_DoneMirror.sound : Sound Try.prog 18 vmfleetref30_DoneMirror.sp := Lift.sound (E := vmfleetref30_DoneMirror.env) Try.func18 (by kernel_rfl) (env_ok TYS.ok mixed ⟨vmfleetref30_ValidMirror.sound, trivial⟩ trivial) (by kernel_rfl) vmfleetref30_DoneMirror.eq

/-! vmfleet/vmfleetref1.SameStrings -/
noncomputable def vmfleetref1_SameStrings.f (a : List ByteArray) (b : List ByteArray) : Option Bool :=
  bif !decide ((a.length : Int) = (b.length : Int)) then
    some false
  else
    (loop (Y := (Unit) ⊕ (Bool)) (fun (x1 : Int) =>
      bif decide (x1 < (a.length : Int)) then
        if 0 ≤ x1 ∧ x1 < (a.length : Int) then
          if 0 ≤ x1 ∧ x1 < (b.length : Int) then
            bif !decide ((nth (⟨#[]⟩ : ByteArray) a x1) = (nth (⟨#[]⟩ : ByteArray) b x1)) then
              some (.inr (.inr false))
            else
              some (.inl (IntKind.wrap .i64 (x1 + 1)))
          else none
        else none
      else
        some (.inr (.inl ()))) (0 : Int)).bind fun o => match o with
    | .inl y2 =>
      some true
    | .inr r => some r
noncomputable def vmfleetref1_SameStrings.sp : FSpec := ⟨[(.sl .str), (.sl .str)], [.bool], fun x => vmfleetref1_SameStrings.f x.1 x.2⟩
noncomputable def vmfleetref1_SameStrings.env : Env := ⟨TYS, [], [], [(4, ⟨[0, 1], [⟨5, false, (.int .i64)⟩], [], 0, none⟩)], [], []⟩
theorem vmfleetref1_SameStrings.eq (x) : fnEval vmfleetref1_SameStrings.env vmfleetref1_SameStrings.sp.args vmfleetref1_SameStrings.sp.res Go.Proofs.Try.f25 x = vmfleetref1_SameStrings.sp.f x := by kernel_rfl
theorem vmfleetref1_SameStrings.sound : Sound Try.prog 25 vmfleetref1_SameStrings.sp := Lift.sound (E := vmfleetref1_SameStrings.env) Try.func25 (by kernel_rfl) (env_ok TYS.ok mixed trivial trivial) (by kernel_rfl) vmfleetref1_SameStrings.eq

/-! vmfleet/vmfleetref30.SameMirror -/
noncomputable def vmfleetref30_SameMirror.f (a : List ByteArray × List ByteArray × Int) (b : List ByteArray × List ByteArray × Int) : Option Bool :=
  bif decide (a.2.2 = b.2.2) then
    (vmfleetref1_SameStrings.f a.1 b.1).bind fun r1 =>
    bif r1 then
      (vmfleetref1_SameStrings.f a.2.1 b.2.1).bind fun r2 =>
      some r2
    else
      some false
  else
    some false
noncomputable def vmfleetref30_SameMirror.sp : FSpec := ⟨[(.st (.pair (.sl .str) (.pair (.sl .str) (.int .i64)))), (.st (.pair (.sl .str) (.pair (.sl .str) (.int .i64))))], [.bool], fun x => vmfleetref30_SameMirror.f x.1 x.2⟩
noncomputable def vmfleetref30_SameMirror.env : Env := ⟨TYS, [(25, vmfleetref1_SameStrings.sp)], [], [], [], []⟩
theorem vmfleetref30_SameMirror.eq (x) : fnEval vmfleetref30_SameMirror.env vmfleetref30_SameMirror.sp.args vmfleetref30_SameMirror.sp.res Go.Proofs.Try.f21 x = vmfleetref30_SameMirror.sp.f x := by kernel_rfl
theorem vmfleetref30_SameMirror.sound : Sound Try.prog 21 vmfleetref30_SameMirror.sp := Lift.sound (E := vmfleetref30_SameMirror.env) Try.func21 (by kernel_rfl) (env_ok TYS.ok mixed ⟨vmfleetref1_SameStrings.sound, trivial⟩ trivial) (by kernel_rfl) vmfleetref30_SameMirror.eq

/-! vmfleet/vmfleetref30.CopyBlocks -/
noncomputable def vmfleetref30_CopyBlocks.f (m : List ByteArray × List ByteArray × Int) (n : Int) : Option (List ByteArray × List ByteArray × Int) :=
  (vmfleetref30_ValidMirror.f m).bind fun r1 =>
  bif !r1 then
    some m
  else
    if (([] : List ByteArray).length + m.2.1.length) * 16 ≤ 70368744177664 then
      (loop (Y := (List ByteArray × List ByteArray × Int) ⊕ (List ByteArray × List ByteArray × Int)) (fun (x1 : Int × List ByteArray × List ByteArray × Int) =>
        bif decide (x1.1 > 0) then
          bif (decide (x1.2.2.2 < (x1.2.1.length : Int))) then
            if 0 ≤ x1.2.2.2 ∧ x1.2.2.2 < (x1.2.1.length : Int) then
              if 0 ≤ x1.2.2.2 ∧ x1.2.2.2 < (x1.2.2.1.length : Int) then
                some (.inl (IntKind.wrap .i64 (x1.1 - 1), x1.2.1, (put x1.2.2.1 x1.2.2.2 (nth (⟨#[]⟩ : ByteArray) x1.2.1 x1.2.2.2)), IntKind.wrap .i64 (x1.2.2.2 + 1)))
              else none
            else none
          else
            some (.inr (.inl x1.2))
        else
          some (.inr (.inl x1.2))) (n, m.1, ([] : List ByteArray) ++ m.2.1, m.2.2)).bind fun o => match o with
      | .inl y2 =>
        some y2
      | .inr r => some r
    else none
noncomputable def vmfleetref30_CopyBlocks.sp : FSpec := ⟨[(.st (.pair (.sl .str) (.pair (.sl .str) (.int .i64)))), (.int .i64)], [(.st (.pair (.sl .str) (.pair (.sl .str) (.int .i64))))], fun x => vmfleetref30_CopyBlocks.f x.1 x.2⟩
noncomputable def vmfleetref30_CopyBlocks.env : Env := ⟨TYS, [(20, vmfleetref30_ValidMirror.sp)], [], [(4, ⟨[4], [⟨1, false, (.int .i64)⟩, ⟨2, true, (.st (.pair (.sl .str) (.pair (.own .str) (.int .i64))))⟩], [⟨2, true, (.st (.pair (.sl .str) (.pair (.own .str) (.int .i64))))⟩], 0, none⟩)], [], []⟩
theorem vmfleetref30_CopyBlocks.eq (x) : fnEval vmfleetref30_CopyBlocks.env vmfleetref30_CopyBlocks.sp.args vmfleetref30_CopyBlocks.sp.res Go.Proofs.Try.f23 x = vmfleetref30_CopyBlocks.sp.f x := by kernel_rfl
theorem vmfleetref30_CopyBlocks.sound : Sound Try.prog 23 vmfleetref30_CopyBlocks.sp := Lift.sound (E := vmfleetref30_CopyBlocks.env) Try.func23 (by kernel_rfl) (env_ok TYS.ok mixed ⟨vmfleetref30_ValidMirror.sound, trivial⟩ trivial) (by kernel_rfl) vmfleetref30_CopyBlocks.eq

/-! vmfleet/vmfleetlaw32.MirrorTells -/
noncomputable def vmfleetlaw32_MirrorTells.f (m : List ByteArray × List ByteArray × Int) (n : Int) (block : Int) (data : ByteArray) : Option Bool :=
  (vmfleetlaw32_light.f m.1).bind fun r1 =>
  bif !r1 then
    (vmfleetlaw32_awake.f).bind fun r2 =>
    some r2
  else
    (vmfleetlaw32_light.f m.2.1).bind fun r3 =>
    bif !r3 then
      (vmfleetlaw32_awake.f).bind fun r4 =>
      some r4
    else
      bif decide ((data.size : Int) > 300) then
        (vmfleetlaw32_awake.f).bind fun r5 =>
        some r5
      else
        (mirror_Begin.f m.1).bind fun r6 =>
        (vmfleetref30_BeginMirror.f m.1).bind fun r7 =>
        (mirror_Write.f m block data).bind fun r8 =>
        (vmfleetref30_WriteBlock.f m block data).bind fun r9 =>
        (mirror_Switch.f m).bind fun r10 =>
        (vmfleetref30_DoneMirror.f m).bind fun r11 =>
        (bif !r11 then
          some (.inl [])
        else
          some (.inl m.2.1) : Option ((List ByteArray) ⊕ (Bool))).bind fun o => match o with
        | .inl y1 =>
          (mirror_Valid.f m).bind fun r12 =>
          (vmfleetref30_ValidMirror.f m).bind fun r13 =>
          bif r12 == r13 then
            (vmfleetref30_SameMirror.f r6.1 r7.1).bind fun r14 =>
            bif r14 then
              bif r6.2 == r7.2 then
                (mirror_Copy.f m n).bind fun r15 =>
                (vmfleetref30_CopyBlocks.f m n).bind fun r16 =>
                (vmfleetref30_SameMirror.f r15 r16).bind fun r17 =>
                bif r17 then
                  (vmfleetref30_SameMirror.f r8.1 r9.1).bind fun r18 =>
                  bif r18 then
                    bif r8.2 == r9.2 then
                      (mirror_Done.f m).bind fun r19 =>
                      bif r19 == r11 then
                        bif r10.2 == r11 then
                          (vmfleetref1_SameStrings.f r10.1 y1).bind fun r20 =>
                          bif r20 then
                            (vmfleetlaw32_awake.f).bind fun r21 =>
                            some r21
                          else
                            some false
                        else
                          some false
                      else
                        some false
                    else
                      some false
                  else
                    some false
                else
                  some false
              else
                some false
            else
              some false
          else
            some false
        | .inr r => some r
noncomputable def vmfleetlaw32_MirrorTells.sp : FSpec := ⟨[(.st (.pair (.sl .str) (.pair (.sl .str) (.int .i64)))), (.int .i64), (.int .i64), .str], [.bool], fun x => vmfleetlaw32_MirrorTells.f x.1 x.2.1 x.2.2.1 x.2.2.2⟩
noncomputable def vmfleetlaw32_MirrorTells.env : Env := ⟨TYS, [(11, vmfleetlaw32_light.sp), (12, vmfleetlaw32_awake.sp), (13, mirror_Begin.sp), (14, vmfleetref30_BeginMirror.sp), (15, mirror_Write.sp), (16, vmfleetref30_WriteBlock.sp), (17, mirror_Switch.sp), (18, vmfleetref30_DoneMirror.sp), (19, mirror_Valid.sp), (20, vmfleetref30_ValidMirror.sp), (21, vmfleetref30_SameMirror.sp), (22, mirror_Copy.sp), (23, vmfleetref30_CopyBlocks.sp), (24, mirror_Done.sp), (25, vmfleetref1_SameStrings.sp)], [], [], [(11, ⟨[1, 4, 8, 9, 10, 11, 12, 13, 14, 15, 16, 17, 18, 20], [], [⟨19, false, (.sl .str)⟩], 0, none⟩)], []⟩
theorem vmfleetlaw32_MirrorTells.eq (x) : fnEval vmfleetlaw32_MirrorTells.env vmfleetlaw32_MirrorTells.sp.args vmfleetlaw32_MirrorTells.sp.res Go.Proofs.Try.f3 x = vmfleetlaw32_MirrorTells.sp.f x := by kernel_rfl
theorem vmfleetlaw32_MirrorTells.sound : Sound Try.prog 3 vmfleetlaw32_MirrorTells.sp := Lift.sound (E := vmfleetlaw32_MirrorTells.env) Try.func3 (by kernel_rfl) (env_ok TYS.ok mixed ⟨vmfleetlaw32_light.sound, vmfleetlaw32_awake.sound, mirror_Begin.sound, vmfleetref30_BeginMirror.sound, mirror_Write.sound, vmfleetref30_WriteBlock.sound, mirror_Switch.sound, vmfleetref30_DoneMirror.sound, mirror_Valid.sound, vmfleetref30_ValidMirror.sound, vmfleetref30_SameMirror.sound, mirror_Copy.sound, vmfleetref30_CopyBlocks.sound, mirror_Done.sound, vmfleetref1_SameStrings.sound, trivial⟩ trivial) (by kernel_rfl) vmfleetlaw32_MirrorTells.eq

/-! vmfleet/vmfleetmake.Round -/
noncomputable def vmfleetmake_Round.f (n : Int) (k : Int) : Option Int :=
  if k = 0 then none else
  bif decide ((Int.tmod n k) < 0) then
    some (IntKind.wrap .i64 ((Int.tmod n k) + k))
  else
    some (Int.tmod n k)
noncomputable def vmfleetmake_Round.sp : FSpec := ⟨[(.int .i64), (.int .i64)], [(.int .i64)], fun x => vmfleetmake_Round.f x.1 x.2⟩
noncomputable def vmfleetmake_Round.env : Env := ⟨TYS, [], [], [], [], []⟩
theorem vmfleetmake_Round.eq (x) : fnEval vmfleetmake_Round.env vmfleetmake_Round.sp.args vmfleetmake_Round.sp.res Go.Proofs.Try.f27 x = vmfleetmake_Round.sp.f x := by kernel_rfl
theorem vmfleetmake_Round.sound : Sound Try.prog 27 vmfleetmake_Round.sp := Lift.sound (E := vmfleetmake_Round.env) Try.func27 (by kernel_rfl) (env_ok TYS.ok mixed trivial trivial) (by kernel_rfl) vmfleetmake_Round.eq

/-! vmfleet/vmfleetlaw32.MirrorKeeps -/
noncomputable def vmfleetlaw32_MirrorKeeps.f (n : Int) (l : List Int) : Option Bool :=
  bif decide ((l.length : Int) > 60) then
    (vmfleetlaw32_awake.f).bind fun r1 =>
    some r1
  else
    (vmfleetplan_Blocks.f n).bind fun r2 =>
    (mirror_Begin.f r2).bind fun r3 =>
    bif !r3.2 then
      some false
    else
      (loop (Y := (List ByteArray × List ByteArray × List ByteArray × Int) ⊕ (Bool)) (fun (x1 : List ByteArray × (List ByteArray × List ByteArray × Int) × Int × Int) =>
        bif decide (x1.2.2.2 < (l.length : Int)) then
          (if 0 ≤ x1.2.2.2 ∧ x1.2.2.2 < (l.length : Int) then
            (vmfleetmake_Round.f (nth (0 : Int) l x1.2.2.2) (3 : Int)).bind fun r4 =>
            bif decide (r4 = 0) then
              (mirror_Copy.f x1.2.1 (1 : Int)).bind fun r5 =>
              some (.inl (x1.1, r5, (min (IntKind.wrap .i64 (x1.2.2.1 + 1)) (4 : Int))))
            else
              if 0 ≤ x1.2.2.2 ∧ x1.2.2.2 < (l.length : Int) then
                (vmfleetmake_Round.f (IntKind.wrap .i64 (Int.tdiv (nth (0 : Int) l x1.2.2.2) (3 : Int))) (4 : Int)).bind fun r6 =>
                if 0 ≤ x1.2.2.2 ∧ x1.2.2.2 < (l.length : Int) then
                  (vmfleetmake_Data.f (nth (0 : Int) l x1.2.2.2) (128 : Int)).bind fun r7 =>
                  if 0 ≤ r6 ∧ r6 < (x1.1.length : Int) then
                    if 0 ≤ r6 ∧ r6 < ((put x1.1 r6 r7).length : Int) then
                      (mirror_Write.f x1.2.1 r6 (nth (⟨#[]⟩ : ByteArray) (put x1.1 r6 r7) r6)).bind fun r8 =>
                      bif !r8.2 then
                        some (.inr (.inr (.inr false)))
                      else
                        some (.inl (put x1.1 r6 r7, r8.1, x1.2.2.1))
                    else none
                  else none
                else none
              else none
          else none : Option ((List ByteArray × (List ByteArray × List ByteArray × Int) × Int) ⊕ ((List ByteArray × (List ByteArray × List ByteArray × Int) × Int × Int) ⊕ ((List ByteArray × List ByteArray × List ByteArray × Int) ⊕ (Bool))))).bind fun o => match o with
          | .inl y2 =>
            bif !decide (y2.2.1.2.2 = y2.2.2) then
              some (.inr (.inr false))
            else
              (mirror_Valid.f y2.2.1).bind fun r9 =>
              bif !r9 then
                some (.inr (.inr false))
              else
                (vmfleetref1_SameStrings.f y2.2.1.1 y2.1).bind fun r10 =>
                bif !r10 then
                  some (.inr (.inr false))
                else
                  (mirror_Switch.f y2.2.1).bind fun r11 =>
                  bif !(r11.2 == (decide (y2.2.2 = 4))) then
                    some (.inr (.inr false))
                  else
                    bif r11.2 then
                      (vmfleetref1_SameStrings.f r11.1 y2.1).bind fun r12 =>
                      bif !r12 then
                        some (.inr (.inr false))
                      else
                        some (.inl (y2.1, y2.2.1, y2.2.2, IntKind.wrap .i64 (x1.2.2.2 + 1)))
                    else
                      some (.inl (y2.1, y2.2.1, y2.2.2, IntKind.wrap .i64 (x1.2.2.2 + 1)))
          | .inr r => some r
        else
          some (.inr (.inl (x1.1, x1.2.1)))) (r2, r3.1, (0 : Int), (0 : Int))).bind fun o => match o with
      | .inl y3 =>
        (mirror_Copy.f y3.2 (4 : Int)).bind fun r13 =>
        (mirror_Switch.f r13).bind fun r14 =>
        bif r14.2 then
          (vmfleetref1_SameStrings.f r14.1 y3.1).bind fun r15 =>
          bif r15 then
            (vmfleetlaw32_awake.f).bind fun r16 =>
            some r16
          else
            some false
        else
          some false
      | .inr r => some r
noncomputable def vmfleetlaw32_MirrorKeeps.sp : FSpec := ⟨[(.int .i64), (.sl (.int .i64))], [.bool], fun x => vmfleetlaw32_MirrorKeeps.f x.1 x.2⟩
noncomputable def vmfleetlaw32_MirrorKeeps.env : Env := ⟨TYS, [(12, vmfleetlaw32_awake.sp), (13, mirror_Begin.sp), (15, mirror_Write.sp), (17, mirror_Switch.sp), (19, mirror_Valid.sp), (22, mirror_Copy.sp), (25, vmfleetref1_SameStrings.sp), (26, vmfleetplan_Blocks.sp), (27, vmfleetmake_Round.sp), (28, vmfleetmake_Data.sp)], [], [(9, ⟨[1], [⟨5, false, (.own .str)⟩, ⟨6, true, (.st (.pair (.own .str) (.pair (.own .str) (.int .i64))))⟩, ⟨8, false, (.int .i64)⟩, ⟨9, false, (.int .i64)⟩], [⟨5, false, (.own .str)⟩, ⟨6, true, (.st (.pair (.own .str) (.pair (.own .str) (.int .i64))))⟩], 0, none⟩)], [(20, ⟨[9], [⟨6, true, (.st (.pair (.own .str) (.pair (.own .str) (.int .i64))))⟩, ⟨5, false, (.own .str)⟩], [⟨5, false, (.own .str)⟩, ⟨6, true, (.st (.pair (.own .str) (.pair (.own .str) (.int .i64))))⟩, ⟨8, false, (.int .i64)⟩], 0, none⟩)], []⟩
theorem vmfleetlaw32_MirrorKeeps.eq (x) : fnEval vmfleetlaw32_MirrorKeeps.env vmfleetlaw32_MirrorKeeps.sp.args vmfleetlaw32_MirrorKeeps.sp.res Go.Proofs.Try.f4 x = vmfleetlaw32_MirrorKeeps.sp.f x := by kernel_rfl
theorem vmfleetlaw32_MirrorKeeps.sound : Sound Try.prog 4 vmfleetlaw32_MirrorKeeps.sp := Lift.sound (E := vmfleetlaw32_MirrorKeeps.env) Try.func4 (by kernel_rfl) (env_ok TYS.ok mixed ⟨vmfleetlaw32_awake.sound, mirror_Begin.sound, mirror_Write.sound, mirror_Switch.sound, mirror_Valid.sound, mirror_Copy.sound, vmfleetref1_SameStrings.sound, vmfleetplan_Blocks.sound, vmfleetmake_Round.sound, vmfleetmake_Data.sound, trivial⟩ trivial) (by kernel_rfl) vmfleetlaw32_MirrorKeeps.eq

/-! vmfleet/vmfleetlaw32.MirrorParts -/
noncomputable def vmfleetlaw32_MirrorParts.f (n : Int) (parts : List Int) : Option Bool :=
  bif decide ((parts.length : Int) > 20) then
    (vmfleetlaw32_awake.f).bind fun r1 =>
    some r1
  else
    (vmfleetplan_Blocks.f n).bind fun r2 =>
    (mirror_Begin.f r2).bind fun r3 =>
    (loop (Y := ((List ByteArray × List ByteArray × Int) × (List ByteArray × List ByteArray × Int) × Int) ⊕ (Bool)) (fun (x1 : (List ByteArray × List ByteArray × Int) × (List ByteArray × List ByteArray × Int) × Int × Int) =>
      bif decide (x1.2.2.2 < (parts.length : Int)) then
        if 0 ≤ x1.2.2.2 ∧ x1.2.2.2 < (parts.length : Int) then
          (vmfleetmake_Round.f (nth (0 : Int) parts x1.2.2.2) (3 : Int)).bind fun r4 =>
          (mirror_Copy.f x1.2.1 r4).bind fun r5 =>
          some (.inl (x1.1, r5, IntKind.wrap .i64 (x1.2.2.1 + r4), IntKind.wrap .i64 (x1.2.2.2 + 1)))
        else none
      else
        some (.inr (.inl (x1.1, x1.2.1, x1.2.2.1)))) (r3.1, r3.1, (0 : Int), (0 : Int))).bind fun o => match o with
    | .inl y2 =>
      bif r3.2 then
        (mirror_Copy.f y2.1 y2.2.2).bind fun r6 =>
        (vmfleetref30_SameMirror.f y2.2.1 r6).bind fun r7 =>
        bif r7 then
          (vmfleetlaw32_awake.f).bind fun r8 =>
          some r8
        else
          some false
      else
        some false
    | .inr r => some r
noncomputable def vmfleetlaw32_MirrorParts.sp : FSpec := ⟨[(.int .i64), (.sl (.int .i64))], [.bool], fun x => vmfleetlaw32_MirrorParts.f x.1 x.2⟩
noncomputable def vmfleetlaw32_MirrorParts.env : Env := ⟨TYS, [(12, vmfleetlaw32_awake.sp), (13, mirror_Begin.sp), (21, vmfleetref30_SameMirror.sp), (22, mirror_Copy.sp), (26, vmfleetplan_Blocks.sp), (27, vmfleetmake_Round.sp)], [], [(6, ⟨[1, 4, 6], [⟨5, true, (.st (.pair (.sl .str) (.pair (.sl .str) (.int .i64))))⟩, ⟨7, true, (.st (.pair (.sl .str) (.pair (.sl .str) (.int .i64))))⟩, ⟨8, false, (.int .i64)⟩, ⟨9, false, (.int .i64)⟩], [⟨5, true, (.st (.pair (.sl .str) (.pair (.sl .str) (.int .i64))))⟩, ⟨7, true, (.st (.pair (.sl .str) (.pair (.sl .str) (.int .i64))))⟩, ⟨8, false, (.int .i64)⟩], 0, none⟩)], [], []⟩
theorem vmfleetlaw32_MirrorParts.eq (x) : fnEval vmfleetlaw32_MirrorParts.env vmfleetlaw32_MirrorParts.sp.args vmfleetlaw32_MirrorParts.sp.res Go.Proofs.Try.f5 x = vmfleetlaw32_MirrorParts.sp.f x := by kernel_rfl
theorem vmfleetlaw32_MirrorParts.sound : Sound Try.prog 5 vmfleetlaw32_MirrorParts.sp := Lift.sound (E := vmfleetlaw32_MirrorParts.env) Try.func5 (by kernel_rfl) (env_ok TYS.ok mixed ⟨vmfleetlaw32_awake.sound, mirror_Begin.sound, vmfleetref30_SameMirror.sound, mirror_Copy.sound, vmfleetplan_Blocks.sound, vmfleetmake_Round.sound, trivial⟩ trivial) (by kernel_rfl) vmfleetlaw32_MirrorParts.eq

noncomputable def vmfleetmake_Data.g (fuel_ : Nat) (n : Int) (k : Int) : Option ByteArray :=
  (loopF fuel_ (Y := (List Int) ⊕ (ByteArray)) (fun (x1 : List Int × Int) =>
    bif decide (x1.2 < k) then
      (vmfleetmake_Mix.f n (IntKind.wrap .i64 (Int.tdiv x1.2 (9 : Int)))).bind fun r1 =>
      if (x1.1.length + ([IntKind.wrap .u8 r1] : List Int).length) * 1 ≤ 70368744177664 then
        some (.inl ((x1.1 ++ ([IntKind.wrap .u8 r1] : List Int)), IntKind.wrap .i64 (x1.2 + 1)))
      else none
    else
      some (.inr (.inl x1.1))) ([], (0 : Int))).bind fun o => match o with
  | .inl y2 =>
    some (strOf y2)
  | .inr r => some r
theorem vmfleetmake_Data.mono (fuel_ : Nat) (n : Int) (k : Int) : Le (vmfleetmake_Data.g fuel_ n k) (vmfleetmake_Data.f n k) := by
  unfold vmfleetmake_Data.g vmfleetmake_Data.f
  repeat' (first | with_reducible exact Le.refl _ | with_reducible refine Le.bind ?_ ?_ | with_reducible refine Le.cond ?_ ?_ | with_reducible refine Le.ite ?_ ?_ | with_reducible refine Le.bothD ?_ ?_ | with_reducible refine Le.loop ?_ _ | (intro o; rcases o with y | r <;> try dsimp only) | (intro _; show Le _ _) | dsimp only)
noncomputable def vmfleetplan_Blocks.g (fuel_ : Nat) (n : Int) : Option (List ByteArray) :=
  (loopF fuel_ (Y := (List ByteArray) ⊕ (List ByteArray)) (fun (x1 : List ByteArray × Int) =>
    bif decide (x1.2 < 4) then
      (vmfleetmake_Data.g fuel_ (IntKind.wrap .i64 (n + x1.2)) (128 : Int)).bind fun r1 =>
      if (x1.1.length + ([r1] : List ByteArray).length) * 16 ≤ 70368744177664 then
        some (.inl (x1.1 ++ ([r1] : List ByteArray), IntKind.wrap .i64 (x1.2 + 1)))
      else none
    else
      some (.inr (.inl x1.1))) ([], (0 : Int))).bind fun o => match o with
  | .inl y2 =>
    some y2
  | .inr r => some r
theorem vmfleetplan_Blocks.mono (fuel_ : Nat) (n : Int) : Le (vmfleetplan_Blocks.g fuel_ n) (vmfleetplan_Blocks.f n) := by
  unfold vmfleetplan_Blocks.g vmfleetplan_Blocks.f
  repeat' (first | with_reducible exact Le.refl _ | with_reducible exact vmfleetmake_Data.mono _ _ _ | with_reducible refine Le.bind ?_ ?_ | with_reducible refine Le.cond ?_ ?_ | with_reducible refine Le.ite ?_ ?_ | with_reducible refine Le.bothD ?_ ?_ | with_reducible refine Le.loop ?_ _ | (intro o; rcases o with y | r <;> try dsimp only) | (intro _; show Le _ _) | dsimp only)
noncomputable def mirror_blocks.g (fuel_ : Nat) (l : List ByteArray) : Option Bool :=
  bif decide ((l.length : Int) ≥ 1) then
    bif decide ((l.length : Int) ≤ 64) then
      (loopF fuel_ (Y := (Unit) ⊕ (Bool)) (fun (x1 : Int) =>
        bif decide (x1 < (l.length : Int)) then
          if 0 ≤ x1 ∧ x1 < (l.length : Int) then
            bif !decide (((nth (⟨#[]⟩ : ByteArray) l x1).size : Int) = 128) then
              some (.inr (.inr (!(decide (x1 ≥ 0)))))
            else
              some (.inl (IntKind.wrap .i64 (x1 + 1)))
          else none
        else
          some (.inr (.inl ()))) (0 : Int)).bind fun o => match o with
      | .inl y2 =>
        some true
      | .inr r => some r
    else
      some false
  else
    some false
theorem mirror_blocks.mono (fuel_ : Nat) (l : List ByteArray) : Le (mirror_blocks.g fuel_ l) (mirror_blocks.f l) := by
  unfold mirror_blocks.g mirror_blocks.f
  repeat' (first | with_reducible exact Le.refl _ | with_reducible refine Le.bind ?_ ?_ | with_reducible refine Le.cond ?_ ?_ | with_reducible refine Le.ite ?_ ?_ | with_reducible refine Le.bothD ?_ ?_ | with_reducible refine Le.loop ?_ _ | (intro o; rcases o with y | r <;> try dsimp only) | (intro _; show Le _ _) | dsimp only)
noncomputable def slices_Clone_string_string.g (fuel_ : Nat) (s : List ByteArray) : Option (List ByteArray) :=
  bif s.isEmpty then
    bothD
      (some [])
      (if (([] : List ByteArray).length + s.length) * 16 ≤ 70368744177664 then
        some (([] : List ByteArray) ++ s)
      else none)
  else
    if (([] : List ByteArray).length + s.length) * 16 ≤ 70368744177664 then
      some (([] : List ByteArray) ++ s)
    else none
theorem slices_Clone_string_string.mono (fuel_ : Nat) (s : List ByteArray) : Le (slices_Clone_string_string.g fuel_ s) (slices_Clone_string_string.f s) := by
  unfold slices_Clone_string_string.g slices_Clone_string_string.f
  repeat' (first | with_reducible exact Le.refl _ | with_reducible refine Le.bind ?_ ?_ | with_reducible refine Le.cond ?_ ?_ | with_reducible refine Le.ite ?_ ?_ | with_reducible refine Le.bothD ?_ ?_ | with_reducible refine Le.loop ?_ _ | (intro o; rcases o with y | r <;> try dsimp only) | (intro _; show Le _ _) | dsimp only)
noncomputable def mirror_Begin.g (fuel_ : Nat) (source : List ByteArray) : Option ((List ByteArray × List ByteArray × Int) × Bool) :=
  (mirror_blocks.g fuel_ source).bind fun r1 =>
  bif !r1 then
    some (([], [], (0 : Int)), false)
  else
    (slices_Clone_string_string.g fuel_ source).bind fun r2 =>
    (loopF fuel_ (Y := (List ByteArray × List ByteArray × Int) ⊕ ((List ByteArray × List ByteArray × Int) × Bool)) (fun (x1 : (List ByteArray × List ByteArray × Int) × Int) =>
      bif decide (x1.2 < (source.length : Int)) then
        (strings_Repeat.f (⟨#[0]⟩ : ByteArray) (128 : Int)).bind fun r3 =>
        if (x1.1.2.1.length + ([r3] : List ByteArray).length) * 16 ≤ 70368744177664 then
          some (.inl ((x1.1.1, x1.1.2.1 ++ ([r3] : List ByteArray), x1.1.2.2), IntKind.wrap .i64 (x1.2 + 1)))
        else none
      else
        some (.inr (.inl x1.1))) ((r2, [], (0 : Int)), (0 : Int))).bind fun o => match o with
    | .inl y2 =>
      some (y2, true)
    | .inr r => some r
theorem mirror_Begin.mono (fuel_ : Nat) (source : List ByteArray) : Le (mirror_Begin.g fuel_ source) (mirror_Begin.f source) := by
  unfold mirror_Begin.g mirror_Begin.f
  repeat' (first | with_reducible exact Le.refl _ | with_reducible exact mirror_blocks.mono _ _ | with_reducible exact slices_Clone_string_string.mono _ _ | with_reducible refine Le.bind ?_ ?_ | with_reducible refine Le.cond ?_ ?_ | with_reducible refine Le.ite ?_ ?_ | with_reducible refine Le.bothD ?_ ?_ | with_reducible refine Le.loop ?_ _ | (intro o; rcases o with y | r <;> try dsimp only) | (intro _; show Le _ _) | dsimp only)
noncomputable def mirror_copied.g (fuel_ : Nat) (m : List ByteArray × List ByteArray × Int) : Option (List ByteArray × List ByteArray × Int) :=
  (slices_Clone_string_string.g fuel_ m.1).bind fun r1 =>
  (slices_Clone_string_string.g fuel_ m.2.1).bind fun r2 =>
  some (r1, r2, m.2.2)
theorem mirror_copied.mono (fuel_ : Nat) (m : List ByteArray × List ByteArray × Int) : Le (mirror_copied.g fuel_ m) (mirror_copied.f m) := by
  unfold mirror_copied.g mirror_copied.f
  repeat' (first | with_reducible exact Le.refl _ | with_reducible exact slices_Clone_string_string.mono _ _ | with_reducible refine Le.bind ?_ ?_ | with_reducible refine Le.cond ?_ ?_ | with_reducible refine Le.ite ?_ ?_ | with_reducible refine Le.bothD ?_ ?_ | with_reducible refine Le.loop ?_ _ | (intro o; rcases o with y | r <;> try dsimp only) | (intro _; show Le _ _) | dsimp only)
noncomputable def slices_Equal_string_string.g (fuel_ : Nat) (s1 : List ByteArray) (s2 : List ByteArray) : Option Bool :=
  bif !decide ((s1.length : Int) = (s2.length : Int)) then
    some false
  else
    (loopF fuel_ (Y := (Unit) ⊕ (Bool)) (fun (x1 : Int) =>
      bif decide (x1 < (s1.length : Int)) then
        if 0 ≤ x1 ∧ x1 < (s1.length : Int) then
          if 0 ≤ x1 ∧ x1 < (s2.length : Int) then
            bif !decide ((nth (⟨#[]⟩ : ByteArray) s1 x1) = (nth (⟨#[]⟩ : ByteArray) s2 x1)) then
              some (.inr (.inr false))
            else
              some (.inl (IntKind.wrap .i64 (x1 + 1)))
          else none
        else none
      else
        some (.inr (.inl ()))) (0 : Int)).bind fun o => match o with
    | .inl y2 =>
      some true
    | .inr r => some r
theorem slices_Equal_string_string.mono (fuel_ : Nat) (s1 : List ByteArray) (s2 : List ByteArray) : Le (slices_Equal_string_string.g fuel_ s1 s2) (slices_Equal_string_string.f s1 s2) := by
  unfold slices_Equal_string_string.g slices_Equal_string_string.f
  repeat' (first | with_reducible exact Le.refl _ | with_reducible refine Le.bind ?_ ?_ | with_reducible refine Le.cond ?_ ?_ | with_reducible refine Le.ite ?_ ?_ | with_reducible refine Le.bothD ?_ ?_ | with_reducible refine Le.loop ?_ _ | (intro o; rcases o with y | r <;> try dsimp only) | (intro _; show Le _ _) | dsimp only)
noncomputable def mirror_Valid.g (fuel_ : Nat) (m : List ByteArray × List ByteArray × Int) : Option Bool :=
  (mirror_blocks.g fuel_ m.1).bind fun r1 =>
  bif r1 then
    (mirror_blocks.g fuel_ m.2.1).bind fun r2 =>
    bif r2 then
      bif (decide ((m.1.length : Int) = (m.2.1.length : Int))) then
        bif decide (m.2.2 ≥ 0) then
          bif decide (m.2.2 ≤ (m.1.length : Int)) then
            if 0 ≤ m.2.2 ∧ m.2.2 ≤ (m.1.length : Int) then
              if 0 ≤ m.2.2 ∧ m.2.2 ≤ (m.2.1.length : Int) then
                (slices_Equal_string_string.g fuel_ (slc m.1 (0 : Int) m.2.2) (slc m.2.1 (0 : Int) m.2.2)).bind fun r3 =>
                some r3
              else none
            else none
          else
            some false
        else
          some false
      else
        some false
    else
      some false
  else
    some false
theorem mirror_Valid.mono (fuel_ : Nat) (m : List ByteArray × List ByteArray × Int) : Le (mirror_Valid.g fuel_ m) (mirror_Valid.f m) := by
  unfold mirror_Valid.g mirror_Valid.f
  repeat' (first | with_reducible exact Le.refl _ | with_reducible exact mirror_blocks.mono _ _ | with_reducible exact slices_Equal_string_string.mono _ _ _ | with_reducible refine Le.bind ?_ ?_ | with_reducible refine Le.cond ?_ ?_ | with_reducible refine Le.ite ?_ ?_ | with_reducible refine Le.bothD ?_ ?_ | with_reducible refine Le.loop ?_ _ | (intro o; rcases o with y | r <;> try dsimp only) | (intro _; show Le _ _) | dsimp only)
noncomputable def mirror_Copy.g (fuel_ : Nat) (m : List ByteArray × List ByteArray × Int) (n : Int) : Option (List ByteArray × List ByteArray × Int) :=
  (mirror_copied.g fuel_ m).bind fun r1 =>
  (mirror_Valid.g fuel_ r1).bind fun r2 =>
  bif !r2 then
    some r1
  else
    (loopF fuel_ (Y := (List ByteArray × List ByteArray × Int) ⊕ (List ByteArray × List ByteArray × Int)) (fun (x1 : Int × List ByteArray × List ByteArray × Int) =>
      bif decide (x1.1 > 0) then
        bif (decide (x1.2.2.2 < (x1.2.1.length : Int))) then
          if 0 ≤ x1.2.2.2 ∧ x1.2.2.2 < (x1.2.1.length : Int) then
            if 0 ≤ x1.2.2.2 ∧ x1.2.2.2 < (x1.2.2.1.length : Int) then
              some (.inl (IntKind.wrap .i64 (x1.1 - 1), x1.2.1, (put x1.2.2.1 x1.2.2.2 (nth (⟨#[]⟩ : ByteArray) x1.2.1 x1.2.2.2)), IntKind.wrap .i64 (x1.2.2.2 + 1)))
            else none
          else none
        else
          some (.inr (.inl x1.2))
      else
        some (.inr (.inl x1.2))) (n, r1)).bind fun o => match o with
    | .inl y2 =>
      some y2
    | .inr r => some r
theorem mirror_Copy.mono (fuel_ : Nat) (m : List ByteArray × List ByteArray × Int) (n : Int) : Le (mirror_Copy.g fuel_ m n) (mirror_Copy.f m n) := by
  unfold mirror_Copy.g mirror_Copy.f
  repeat' (first | with_reducible exact Le.refl _ | with_reducible exact mirror_Valid.mono _ _ | with_reducible exact mirror_copied.mono _ _ | with_reducible refine Le.bind ?_ ?_ | with_reducible refine Le.cond ?_ ?_ | with_reducible refine Le.ite ?_ ?_ | with_reducible refine Le.bothD ?_ ?_ | with_reducible refine Le.loop ?_ _ | (intro o; rcases o with y | r <;> try dsimp only) | (intro _; show Le _ _) | dsimp only)
noncomputable def mirror_Write.g (fuel_ : Nat) (m : List ByteArray × List ByteArray × Int) (block : Int) (data : ByteArray) : Option ((List ByteArray × List ByteArray × Int) × Bool) :=
  (mirror_copied.g fuel_ m).bind fun r1 =>
  (mirror_Valid.g fuel_ r1).bind fun r2 =>
  bif !r2 then
    some (r1, false)
  else
    bif decide (block < 0) then
      some (r1, false)
    else
      bif decide (block ≥ (r1.1.length : Int)) then
        some (r1, false)
      else
        bif !decide ((data.size : Int) = 128) then
          some (r1, false)
        else
          if 0 ≤ block ∧ block < (r1.1.length : Int) then
            bif decide (block < r1.2.2) then
              if 0 ≤ block ∧ block < (r1.2.1.length : Int) then
                some ((put r1.1 block data, put r1.2.1 block data, r1.2.2), true)
              else none
            else
              some ((put r1.1 block data, r1.2), true)
          else none
theorem mirror_Write.mono (fuel_ : Nat) (m : List ByteArray × List ByteArray × Int) (block : Int) (data : ByteArray) : Le (mirror_Write.g fuel_ m block data) (mirror_Write.f m block data) := by
  unfold mirror_Write.g mirror_Write.f
  repeat' (first | with_reducible exact Le.refl _ | with_reducible exact mirror_Valid.mono _ _ | with_reducible exact mirror_copied.mono _ _ | with_reducible refine Le.bind ?_ ?_ | with_reducible refine Le.cond ?_ ?_ | with_reducible refine Le.ite ?_ ?_ | with_reducible refine Le.bothD ?_ ?_ | with_reducible refine Le.loop ?_ _ | (intro o; rcases o with y | r <;> try dsimp only) | (intro _; show Le _ _) | dsimp only)
noncomputable def mirror_Done.g (fuel_ : Nat) (m : List ByteArray × List ByteArray × Int) : Option Bool :=
  (mirror_Valid.g fuel_ m).bind fun r1 =>
  bif r1 then
    some (decide (m.2.2 = (m.1.length : Int)))
  else
    some false
theorem mirror_Done.mono (fuel_ : Nat) (m : List ByteArray × List ByteArray × Int) : Le (mirror_Done.g fuel_ m) (mirror_Done.f m) := by
  unfold mirror_Done.g mirror_Done.f
  repeat' (first | with_reducible exact Le.refl _ | with_reducible exact mirror_Valid.mono _ _ | with_reducible refine Le.bind ?_ ?_ | with_reducible refine Le.cond ?_ ?_ | with_reducible refine Le.ite ?_ ?_ | with_reducible refine Le.bothD ?_ ?_ | with_reducible refine Le.loop ?_ _ | (intro o; rcases o with y | r <;> try dsimp only) | (intro _; show Le _ _) | dsimp only)
noncomputable def mirror_Switch.g (fuel_ : Nat) (m : List ByteArray × List ByteArray × Int) : Option (List ByteArray × Bool) :=
  (mirror_Done.g fuel_ m).bind fun r1 =>
  bif !r1 then
    some ([], false)
  else
    (slices_Clone_string_string.g fuel_ m.2.1).bind fun r2 =>
    some (r2, true)
theorem mirror_Switch.mono (fuel_ : Nat) (m : List ByteArray × List ByteArray × Int) : Le (mirror_Switch.g fuel_ m) (mirror_Switch.f m) := by
  unfold mirror_Switch.g mirror_Switch.f
  repeat' (first | with_reducible exact Le.refl _ | with_reducible exact mirror_Done.mono _ _ | with_reducible exact slices_Clone_string_string.mono _ _ | with_reducible refine Le.bind ?_ ?_ | with_reducible refine Le.cond ?_ ?_ | with_reducible refine Le.ite ?_ ?_ | with_reducible refine Le.bothD ?_ ?_ | with_reducible refine Le.loop ?_ _ | (intro o; rcases o with y | r <;> try dsimp only) | (intro _; show Le _ _) | dsimp only)
noncomputable def vmfleetlaw32_awake.g (fuel_ : Nat)  : Option Bool :=
  (vmfleetplan_Blocks.g fuel_ (1 : Int)).bind fun r1 =>
  (mirror_Begin.g fuel_ r1).bind fun r2 =>
  (mirror_Copy.g fuel_ r2.1 (1 : Int)).bind fun r3 =>
  (vmfleetmake_Data.g fuel_ (9 : Int) (128 : Int)).bind fun r4 =>
  (mirror_Write.g fuel_ r3 (0 : Int) r4).bind fun r5 =>
  (mirror_Write.g fuel_ r3 (1 : Int) r4).bind fun r6 =>
  (mirror_Switch.g fuel_ r3).bind fun r7 =>
  bif !r2.2 then
    some false
  else
    bif !r5.2 then
      some false
    else
      bif !r6.2 then
        some false
      else
        bif !decide ((r5.1.2.1.length : Int) = 4) then
          some false
        else
          bif !decide ((r6.1.2.1.length : Int) = 4) then
            some false
          else
            (mirror_Copy.g fuel_ r6.1 (9 : Int)).bind fun r8 =>
            (mirror_Switch.g fuel_ r8).bind fun r9 =>
            if 0 ≤ (0 : Int) ∧ (0 : Int) < (r5.1.2.1.length : Int) then
              bif decide ((nth (⟨#[]⟩ : ByteArray) r5.1.2.1 (0 : Int)) = r4) then
                if 0 ≤ (1 : Int) ∧ (1 : Int) < (r6.1.2.1.length : Int) then
                  bif (!decide ((nth (⟨#[]⟩ : ByteArray) r6.1.2.1 (1 : Int)) = r4)) then
                    if 0 ≤ (1 : Int) ∧ (1 : Int) < (r6.1.1.length : Int) then
                      bif (decide ((nth (⟨#[]⟩ : ByteArray) r6.1.1 (1 : Int)) = r4)) then
                        bif !r7.2 then
                          bif r9.2 then
                            bif decide ((r9.1.length : Int) = 4) then
                              if 0 ≤ (1 : Int) ∧ (1 : Int) < (r9.1.length : Int) then
                                some (decide ((nth (⟨#[]⟩ : ByteArray) r9.1 (1 : Int)) = r4))
                              else none
                            else
                              some false
                          else
                            some false
                        else
                          some false
                      else
                        some false
                    else none
                  else
                    some false
                else none
              else
                some false
            else none
theorem vmfleetlaw32_awake.mono (fuel_ : Nat)  : Le (vmfleetlaw32_awake.g fuel_) (vmfleetlaw32_awake.f) := by
  unfold vmfleetlaw32_awake.g vmfleetlaw32_awake.f
  repeat' (first | with_reducible exact Le.refl _ | with_reducible exact mirror_Begin.mono _ _ | with_reducible exact mirror_Write.mono _ _ _ _ | with_reducible exact mirror_Switch.mono _ _ | with_reducible exact mirror_Copy.mono _ _ _ | with_reducible exact vmfleetplan_Blocks.mono _ _ | with_reducible exact vmfleetmake_Data.mono _ _ _ | with_reducible refine Le.bind ?_ ?_ | with_reducible refine Le.cond ?_ ?_ | with_reducible refine Le.ite ?_ ?_ | with_reducible refine Le.bothD ?_ ?_ | with_reducible refine Le.loop ?_ _ | (intro o; rcases o with y | r <;> try dsimp only) | (intro _; show Le _ _) | dsimp only)
theorem vmfleetlaw32_awake.ok : vmfleetlaw32_awake.f = some true := vmfleetlaw32_awake.mono 5000 true (by kernel_rfl)
end Go.Proofs.Ytklckjfafomlmaa.Fn
