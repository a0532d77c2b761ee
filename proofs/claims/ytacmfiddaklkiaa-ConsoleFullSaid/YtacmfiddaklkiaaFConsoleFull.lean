/- The functions that the law ConsoleFull reaches, each as a plain Lean function, with the proof that the loaded code computes it. -/
import Derived.Test.YtacmfiddaklkiaaLLaw
import Derived.Test.YtacmfiddaklkiaaLPure
import Derived.Test.YtacmfiddaklkiaaProg
import Derived.Test.YtacmfiddaklkiaaChecked
set_option maxRecDepth 100000
set_option linter.unusedVariables false
namespace Go.Proofs.Ytacmfiddaklkiaa.NConsoleFull
open Go Lift
def TYS : List (Nat × TI) := [(3, ⟨(.int .i64), 0⟩), (4, ⟨.bool, 0⟩), (5, ⟨(.int .u8), 0⟩), (9, ⟨.str, 0⟩), (24, ⟨(.st .str), 0⟩), (27, ⟨(.int .u32), 0⟩), (36, ⟨(.sl (.int .u8)), 1⟩)]
theorem TYS.ok : tysB Try.prog TYS = true := by kernel_rfl
theorem mixed : Try.prog.follows .mixedOrders = true := Checked.mixed Try.checked

/-! vmfleet/console.Type -/
noncomputable def console_Type.f (c : ByteArray) (b : Int) : Option (ByteArray × Bool) :=
  bif decide ((c.size : Int) ≥ 16) then
    some (c, false)
  else
    if c.size + (strOf ([b] : List Int)).size ≤ 9223372036854775807 then
      some (c ++ (strOf ([b] : List Int)), true)
    else none
noncomputable def console_Type.sp : FSpec := ⟨[(.st .str), (.int .u8)], [(.st .str), .bool], fun x => console_Type.f x.1 x.2⟩
noncomputable def console_Type.env : Env := ⟨TYS, [], [], [], []⟩
theorem console_Type.eq (x) : fnEval console_Type.env console_Type.sp.args console_Type.sp.res Go.Proofs.Try.f16 x = console_Type.sp.f x := by kernel_rfl
theorem console_Type.sound : Sound Try.prog 16 console_Type.sp := Lift.sound (E := console_Type.env) Try.func16 (by kernel_rfl) (env_ok TYS.ok mixed trivial trivial) (by kernel_rfl) console_Type.eq

/-! vmfleet/console.In -/
noncomputable def console_In.f (c : ByteArray) (port : Int) : Option (ByteArray × Int) :=
  bif decide (port = 0) then
    bif decide (c = (⟨#[]⟩ : ByteArray)) then
      some (c, (4294967295 : Int))
    else
      if 0 ≤ (0 : Int) ∧ (0 : Int) < (c.size : Int) then
        if 0 ≤ (1 : Int) ∧ (1 : Int) ≤ (c.size : Int) then
          some (cut c (1 : Int) (c.size : Int), IntKind.wrap .u32 (bt c (0 : Int)))
        else none
      else none
  else
    bif decide (port = 1) then
      some (c, IntKind.wrap .u32 (c.size : Int))
    else
      some (c, (0 : Int))
noncomputable def console_In.sp : FSpec := ⟨[(.st .str), (.int .i64)], [(.st .str), (.int .u32)], fun x => console_In.f x.1 x.2⟩
noncomputable def console_In.env : Env := ⟨TYS, [], [], [], []⟩
theorem console_In.eq (x) : fnEval console_In.env console_In.sp.args console_In.sp.res Go.Proofs.Try.f17 x = console_In.sp.f x := by kernel_rfl
theorem console_In.sound : Sound Try.prog 17 console_In.sp := Lift.sound (E := console_In.env) Try.func17 (by kernel_rfl) (env_ok TYS.ok mixed trivial trivial) (by kernel_rfl) console_In.eq

/-! vmfleet/console.Pending -/
noncomputable def console_Pending.f (c : ByteArray) : Option Bool :=
  some (!decide (c = (⟨#[]⟩ : ByteArray)))
noncomputable def console_Pending.sp : FSpec := ⟨[(.st .str)], [.bool], fun x => console_Pending.f x⟩
noncomputable def console_Pending.env : Env := ⟨TYS, [], [], [], []⟩
theorem console_Pending.eq (x) : fnEval console_Pending.env console_Pending.sp.args console_Pending.sp.res Go.Proofs.Try.f18 x = console_Pending.sp.f x := by kernel_rfl
theorem console_Pending.sound : Sound Try.prog 18 console_Pending.sp := Lift.sound (E := console_Pending.env) Try.func18 (by kernel_rfl) (env_ok TYS.ok mixed trivial trivial) (by kernel_rfl) console_Pending.eq

/-! vmfleet/vmfleetlaw7.awake -/
noncomputable def vmfleetlaw7_awake.f  : Option Bool :=
  (console_Type.f (⟨#[]⟩ : ByteArray) (65 : Int)).bind fun r1 =>
  (console_Type.f r1.1 (66 : Int)).bind fun r2 =>
  (console_In.f r2.1 (0 : Int)).bind fun r3 =>
  (console_In.f r3.1 (1 : Int)).bind fun r4 =>
  bif r1.2 then
    bif r2.2 then
      bif decide (r3.2 = 65) then
        bif decide (r4.2 = 1) then
          (console_Pending.f r3.1).bind fun r5 =>
          some r5
        else
          some false
      else
        some false
    else
      some false
  else
    some false
noncomputable def vmfleetlaw7_awake.sp : FSpec := ⟨[], [.bool], fun _ => vmfleetlaw7_awake.f⟩
noncomputable def vmfleetlaw7_awake.env : Env := ⟨TYS, [(16, console_Type.sp), (17, console_In.sp), (18, console_Pending.sp)], [], [], []⟩
theorem vmfleetlaw7_awake.eq (x) : fnEval vmfleetlaw7_awake.env vmfleetlaw7_awake.sp.args vmfleetlaw7_awake.sp.res Go.Proofs.Try.f15 x = vmfleetlaw7_awake.sp.f x := by kernel_rfl
theorem vmfleetlaw7_awake.sound : Sound Try.prog 15 vmfleetlaw7_awake.sp := Lift.sound (E := vmfleetlaw7_awake.env) Try.func15 (by kernel_rfl) (env_ok TYS.ok mixed ⟨console_Type.sound, console_In.sound, console_Pending.sound, trivial⟩ trivial) (by kernel_rfl) vmfleetlaw7_awake.eq

/-! vmfleet/vmfleetlaw7.ConsoleFull -/
noncomputable def vmfleetlaw7_ConsoleFull.f (many : Int) (b : Int) : Option Bool :=
  bif decide (many < 0) then
    (vmfleetlaw7_awake.f).bind fun r1 =>
    some r1
  else
    bif decide (many > 40) then
      (vmfleetlaw7_awake.f).bind fun r2 =>
      some r2
    else
      (loop (Y := (ByteArray × Int) ⊕ (Bool)) (fun (x1 : ByteArray × Int × Int) =>
        bif decide (x1.2.2 < many) then
          (console_Type.f x1.1 b).bind fun r3 =>
          bif r3.2 then
            some (.inl (r3.1, IntKind.wrap .i64 (x1.2.1 + 1), IntKind.wrap .i64 (x1.2.2 + 1)))
          else
            some (.inl (r3.1, x1.2.1, IntKind.wrap .i64 (x1.2.2 + 1)))
        else
          some (.inr (.inl (x1.1, x1.2.1)))) ((⟨#[]⟩ : ByteArray), (0 : Int), (0 : Int))).bind fun o => match o with
      | .inl y2 =>
        (console_In.f y2.1 (1 : Int)).bind fun r4 =>
        bif decide (y2.2 = (min many (16 : Int))) then
          bif decide (r4.2 = (IntKind.wrap .u32 y2.2)) then
            (console_Pending.f y2.1).bind fun r5 =>
            bif r5 == (decide (y2.2 > 0)) then
              (vmfleetlaw7_awake.f).bind fun r6 =>
              some r6
            else
              some false
          else
            some false
        else
          some false
      | .inr r => some r
noncomputable def vmfleetlaw7_ConsoleFull.sp : FSpec := ⟨[(.int .i64), (.int .u8)], [.bool], fun x => vmfleetlaw7_ConsoleFull.f x.1 x.2⟩
noncomputable def vmfleetlaw7_ConsoleFull.env : Env := ⟨TYS, [(15, vmfleetlaw7_awake.sp), (16, console_Type.sp), (17, console_In.sp), (18, console_Pending.sp)], [], [(6, ⟨[0, 1, 4], [⟨5, true, (.st .str)⟩, ⟨6, false, (.int .i64)⟩, ⟨7, false, (.int .i64)⟩], [⟨5, true, (.st .str)⟩, ⟨6, false, (.int .i64)⟩], 0⟩)], []⟩
theorem vmfleetlaw7_ConsoleFull.eq (x) : fnEval vmfleetlaw7_ConsoleFull.env vmfleetlaw7_ConsoleFull.sp.args vmfleetlaw7_ConsoleFull.sp.res Go.Proofs.Try.f3 x = vmfleetlaw7_ConsoleFull.sp.f x := by kernel_rfl
theorem vmfleetlaw7_ConsoleFull.sound : Sound Try.prog 3 vmfleetlaw7_ConsoleFull.sp := Lift.sound (E := vmfleetlaw7_ConsoleFull.env) Try.func3 (by kernel_rfl) (env_ok TYS.ok mixed ⟨vmfleetlaw7_awake.sound, console_Type.sound, console_In.sound, console_Pending.sound, trivial⟩ trivial) (by kernel_rfl) vmfleetlaw7_ConsoleFull.eq

end Go.Proofs.Ytacmfiddaklkiaa.NConsoleFull
