/- The functions that the laws of this seat reach, each as a plain Lean function, with the proof that the loaded code computes it. -/
import Derived.Test.YtacmfiddaklkiaaLLaw
import Derived.Test.YtacmfiddaklkiaaLPure
import Derived.Test.YtacmfiddaklkiaaProg
import Derived.Test.YtacmfiddaklkiaaChecked
set_option maxRecDepth 100000
set_option linter.unusedVariables false
namespace Go.Proofs.Ytacmfiddaklkiaa.Fn
open Go Lift
def TYS : List (Nat × TI) := [(3, ⟨(.int .i64), 0⟩), (4, ⟨.bool, 0⟩), (5, ⟨(.int .u8), 0⟩), (9, ⟨.str, 0⟩), (24, ⟨(.st .str), 0⟩), (27, ⟨(.int .u32), 0⟩), (34, ⟨(.sl (.int .i64)), 8⟩), (36, ⟨(.sl (.int .u8)), 1⟩), (39, ⟨(.st (.pair .bool (.pair (.int .u32) .bool))), 0⟩), (48, ⟨(.sl (.int .u32)), 4⟩), (51, ⟨(.st (.pair (.int .i64) (.pair (.int .i64) .bool))), 0⟩), (52, ⟨(.sl (.st (.pair (.int .i64) (.pair (.int .i64) (.pair (.int .i64) (.int .i64)))))), 32⟩), (55, ⟨(.st (.pair (.int .i64) (.pair (.int .i64) (.pair (.int .i64) (.int .i64))))), 0⟩), (59, ⟨(.int .i64), 0⟩), (62, ⟨(.sl .str), 16⟩), (63, ⟨(.int .u64), 0⟩), (65, ⟨(.st (.pair (.sl .str) (.pair (.int .u64) (.int .i64)))), 0⟩), (67, ⟨(.st (.pair (.int .i64) (.pair (.int .u64) (.pair (.int .u32) .str)))), 0⟩), (72, ⟨(.st (.pair (.int .i64) (.pair (.int .u32) .str))), 0⟩)]
theorem TYS.ok : tysB Try.prog TYS = true := by kernel_rfl
theorem mixed : Try.prog.follows .mixedOrders = true := Checked.mixed Try.checked

/-! vmfleet/console.Type -/
noncomputable def console_Type.f (c : ByteArray) (b : Int) : Option (ByteArray × Bool) :=
  bif decide ((c.size : Int) ≥ 16) then
    some (c, false)
  else
    if c.size + (strOf ([b] : List Int)).size ≤ 9223372036854775807 then
      some (c ++ (strOf ([b] : List Int)), true)
    else none
noncomputable def console_Type.sp : FSpec := ⟨[(.st .str), (.int .u8)], [(.st .str), .bool], fun x => console_Type.f x.1 x.2⟩
noncomputable def console_Type.env : Env := ⟨TYS, [], [], [], [], []⟩
theorem console_Type.eq (x) : fnEval console_Type.env console_Type.sp.args console_Type.sp.res Go.Proofs.Try.f16 x = console_Type.sp.f x := by kernel_rfl
theorem console_Type.sound : Sound Try.prog 16 console_Type.sp := Lift.sound (E := console_Type.env) Try.func16 (by kernel_rfl) (env_ok TYS.ok mixed trivial trivial) (by kernel_rfl) console_Type.eq

/-! vmfleet/console.In -/
noncomputable def console_In.f (c : ByteArray) (port : Int) : Option (ByteArray × Int) :=
  bif decide (port = 0) then
    bif decide (c = (⟨#[]⟩ : ByteArray)) then
      some (c, (4294967295 : Int))
    else
      if 0 ≤ (0 : Int) ∧ (0 : Int) < (c.size : Int) then
        if 0 ≤ (1 : Int) ∧ (1 : Int) ≤ (c.size : Int) then
          some (cut c (1 : Int) (c.size : Int), IntKind.wrap .u32 (bt c (0 : Int)))
        else none
      else none
  else
    bif decide (port = 1) then
      some (c, IntKind.wrap .u32 (c.size : Int))
    else
      some (c, (0 : Int))
noncomputable def console_In.sp : FSpec := ⟨[(.st .str), (.int .i64)], [(.st .str), (.int .u32)], fun x => console_In.f x.1 x.2⟩
noncomputable def console_In.env : Env := ⟨TYS, [], [], [], [], []⟩
theorem console_In.eq (x) : fnEval console_In.env console_In.sp.args console_In.sp.res Go.Proofs.Try.f17 x = console_In.sp.f x := by kernel_rfl
theorem console_In.sound : Sound Try.prog 17 console_In.sp := Lift.sound (E := console_In.env) Try.func17 (by kernel_rfl) (env_ok TYS.ok mixed trivial trivial) (by kernel_rfl) console_In.eq

/-! vmfleet/console.Pending -/
noncomputable def console_Pending.f (c : ByteArray) : Option Bool :=
  some (!decide (c = (⟨#[]⟩ : ByteArray)))
noncomputable def console_Pending.sp : FSpec := ⟨[(.st .str)], [.bool], fun x => console_Pending.f x⟩
noncomputable def console_Pending.env : Env := ⟨TYS, [], [], [], [], []⟩
theorem console_Pending.eq (x) : fnEval console_Pending.env console_Pending.sp.args console_Pending.sp.res Go.Proofs.Try.f18 x = console_Pending.sp.f x := by kernel_rfl
theorem console_Pending.sound : Sound Try.prog 18 console_Pending.sp := Lift.sound (E := console_Pending.env) Try.func18 (by kernel_rfl) (env_ok TYS.ok mixed trivial trivial) (by kernel_rfl) console_Pending.eq

/-! vmfleet/vmfleetlaw7.awake -/
noncomputable def vmfleetlaw7_awake.f  : Option Bool :=
  (console_Type.f (⟨#[]⟩ : ByteArray) (65 : Int)).bind fun r1 =>
  (console_Type.f r1.1 (66 : Int)).bind fun r2 =>
  (console_In.f r2.1 (0 : Int)).bind fun r3 =>
  (console_In.f r3.1 (1 : Int)).bind fun r4 =>
  bif r1.2 then
    bif r2.2 then
      bif decide (r3.2 = 65) then
        bif decide (r4.2 = 1) then
          (console_Pending.f r3.1).bind fun r5 =>
          some r5
        else
          some false
      else
        some false
    else
      some false
  else
    some false
noncomputable def vmfleetlaw7_awake.sp : FSpec := ⟨[], [.bool], fun _ => vmfleetlaw7_awake.f⟩
noncomputable def vmfleetlaw7_awake.env : Env := ⟨TYS, [(16, console_Type.sp), (17, console_In.sp), (18, console_Pending.sp)], [], [], [], []⟩
theorem vmfleetlaw7_awake.eq (x) : fnEval vmfleetlaw7_awake.env vmfleetlaw7_awake.sp.args vmfleetlaw7_awake.sp.res Go.Proofs.Try.f15 x = vmfleetlaw7_awake.sp.f x := by kernel_rfl
theorem vmfleetlaw7_awake.sound : Sound Try.prog 15 vmfleetlaw7_awake.sp := Lift.sound (E := vmfleetlaw7_awake.env) Try.func15 (by kernel_rfl) (env_ok TYS.ok mixed ⟨console_Type.sound, console_In.sound, console_Pending.sound, trivial⟩ trivial) (by kernel_rfl) vmfleetlaw7_awake.eq

/-! vmfleet/vmfleetlaw7.ConsoleFull -/
noncomputable def vmfleetlaw7_ConsoleFull.f (many : Int) (b : Int) : Option Bool :=
  bif decide (many < 0) then
    (vmfleetlaw7_awake.f).bind fun r1 =>
    some r1
  else
    bif decide (many > 40) then
      (vmfleetlaw7_awake.f).bind fun r2 =>
      some r2
    else
      (loop (Y := (ByteArray × Int) ⊕ (Bool)) (fun (x1 : ByteArray × Int × Int) =>
        bif decide (x1.2.2 < many) then
          (console_Type.f x1.1 b).bind fun r3 =>
          bif r3.2 then
            some (.inl (r3.1, IntKind.wrap .i64 (x1.2.1 + 1), IntKind.wrap .i64 (x1.2.2 + 1)))
          else
            some (.inl (r3.1, x1.2.1, IntKind.wrap .i64 (x1.2.2 + 1)))
        else
          some (.inr (.inl (x1.1, x1.2.1)))) ((⟨#[]⟩ : ByteArray), (0 : Int), (0 : Int))).bind fun o => match o with
      | .inl y2 =>
        (console_In.f y2.1 (1 : Int)).bind fun r4 =>
        bif decide (y2.2 = (min many (16 : Int))) then
          bif decide (r4.2 = (IntKind.wrap .u32 y2.2)) then
            (console_Pending.f y2.1).bind fun r5 =>
            bif r5 == (decide (y2.2 > 0)) then
              (vmfleetlaw7_awake.f).bind fun r6 =>
              some r6
            else
              some false
          else
            some false
        else
          some false
      | .inr r => some r
noncomputable def vmfleetlaw7_ConsoleFull.sp : FSpec := ⟨[(.int .i64), (.int .u8)], [.bool], fun x => vmfleetlaw7_ConsoleFull.f x.1 x.2⟩
noncomputable def vmfleetlaw7_ConsoleFull.env : Env := ⟨TYS, [(15, vmfleetlaw7_awake.sp), (16, console_Type.sp), (17, console_In.sp), (18, console_Pending.sp)], [], [(6, ⟨[0, 1, 4], [⟨5, true, (.st .str)⟩, ⟨6, false, (.int .i64)⟩, ⟨7, false, (.int .i64)⟩], [⟨5, true, (.st .str)⟩, ⟨6, false, (.int .i64)⟩], 0⟩)], [], []⟩
theorem vmfleetlaw7_ConsoleFull.eq (x) : fnEval vmfleetlaw7_ConsoleFull.env vmfleetlaw7_ConsoleFull.sp.args vmfleetlaw7_ConsoleFull.sp.res Go.Proofs.Try.f3 x = vmfleetlaw7_ConsoleFull.sp.f x := by kernel_rfl
theorem vmfleetlaw7_ConsoleFull.sound : Sound Try.prog 3 vmfleetlaw7_ConsoleFull.sp := Lift.sound (E := vmfleetlaw7_ConsoleFull.env) Try.func3 (by kernel_rfl) (env_ok TYS.ok mixed ⟨vmfleetlaw7_awake.sound, console_Type.sound, console_In.sound, console_Pending.sound, trivial⟩ trivial) (by kernel_rfl) vmfleetlaw7_ConsoleFull.eq

/-! vmfleet/vmfleetmake.Round -/
noncomputable def vmfleetmake_Round.f (n : Int) (k : Int) : Option Int :=
  if k = 0 then none else
  bif decide ((Int.tmod n k) < 0) then
    some (IntKind.wrap .i64 ((Int.tmod n k) + k))
  else
    some (Int.tmod n k)
noncomputable def vmfleetmake_Round.sp : FSpec := ⟨[(.int .i64), (.int .i64)], [(.int .i64)], fun x => vmfleetmake_Round.f x.1 x.2⟩
noncomputable def vmfleetmake_Round.env : Env := ⟨TYS, [], [], [], [], []⟩
theorem vmfleetmake_Round.eq (x) : fnEval vmfleetmake_Round.env vmfleetmake_Round.sp.args vmfleetmake_Round.sp.res Go.Proofs.Try.f19 x = vmfleetmake_Round.sp.f x := by kernel_rfl
theorem vmfleetmake_Round.sound : Sound Try.prog 19 vmfleetmake_Round.sp := Lift.sound (E := vmfleetmake_Round.env) Try.func19 (by kernel_rfl) (env_ok TYS.ok mixed trivial trivial) (by kernel_rfl) vmfleetmake_Round.eq

/-! vmfleet/vmfleetref7.Type -/
noncomputable def vmfleetref7_Type.f (c : ByteArray) (b : Int) : Option (ByteArray × Bool) :=
  bif decide ((c.size : Int) ≥ 16) then
    some (c, false)
  else
    if c.size + (strOf ([b] : List Int)).size ≤ 9223372036854775807 then
      some (c ++ (strOf ([b] : List Int)), true)
    else none
noncomputable def vmfleetref7_Type.sp : FSpec := ⟨[(.st .str), (.int .u8)], [(.st .str), .bool], fun x => vmfleetref7_Type.f x.1 x.2⟩
noncomputable def vmfleetref7_Type.env : Env := ⟨TYS, [], [], [], [], []⟩
theorem vmfleetref7_Type.eq (x) : fnEval vmfleetref7_Type.env vmfleetref7_Type.sp.args vmfleetref7_Type.sp.res Go.Proofs.Try.f20 x = vmfleetref7_Type.sp.f x := by kernel_rfl
theorem vmfleetref7_Type.sound : Sound Try.prog 20 vmfleetref7_Type.sp := Lift.sound (E := vmfleetref7_Type.env) Try.func20 (by kernel_rfl) (env_ok TYS.ok mixed trivial trivial) (by kernel_rfl) vmfleetref7_Type.eq

/-! vmfleet/vmfleetref7.ConsoleIn -/
noncomputable def vmfleetref7_ConsoleIn.f (c : ByteArray) (port : Int) : Option (ByteArray × Int) :=
  (bif decide (port = 0) then
    some (.inl (decide ((c.size : Int) = 0)))
  else
    some (.inl false) : Option ((Bool) ⊕ (ByteArray × Int))).bind fun o => match o with
  | .inl y1 =>
    bif y1 then
      some (c, (4294967295 : Int))
    else
      bif decide (port = 0) then
        if 0 ≤ (1 : Int) ∧ (1 : Int) ≤ (c.size : Int) then
          if 0 ≤ (0 : Int) ∧ (0 : Int) < (c.size : Int) then
            some (cut c (1 : Int) (c.size : Int), IntKind.wrap .u32 (bt c (0 : Int)))
          else none
        else none
      else
        bif decide (port = 1) then
          some (c, IntKind.wrap .u32 (c.size : Int))
        else
          some (c, (0 : Int))
  | .inr r => some r
noncomputable def vmfleetref7_ConsoleIn.sp : FSpec := ⟨[(.st .str), (.int .i64)], [(.st .str), (.int .u32)], fun x => vmfleetref7_ConsoleIn.f x.1 x.2⟩
noncomputable def vmfleetref7_ConsoleIn.env : Env := ⟨TYS, [], [], [], [(2, ⟨[1, 2, 4, 5], [], [⟨6, false, .bool⟩], 0⟩)], []⟩
theorem vmfleetref7_ConsoleIn.eq (x) : fnEval vmfleetref7_ConsoleIn.env vmfleetref7_ConsoleIn.sp.args vmfleetref7_ConsoleIn.sp.res Go.Proofs.Try.f21 x = vmfleetref7_ConsoleIn.sp.f x := by kernel_rfl
theorem vmfleetref7_ConsoleIn.sound : Sound Try.prog 21 vmfleetref7_ConsoleIn.sp := Lift.sound (E := vmfleetref7_ConsoleIn.env) Try.func21 (by kernel_rfl) (env_ok TYS.ok mixed trivial trivial) (by kernel_rfl) vmfleetref7_ConsoleIn.eq

/-! vmfleet/vmfleetref7.ConsolePending -/
noncomputable def vmfleetref7_ConsolePending.f (c : ByteArray) : Option Bool :=
  some (decide ((c.size : Int) > 0))
noncomputable def vmfleetref7_ConsolePending.sp : FSpec := ⟨[(.st .str)], [.bool], fun x => vmfleetref7_ConsolePending.f x⟩
noncomputable def vmfleetref7_ConsolePending.env : Env := ⟨TYS, [], [], [], [], []⟩
theorem vmfleetref7_ConsolePending.eq (x) : fnEval vmfleetref7_ConsolePending.env vmfleetref7_ConsolePending.sp.args vmfleetref7_ConsolePending.sp.res Go.Proofs.Try.f22 x = vmfleetref7_ConsolePending.sp.f x := by kernel_rfl
theorem vmfleetref7_ConsolePending.sound : Sound Try.prog 22 vmfleetref7_ConsolePending.sp := Lift.sound (E := vmfleetref7_ConsolePending.env) Try.func22 (by kernel_rfl) (env_ok TYS.ok mixed trivial trivial) (by kernel_rfl) vmfleetref7_ConsolePending.eq

/-! vmfleet/console.May -/
noncomputable def console_May.f (c : ByteArray) : Option Bool :=
  some (decide ((c.size : Int) ≤ 16))
noncomputable def console_May.sp : FSpec := ⟨[(.st .str)], [.bool], fun x => console_May.f x⟩
noncomputable def console_May.env : Env := ⟨TYS, [], [], [], [], []⟩
theorem console_May.eq (x) : fnEval console_May.env console_May.sp.args console_May.sp.res Go.Proofs.Try.f23 x = console_May.sp.f x := by kernel_rfl
theorem console_May.sound : Sound Try.prog 23 console_May.sp := Lift.sound (E := console_May.env) Try.func23 (by kernel_rfl) (env_ok TYS.ok mixed trivial trivial) (by kernel_rfl) console_May.eq

/-! vmfleet/vmfleetref7.ConsoleMay -/
noncomputable def vmfleetref7_ConsoleMay.f (c : ByteArray) : Option Bool :=
  some (decide ((c.size : Int) ≤ 16))
noncomputable def vmfleetref7_ConsoleMay.sp : FSpec := ⟨[(.st .str)], [.bool], fun x => vmfleetref7_ConsoleMay.f x⟩
noncomputable def vmfleetref7_ConsoleMay.env : Env := ⟨TYS, [], [], [], [], []⟩
theorem vmfleetref7_ConsoleMay.eq (x) : fnEval vmfleetref7_ConsoleMay.env vmfleetref7_ConsoleMay.sp.args vmfleetref7_ConsoleMay.sp.res Go.Proofs.Try.f24 x = vmfleetref7_ConsoleMay.sp.f x := by kernel_rfl
theorem vmfleetref7_ConsoleMay.sound : Sound Try.prog 24 vmfleetref7_ConsoleMay.sp := Lift.sound (E := vmfleetref7_ConsoleMay.env) Try.func24 (by kernel_rfl) (env_ok TYS.ok mixed trivial trivial) (by kernel_rfl) vmfleetref7_ConsoleMay.eq

/-! vmfleet/vmfleetlaw7.ConsoleTells -/
noncomputable def vmfleetlaw7_ConsoleTells.f (a : ByteArray) (a' : Int) (a'' : Int) (a''' : Bool) : Option Bool :=
  bif decide ((a.size : Int) > 100) then
    (vmfleetlaw7_awake.f).bind fun r1 =>
    some r1
  else
    (bif a''' then
      (vmfleetmake_Round.f a'' (3 : Int)).bind fun r2 =>
      some (.inl r2)
    else
      some (.inl a'') : Option ((Int) ⊕ (Bool))).bind fun o => match o with
    | .inl y1 =>
      (console_Type.f a a').bind fun r3 =>
      (vmfleetref7_Type.f a a').bind fun r4 =>
      (console_In.f a y1).bind fun r5 =>
      (vmfleetref7_ConsoleIn.f a y1).bind fun r6 =>
      bif decide (r3.1 = r4.1) then
        bif r3.2 == r4.2 then
          bif decide (r5.1 = r6.1) then
            bif decide (r5.2 = r6.2) then
              (console_Pending.f a).bind fun r7 =>
              (vmfleetref7_ConsolePending.f a).bind fun r8 =>
              bif r7 == r8 then
                (console_May.f a).bind fun r9 =>
                (vmfleetref7_ConsoleMay.f a).bind fun r10 =>
                bif r9 == r10 then
                  (vmfleetlaw7_awake.f).bind fun r11 =>
                  some r11
                else
                  some false
              else
                some false
            else
              some false
          else
            some false
        else
          some false
      else
        some false
    | .inr r => some r
noncomputable def vmfleetlaw7_ConsoleTells.sp : FSpec := ⟨[(.st .str), (.int .u8), (.int .i64), .bool], [.bool], fun x => vmfleetlaw7_ConsoleTells.f x.1 x.2.1 x.2.2.1 x.2.2.2⟩
noncomputable def vmfleetlaw7_ConsoleTells.env : Env := ⟨TYS, [(15, vmfleetlaw7_awake.sp), (16, console_Type.sp), (17, console_In.sp), (18, console_Pending.sp), (19, vmfleetmake_Round.sp), (20, vmfleetref7_Type.sp), (21, vmfleetref7_ConsoleIn.sp), (22, vmfleetref7_ConsolePending.sp), (23, console_May.sp), (24, vmfleetref7_ConsoleMay.sp)], [], [], [(5, ⟨[1, 4, 8], [], [⟨2, false, (.int .i64)⟩], 0⟩)], []⟩
theorem vmfleetlaw7_ConsoleTells.eq (x) : fnEval vmfleetlaw7_ConsoleTells.env vmfleetlaw7_ConsoleTells.sp.args vmfleetlaw7_ConsoleTells.sp.res Go.Proofs.Try.f4 x = vmfleetlaw7_ConsoleTells.sp.f x := by kernel_rfl
theorem vmfleetlaw7_ConsoleTells.sound : Sound Try.prog 4 vmfleetlaw7_ConsoleTells.sp := Lift.sound (E := vmfleetlaw7_ConsoleTells.env) Try.func4 (by kernel_rfl) (env_ok TYS.ok mixed ⟨vmfleetlaw7_awake.sound, console_Type.sound, console_In.sound, console_Pending.sound, vmfleetmake_Round.sound, vmfleetref7_Type.sound, vmfleetref7_ConsoleIn.sound, vmfleetref7_ConsolePending.sound, console_May.sound, vmfleetref7_ConsoleMay.sound, trivial⟩ trivial) (by kernel_rfl) vmfleetlaw7_ConsoleTells.eq

/-! vmfleet/vmfleetlaw7.ConsoleQueues -/
noncomputable def vmfleetlaw7_ConsoleQueues.f (a : List Int) : Option Bool :=
  bif decide ((a.length : Int) > 100) then
    (vmfleetlaw7_awake.f).bind fun r1 =>
    some r1
  else
    (loop (Y := (ByteArray × ByteArray × ByteArray) ⊕ (Bool)) (fun (x1 : ByteArray × ByteArray × ByteArray × Int) =>
      bif decide (x1.2.2.2 < (a.length : Int)) then
        if 0 ≤ x1.2.2.2 ∧ x1.2.2.2 < (a.length : Int) then
          bif decide ((andI .i64 (nth (0 : Int) a x1.2.2.2) (1 : Int)) = 0) then
            if 0 ≤ x1.2.2.2 ∧ x1.2.2.2 < (a.length : Int) then
              let v3 := IntKind.wrap .u8 (andI .i64 (shrI .i64 (nth (0 : Int) a x1.2.2.2) (1 : Int)) (255 : Int))
              (console_Type.f x1.1 v3).bind fun r2 =>
              bif !(r2.2 == (decide ((IntKind.wrap .i64 ((x1.2.1.size : Int) - (x1.2.2.1.size : Int))) < 16))) then
                some (.inr (.inr false))
              else
                bif r2.2 then
                  if x1.2.1.size + (strOf ([v3] : List Int)).size ≤ 9223372036854775807 then
                    some (.inl (r2.1, x1.2.1 ++ (strOf ([v3] : List Int)), x1.2.2.1, IntKind.wrap .i64 (x1.2.2.2 + 1)))
                  else none
                else
                  some (.inl (r2.1, x1.2.1, x1.2.2.1, IntKind.wrap .i64 (x1.2.2.2 + 1)))
            else none
          else
            (console_In.f x1.1 (0 : Int)).bind fun r3 =>
            bif decide ((x1.2.2.1.size : Int) < (x1.2.1.size : Int)) then
              bif decide (r3.2 > 255) then
                some (.inr (.inr false))
              else
                let v5 := strOf ([IntKind.wrap .u8 r3.2] : List Int)
                if x1.2.2.1.size + v5.size ≤ 9223372036854775807 then
                  some (.inl (r3.1, x1.2.1, x1.2.2.1 ++ v5, IntKind.wrap .i64 (x1.2.2.2 + 1)))
                else none
            else
              bif !decide (r3.2 = 4294967295) then
                some (.inr (.inr false))
              else
                some (.inl (r3.1, x1.2.1, x1.2.2.1, IntKind.wrap .i64 (x1.2.2.2 + 1)))
        else none
      else
        some (.inr (.inl (x1.1, x1.2.1, x1.2.2.1)))) ((⟨#[]⟩ : ByteArray), (⟨#[]⟩ : ByteArray), (⟨#[]⟩ : ByteArray), (0 : Int))).bind fun o => match o with
    | .inl y2 =>
      if y2.2.2.size + y2.1.size ≤ 9223372036854775807 then
        bif decide ((y2.2.2 ++ y2.1) = y2.2.1) then
          (console_May.f y2.1).bind fun r4 =>
          bif r4 then
            (vmfleetlaw7_awake.f).bind fun r5 =>
            some r5
          else
            some false
        else
          some false
      else none
    | .inr r => some r
noncomputable def vmfleetlaw7_ConsoleQueues.sp : FSpec := ⟨[(.sl (.int .i64))], [.bool], fun x => vmfleetlaw7_ConsoleQueues.f x⟩
noncomputable def vmfleetlaw7_ConsoleQueues.env : Env := ⟨TYS, [(15, vmfleetlaw7_awake.sp), (16, console_Type.sp), (17, console_In.sp), (23, console_May.sp)], [], [(6, ⟨[0], [⟨3, true, (.st .str)⟩, ⟨4, false, .str⟩, ⟨5, false, .str⟩, ⟨6, false, (.int .i64)⟩], [⟨3, true, (.st .str)⟩, ⟨4, false, .str⟩, ⟨5, false, .str⟩], 0⟩)], [], []⟩
theorem vmfleetlaw7_ConsoleQueues.eq (x) : fnEval vmfleetlaw7_ConsoleQueues.env vmfleetlaw7_ConsoleQueues.sp.args vmfleetlaw7_ConsoleQueues.sp.res Go.Proofs.Try.f5 x = vmfleetlaw7_ConsoleQueues.sp.f x := by kernel_rfl
theorem vmfleetlaw7_ConsoleQueues.sound : Sound Try.prog 5 vmfleetlaw7_ConsoleQueues.sp := Lift.sound (E := vmfleetlaw7_ConsoleQueues.env) Try.func5 (by kernel_rfl) (env_ok TYS.ok mixed ⟨vmfleetlaw7_awake.sound, console_Type.sound, console_In.sound, console_May.sound, trivial⟩ trivial) (by kernel_rfl) vmfleetlaw7_ConsoleQueues.eq

/-! vmfleet/timer.Fire -/
noncomputable def timer_Fire.f (t : Bool × Int × Bool) : Option ((Bool × Int × Bool) × Bool) :=
  bif !t.1 then
    some (t, false)
  else
    some ((false, t.2.1, true), true)
noncomputable def timer_Fire.sp : FSpec := ⟨[(.st (.pair .bool (.pair (.int .u32) .bool)))], [(.st (.pair .bool (.pair (.int .u32) .bool))), .bool], fun x => timer_Fire.f x⟩
noncomputable def timer_Fire.env : Env := ⟨TYS, [], [], [], [], []⟩
theorem timer_Fire.eq (x) : fnEval timer_Fire.env timer_Fire.sp.args timer_Fire.sp.res Go.Proofs.Try.f25 x = timer_Fire.sp.f x := by kernel_rfl
theorem timer_Fire.sound : Sound Try.prog 25 timer_Fire.sp := Lift.sound (E := timer_Fire.env) Try.func25 (by kernel_rfl) (env_ok TYS.ok mixed trivial trivial) (by kernel_rfl) timer_Fire.eq

/-! vmfleet/vmfleetref7.Fire -/
noncomputable def vmfleetref7_Fire.f (t : Bool × Int × Bool) : Option ((Bool × Int × Bool) × Bool) :=
  bif !t.1 then
    some (t, false)
  else
    some ((false, t.2.1, true), true)
noncomputable def vmfleetref7_Fire.sp : FSpec := ⟨[(.st (.pair .bool (.pair (.int .u32) .bool)))], [(.st (.pair .bool (.pair (.int .u32) .bool))), .bool], fun x => vmfleetref7_Fire.f x⟩
noncomputable def vmfleetref7_Fire.env : Env := ⟨TYS, [], [], [], [], []⟩
theorem vmfleetref7_Fire.eq (x) : fnEval vmfleetref7_Fire.env vmfleetref7_Fire.sp.args vmfleetref7_Fire.sp.res Go.Proofs.Try.f26 x = vmfleetref7_Fire.sp.f x := by kernel_rfl
theorem vmfleetref7_Fire.sound : Sound Try.prog 26 vmfleetref7_Fire.sp := Lift.sound (E := vmfleetref7_Fire.env) Try.func26 (by kernel_rfl) (env_ok TYS.ok mixed trivial trivial) (by kernel_rfl) vmfleetref7_Fire.eq

/-! vmfleet/timer.Arm -/
noncomputable def timer_Arm.f (_ : Bool × Int × Bool) (deadline : Int) : Option (Bool × Int × Bool) :=
  some (!decide (deadline = 0), deadline, false)
noncomputable def timer_Arm.sp : FSpec := ⟨[(.st (.pair .bool (.pair (.int .u32) .bool))), (.int .u32)], [(.st (.pair .bool (.pair (.int .u32) .bool)))], fun x => timer_Arm.f x.1 x.2⟩
noncomputable def timer_Arm.env : Env := ⟨TYS, [], [], [], [], []⟩
theorem timer_Arm.eq (x) : fnEval timer_Arm.env timer_Arm.sp.args timer_Arm.sp.res Go.Proofs.Try.f27 x = timer_Arm.sp.f x := by kernel_rfl
theorem timer_Arm.sound : Sound Try.prog 27 timer_Arm.sp := Lift.sound (E := timer_Arm.env) Try.func27 (by kernel_rfl) (env_ok TYS.ok mixed trivial trivial) (by kernel_rfl) timer_Arm.eq

/-! vmfleet/vmfleetref7.Arm -/
noncomputable def vmfleetref7_Arm.f (deadline : Int) : Option (Bool × Int × Bool) :=
  bif decide (deadline = 0) then
    some (false, (0 : Int), false)
  else
    some (true, deadline, false)
noncomputable def vmfleetref7_Arm.sp : FSpec := ⟨[(.int .u32)], [(.st (.pair .bool (.pair (.int .u32) .bool)))], fun x => vmfleetref7_Arm.f x⟩
noncomputable def vmfleetref7_Arm.env : Env := ⟨TYS, [], [], [], [], []⟩
theorem vmfleetref7_Arm.eq (x) : fnEval vmfleetref7_Arm.env vmfleetref7_Arm.sp.args vmfleetref7_Arm.sp.res Go.Proofs.Try.f28 x = vmfleetref7_Arm.sp.f x := by kernel_rfl
theorem vmfleetref7_Arm.sound : Sound Try.prog 28 vmfleetref7_Arm.sp := Lift.sound (E := vmfleetref7_Arm.env) Try.func28 (by kernel_rfl) (env_ok TYS.ok mixed trivial trivial) (by kernel_rfl) vmfleetref7_Arm.eq

/-! vmfleet/timer.Due -/
noncomputable def timer_Due.f (t : Bool × Int × Bool) (now : Int) : Option Bool :=
  bif t.1 then
    some (decide (now ≥ t.2.1))
  else
    some false
noncomputable def timer_Due.sp : FSpec := ⟨[(.st (.pair .bool (.pair (.int .u32) .bool))), (.int .u32)], [.bool], fun x => timer_Due.f x.1 x.2⟩
noncomputable def timer_Due.env : Env := ⟨TYS, [], [], [], [], []⟩
theorem timer_Due.eq (x) : fnEval timer_Due.env timer_Due.sp.args timer_Due.sp.res Go.Proofs.Try.f29 x = timer_Due.sp.f x := by kernel_rfl
theorem timer_Due.sound : Sound Try.prog 29 timer_Due.sp := Lift.sound (E := timer_Due.env) Try.func29 (by kernel_rfl) (env_ok TYS.ok mixed trivial trivial) (by kernel_rfl) timer_Due.eq

/-! vmfleet/vmfleetref7.Due -/
noncomputable def vmfleetref7_Due.f (t : Bool × Int × Bool) (now : Int) : Option Bool :=
  bif t.1 then
    some (decide (now ≥ t.2.1))
  else
    some false
noncomputable def vmfleetref7_Due.sp : FSpec := ⟨[(.st (.pair .bool (.pair (.int .u32) .bool))), (.int .u32)], [.bool], fun x => vmfleetref7_Due.f x.1 x.2⟩
noncomputable def vmfleetref7_Due.env : Env := ⟨TYS, [], [], [], [], []⟩
theorem vmfleetref7_Due.eq (x) : fnEval vmfleetref7_Due.env vmfleetref7_Due.sp.args vmfleetref7_Due.sp.res Go.Proofs.Try.f30 x = vmfleetref7_Due.sp.f x := by kernel_rfl
theorem vmfleetref7_Due.sound : Sound Try.prog 30 vmfleetref7_Due.sp := Lift.sound (E := vmfleetref7_Due.env) Try.func30 (by kernel_rfl) (env_ok TYS.ok mixed trivial trivial) (by kernel_rfl) vmfleetref7_Due.eq

/-! vmfleet/timer.In -/
noncomputable def timer_In.f (t : Bool × Int × Bool) : Option Int :=
  bif t.2.2 then
    some (1 : Int)
  else
    some (0 : Int)
noncomputable def timer_In.sp : FSpec := ⟨[(.st (.pair .bool (.pair (.int .u32) .bool)))], [(.int .u32)], fun x => timer_In.f x⟩
noncomputable def timer_In.env : Env := ⟨TYS, [], [], [], [], []⟩
theorem timer_In.eq (x) : fnEval timer_In.env timer_In.sp.args timer_In.sp.res Go.Proofs.Try.f31 x = timer_In.sp.f x := by kernel_rfl
theorem timer_In.sound : Sound Try.prog 31 timer_In.sp := Lift.sound (E := timer_In.env) Try.func31 (by kernel_rfl) (env_ok TYS.ok mixed trivial trivial) (by kernel_rfl) timer_In.eq

/-! vmfleet/vmfleetref7.TimerIn -/
noncomputable def vmfleetref7_TimerIn.f (t : Bool × Int × Bool) : Option Int :=
  bif t.2.2 then
    some (1 : Int)
  else
    some (0 : Int)
noncomputable def vmfleetref7_TimerIn.sp : FSpec := ⟨[(.st (.pair .bool (.pair (.int .u32) .bool)))], [(.int .u32)], fun x => vmfleetref7_TimerIn.f x⟩
noncomputable def vmfleetref7_TimerIn.env : Env := ⟨TYS, [], [], [], [], []⟩
theorem vmfleetref7_TimerIn.eq (x) : fnEval vmfleetref7_TimerIn.env vmfleetref7_TimerIn.sp.args vmfleetref7_TimerIn.sp.res Go.Proofs.Try.f32 x = vmfleetref7_TimerIn.sp.f x := by kernel_rfl
theorem vmfleetref7_TimerIn.sound : Sound Try.prog 32 vmfleetref7_TimerIn.sp := Lift.sound (E := vmfleetref7_TimerIn.env) Try.func32 (by kernel_rfl) (env_ok TYS.ok mixed trivial trivial) (by kernel_rfl) vmfleetref7_TimerIn.eq

/-! vmfleet/timer.Pending -/
noncomputable def timer_Pending.f (t : Bool × Int × Bool) : Option Bool :=
  some t.2.2
noncomputable def timer_Pending.sp : FSpec := ⟨[(.st (.pair .bool (.pair (.int .u32) .bool)))], [.bool], fun x => timer_Pending.f x⟩
noncomputable def timer_Pending.env : Env := ⟨TYS, [], [], [], [], []⟩
theorem timer_Pending.eq (x) : fnEval timer_Pending.env timer_Pending.sp.args timer_Pending.sp.res Go.Proofs.Try.f33 x = timer_Pending.sp.f x := by kernel_rfl
theorem timer_Pending.sound : Sound Try.prog 33 timer_Pending.sp := Lift.sound (E := timer_Pending.env) Try.func33 (by kernel_rfl) (env_ok TYS.ok mixed trivial trivial) (by kernel_rfl) timer_Pending.eq

/-! vmfleet/vmfleetref7.TimerPending -/
noncomputable def vmfleetref7_TimerPending.f (t : Bool × Int × Bool) : Option Bool :=
  some t.2.2
noncomputable def vmfleetref7_TimerPending.sp : FSpec := ⟨[(.st (.pair .bool (.pair (.int .u32) .bool)))], [.bool], fun x => vmfleetref7_TimerPending.f x⟩
noncomputable def vmfleetref7_TimerPending.env : Env := ⟨TYS, [], [], [], [], []⟩
theorem vmfleetref7_TimerPending.eq (x) : fnEval vmfleetref7_TimerPending.env vmfleetref7_TimerPending.sp.args vmfleetref7_TimerPending.sp.res Go.Proofs.Try.f34 x = vmfleetref7_TimerPending.sp.f x := by kernel_rfl
theorem vmfleetref7_TimerPending.sound : Sound Try.prog 34 vmfleetref7_TimerPending.sp := Lift.sound (E := vmfleetref7_TimerPending.env) Try.func34 (by kernel_rfl) (env_ok TYS.ok mixed trivial trivial) (by kernel_rfl) vmfleetref7_TimerPending.eq

/-! vmfleet/timer.May -/
noncomputable def timer_May.f (t : Bool × Int × Bool) : Option Bool :=
  bif t.1 then
    bif !t.2.2 then
      some (!decide (t.2.1 = 0))
    else
      some false
  else
    bif t.2.2 then
      some true
    else
      some (decide (t.2.1 = 0))
noncomputable def timer_May.sp : FSpec := ⟨[(.st (.pair .bool (.pair (.int .u32) .bool)))], [.bool], fun x => timer_May.f x⟩
noncomputable def timer_May.env : Env := ⟨TYS, [], [], [], [], []⟩
theorem timer_May.eq (x) : fnEval timer_May.env timer_May.sp.args timer_May.sp.res Go.Proofs.Try.f35 x = timer_May.sp.f x := by kernel_rfl
theorem timer_May.sound : Sound Try.prog 35 timer_May.sp := Lift.sound (E := timer_May.env) Try.func35 (by kernel_rfl) (env_ok TYS.ok mixed trivial trivial) (by kernel_rfl) timer_May.eq

/-! vmfleet/vmfleetref7.TimerMay -/
noncomputable def vmfleetref7_TimerMay.f (t : Bool × Int × Bool) : Option Bool :=
  (bif t.1 then
    some (.inl t.2.2)
  else
    some (.inl false) : Option ((Bool) ⊕ (Bool))).bind fun o => match o with
  | .inl y1 =>
    bif y1 then
      some false
    else
      bif t.1 then
        some (!decide (t.2.1 = 0))
      else
        bif t.2.2 then
          some true
        else
          some (decide (t.2.1 = 0))
  | .inr r => some r
noncomputable def vmfleetref7_TimerMay.sp : FSpec := ⟨[(.st (.pair .bool (.pair (.int .u32) .bool)))], [.bool], fun x => vmfleetref7_TimerMay.f x⟩
noncomputable def vmfleetref7_TimerMay.env : Env := ⟨TYS, [], [], [], [(2, ⟨[1, 2], [], [⟨3, false, .bool⟩], 0⟩)], []⟩
theorem vmfleetref7_TimerMay.eq (x) : fnEval vmfleetref7_TimerMay.env vmfleetref7_TimerMay.sp.args vmfleetref7_TimerMay.sp.res Go.Proofs.Try.f36 x = vmfleetref7_TimerMay.sp.f x := by kernel_rfl
theorem vmfleetref7_TimerMay.sound : Sound Try.prog 36 vmfleetref7_TimerMay.sp := Lift.sound (E := vmfleetref7_TimerMay.env) Try.func36 (by kernel_rfl) (env_ok TYS.ok mixed trivial trivial) (by kernel_rfl) vmfleetref7_TimerMay.eq

/-! vmfleet/vmfleetlaw8.awake -/
noncomputable def vmfleetlaw8_awake.f  : Option Bool :=
  (timer_Arm.f (false, (0 : Int), false) (5 : Int)).bind fun r1 =>
  (timer_Fire.f r1).bind fun r2 =>
  (timer_Due.f r1 (4 : Int)).bind fun r3 =>
  bif !r3 then
    (timer_Due.f r1 (5 : Int)).bind fun r4 =>
    bif r4 then
      bif r2.2 then
        (timer_Pending.f r2.1).bind fun r5 =>
        bif r5 then
          (timer_In.f r2.1).bind fun r6 =>
          some (decide (r6 = 1))
        else
          some false
      else
        some false
    else
      some false
  else
    some false
noncomputable def vmfleetlaw8_awake.sp : FSpec := ⟨[], [.bool], fun _ => vmfleetlaw8_awake.f⟩
noncomputable def vmfleetlaw8_awake.env : Env := ⟨TYS, [(25, timer_Fire.sp), (27, timer_Arm.sp), (29, timer_Due.sp), (31, timer_In.sp), (33, timer_Pending.sp)], [], [], [], []⟩
theorem vmfleetlaw8_awake.eq (x) : fnEval vmfleetlaw8_awake.env vmfleetlaw8_awake.sp.args vmfleetlaw8_awake.sp.res Go.Proofs.Try.f37 x = vmfleetlaw8_awake.sp.f x := by kernel_rfl
theorem vmfleetlaw8_awake.sound : Sound Try.prog 37 vmfleetlaw8_awake.sp := Lift.sound (E := vmfleetlaw8_awake.env) Try.func37 (by kernel_rfl) (env_ok TYS.ok mixed ⟨timer_Fire.sound, timer_Arm.sound, timer_Due.sound, timer_In.sound, timer_Pending.sound, trivial⟩ trivial) (by kernel_rfl) vmfleetlaw8_awake.eq

/-! vmfleet/vmfleetlaw8.TimerTells -/
noncomputable def vmfleetlaw8_TimerTells.f (a : Bool × Int × Bool) (a' : Int) (a'' : Int) : Option Bool :=
  (timer_Fire.f a).bind fun r1 =>
  (vmfleetref7_Fire.f a).bind fun r2 =>
  (timer_Arm.f a a').bind fun r3 =>
  (vmfleetref7_Arm.f a').bind fun r4 =>
  bif decide (r3 = r4) then
    bif decide (r1.1 = r2.1) then
      bif r1.2 == r2.2 then
        (timer_Due.f a a'').bind fun r5 =>
        (vmfleetref7_Due.f a a'').bind fun r6 =>
        bif r5 == r6 then
          (timer_In.f a).bind fun r7 =>
          (vmfleetref7_TimerIn.f a).bind fun r8 =>
          bif decide (r7 = r8) then
            (timer_Pending.f a).bind fun r9 =>
            (vmfleetref7_TimerPending.f a).bind fun r10 =>
            bif r9 == r10 then
              (timer_May.f a).bind fun r11 =>
              (vmfleetref7_TimerMay.f a).bind fun r12 =>
              bif r11 == r12 then
                (vmfleetlaw8_awake.f).bind fun r13 =>
                some r13
              else
                some false
            else
              some false
          else
            some false
        else
          some false
      else
        some false
    else
      some false
  else
    some false
noncomputable def vmfleetlaw8_TimerTells.sp : FSpec := ⟨[(.st (.pair .bool (.pair (.int .u32) .bool))), (.int .u32), (.int .u32)], [.bool], fun x => vmfleetlaw8_TimerTells.f x.1 x.2.1 x.2.2⟩
noncomputable def vmfleetlaw8_TimerTells.env : Env := ⟨TYS, [(25, timer_Fire.sp), (26, vmfleetref7_Fire.sp), (27, timer_Arm.sp), (28, vmfleetref7_Arm.sp), (29, timer_Due.sp), (30, vmfleetref7_Due.sp), (31, timer_In.sp), (32, vmfleetref7_TimerIn.sp), (33, timer_Pending.sp), (34, vmfleetref7_TimerPending.sp), (35, timer_May.sp), (36, vmfleetref7_TimerMay.sp), (37, vmfleetlaw8_awake.sp)], [], [], [], []⟩
theorem vmfleetlaw8_TimerTells.eq (x) : fnEval vmfleetlaw8_TimerTells.env vmfleetlaw8_TimerTells.sp.args vmfleetlaw8_TimerTells.sp.res Go.Proofs.Try.f6 x = vmfleetlaw8_TimerTells.sp.f x := by kernel_rfl
theorem vmfleetlaw8_TimerTells.sound : Sound Try.prog 6 vmfleetlaw8_TimerTells.sp := Lift.sound (E := vmfleetlaw8_TimerTells.env) Try.func6 (by kernel_rfl) (env_ok TYS.ok mixed ⟨timer_Fire.sound, vmfleetref7_Fire.sound, timer_Arm.sound, vmfleetref7_Arm.sound, timer_Due.sound, vmfleetref7_Due.sound, timer_In.sound, vmfleetref7_TimerIn.sound, timer_Pending.sound, vmfleetref7_TimerPending.sound, timer_May.sound, vmfleetref7_TimerMay.sound, vmfleetlaw8_awake.sound, trivial⟩ trivial) (by kernel_rfl) vmfleetlaw8_TimerTells.eq

/-! vmfleet/vmfleetlaw8.TimerOnce -/
noncomputable def vmfleetlaw8_TimerOnce.f (a : List Int) : Option Bool :=
  bif decide ((a.length : Int) > 100) then
    (vmfleetlaw8_awake.f).bind fun r1 =>
    some r1
  else
    (timer_Arm.f (false, (0 : Int), false) (0 : Int)).bind fun r2 =>
    (loop (Y := (Bool × Int × Bool) ⊕ (Bool)) (fun (x1 : (Bool × Int × Bool) × Bool × Int × Int) =>
      bif decide (x1.2.2.2 < (a.length : Int)) then
        if 0 ≤ x1.2.2.2 ∧ x1.2.2.2 < (a.length : Int) then
          bif decide ((Int.tmod (nth (0 : Int) a x1.2.2.2) (4 : Int)) = 0) then
            if 0 ≤ x1.2.2.2 ∧ x1.2.2.2 < (a.length : Int) then
              let v2 := shrI .u32 (nth (0 : Int) a x1.2.2.2) (2 : Int)
              (timer_Arm.f x1.1 v2).bind fun r3 =>
              some (.inl (r3, !decide (v2 = 0), v2, IntKind.wrap .i64 (x1.2.2.2 + 1)))
            else none
          else
            if 0 ≤ x1.2.2.2 ∧ x1.2.2.2 < (a.length : Int) then
              (timer_Due.f x1.1 (nth (0 : Int) a x1.2.2.2)).bind fun r4 =>
              bif !r4 then
                bif x1.2.1 then
                  if 0 ≤ x1.2.2.2 ∧ x1.2.2.2 < (a.length : Int) then
                    bif (decide ((nth (0 : Int) a x1.2.2.2) ≥ x1.2.2.1)) then
                      some (.inr (.inr false))
                    else
                      some (.inl (x1.1, x1.2.1, x1.2.2.1, IntKind.wrap .i64 (x1.2.2.2 + 1)))
                  else none
                else
                  some (.inl (x1.1, x1.2.1, x1.2.2.1, IntKind.wrap .i64 (x1.2.2.2 + 1)))
              else
                (timer_Fire.f x1.1).bind fun r5 =>
                bif !r5.2 then
                  some (.inr (.inr false))
                else
                  bif !x1.2.1 then
                    some (.inr (.inr false))
                  else
                    if 0 ≤ x1.2.2.2 ∧ x1.2.2.2 < (a.length : Int) then
                      bif (decide ((nth (0 : Int) a x1.2.2.2) < x1.2.2.1)) then
                        some (.inr (.inr false))
                      else
                        (timer_Pending.f r5.1).bind fun r6 =>
                        bif !r6 then
                          some (.inr (.inr false))
                        else
                          some (.inl (r5.1, false, x1.2.2.1, IntKind.wrap .i64 (x1.2.2.2 + 1)))
                    else none
            else none
        else none
      else
        some (.inr (.inl x1.1))) (r2, false, (0 : Int), (0 : Int))).bind fun o => match o with
    | .inl y2 =>
      (timer_May.f y2).bind fun r7 =>
      bif r7 then
        (vmfleetlaw8_awake.f).bind fun r8 =>
        some r8
      else
        some false
    | .inr r => some r
noncomputable def vmfleetlaw8_TimerOnce.sp : FSpec := ⟨[(.sl (.int .u32))], [.bool], fun x => vmfleetlaw8_TimerOnce.f x⟩
noncomputable def vmfleetlaw8_TimerOnce.env : Env := ⟨TYS, [(25, timer_Fire.sp), (27, timer_Arm.sp), (29, timer_Due.sp), (33, timer_Pending.sp), (35, timer_May.sp), (37, vmfleetlaw8_awake.sp)], [], [(6, ⟨[0], [⟨3, true, (.st (.pair .bool (.pair (.int .u32) .bool)))⟩, ⟨4, false, .bool⟩, ⟨5, false, (.int .u32)⟩, ⟨6, false, (.int .i64)⟩], [⟨3, true, (.st (.pair .bool (.pair (.int .u32) .bool)))⟩], 0⟩)], [], []⟩
theorem vmfleetlaw8_TimerOnce.eq (x) : fnEval vmfleetlaw8_TimerOnce.env vmfleetlaw8_TimerOnce.sp.args vmfleetlaw8_TimerOnce.sp.res Go.Proofs.Try.f7 x = vmfleetlaw8_TimerOnce.sp.f x := by kernel_rfl
theorem vmfleetlaw8_TimerOnce.sound : Sound Try.prog 7 vmfleetlaw8_TimerOnce.sp := Lift.sound (E := vmfleetlaw8_TimerOnce.env) Try.func7 (by kernel_rfl) (env_ok TYS.ok mixed ⟨timer_Fire.sound, timer_Arm.sound, timer_Due.sound, timer_Pending.sound, timer_May.sound, vmfleetlaw8_awake.sound, trivial⟩ trivial) (by kernel_rfl) vmfleetlaw8_TimerOnce.eq

/-! vmfleet/vmfleetlaw8.TimerKeeps -/
noncomputable def vmfleetlaw8_TimerKeeps.f (t : Bool × Int × Bool) (deadline : Int) : Option Bool :=
  (timer_May.f t).bind fun r1 =>
  bif !r1 then
    (vmfleetlaw8_awake.f).bind fun r2 =>
    some r2
  else
    (timer_Fire.f t).bind fun r3 =>
    (timer_Arm.f t deadline).bind fun r4 =>
    (timer_May.f r4).bind fun r5 =>
    bif r5 then
      (timer_May.f r3.1).bind fun r6 =>
      bif r6 then
        (timer_Arm.f t deadline).bind fun r7 =>
        (timer_Pending.f r7).bind fun r8 =>
        bif !r8 then
          (vmfleetlaw8_awake.f).bind fun r9 =>
          some r9
        else
          some false
      else
        some false
    else
      some false
noncomputable def vmfleetlaw8_TimerKeeps.sp : FSpec := ⟨[(.st (.pair .bool (.pair (.int .u32) .bool))), (.int .u32)], [.bool], fun x => vmfleetlaw8_TimerKeeps.f x.1 x.2⟩
noncomputable def vmfleetlaw8_TimerKeeps.env : Env := ⟨TYS, [(25, timer_Fire.sp), (27, timer_Arm.sp), (33, timer_Pending.sp), (35, timer_May.sp), (37, vmfleetlaw8_awake.sp)], [], [], [], []⟩
theorem vmfleetlaw8_TimerKeeps.eq (x) : fnEval vmfleetlaw8_TimerKeeps.env vmfleetlaw8_TimerKeeps.sp.args vmfleetlaw8_TimerKeeps.sp.res Go.Proofs.Try.f8 x = vmfleetlaw8_TimerKeeps.sp.f x := by kernel_rfl
theorem vmfleetlaw8_TimerKeeps.sound : Sound Try.prog 8 vmfleetlaw8_TimerKeeps.sp := Lift.sound (E := vmfleetlaw8_TimerKeeps.env) Try.func8 (by kernel_rfl) (env_ok TYS.ok mixed ⟨timer_Fire.sound, timer_Arm.sound, timer_Pending.sound, timer_May.sound, vmfleetlaw8_awake.sound, trivial⟩ trivial) (by kernel_rfl) vmfleetlaw8_TimerKeeps.eq

/-! vmfleet/admission.unit -/
noncomputable def admission_unit.f (n : Int) : Option Bool :=
  bif decide (n ≥ 0) then
    some (decide (n ≤ 1000000))
  else
    some false
noncomputable def admission_unit.sp : FSpec := ⟨[(.int .i64)], [.bool], fun x => admission_unit.f x⟩
noncomputable def admission_unit.env : Env := ⟨TYS, [], [], [], [], []⟩
theorem admission_unit.eq (x) : fnEval admission_unit.env admission_unit.sp.args admission_unit.sp.res Go.Proofs.Try.f65 x = admission_unit.sp.f x := by kernel_rfl
theorem admission_unit.sound : Sound Try.prog 65 admission_unit.sp := Lift.sound (E := admission_unit.env) Try.func65 (by kernel_rfl) (env_ok TYS.ok mixed trivial trivial) (by kernel_rfl) admission_unit.eq

/-! vmfleet/admission.ValidHost -/
noncomputable def admission_ValidHost.f (c : Int × Int × Bool) : Option Bool :=
  (admission_unit.f c.1).bind fun r1 =>
  bif r1 then
    (admission_unit.f c.2.1).bind fun r2 =>
    some r2
  else
    some false
noncomputable def admission_ValidHost.sp : FSpec := ⟨[(.st (.pair (.int .i64) (.pair (.int .i64) .bool)))], [.bool], fun x => admission_ValidHost.f x⟩
noncomputable def admission_ValidHost.env : Env := ⟨TYS, [(65, admission_unit.sp)], [], [], [], []⟩
theorem admission_ValidHost.eq (x) : fnEval admission_ValidHost.env admission_ValidHost.sp.args admission_ValidHost.sp.res Go.Proofs.Try.f64 x = admission_ValidHost.sp.f x := by kernel_rfl
theorem admission_ValidHost.sound : Sound Try.prog 64 admission_ValidHost.sp := Lift.sound (E := admission_ValidHost.env) Try.func64 (by kernel_rfl) (env_ok TYS.ok mixed ⟨admission_unit.sound, trivial⟩ trivial) (by kernel_rfl) admission_ValidHost.eq

/-! vmfleet/admission.ValidDemand -/
noncomputable def admission_ValidDemand.f (d : Int × Int × Int × Int) : Option Bool :=
  bif decide (d.1 ≥ 0) then
    bif decide (d.1 ≤ d.2.1) then
      (admission_unit.f d.2.1).bind fun r1 =>
      bif r1 then
        (admission_unit.f d.2.2.1).bind fun r2 =>
        bif r2 then
          some (decide (d.2.2.2 ≥ 0))
        else
          some false
      else
        some false
    else
      some false
  else
    some false
noncomputable def admission_ValidDemand.sp : FSpec := ⟨[(.st (.pair (.int .i64) (.pair (.int .i64) (.pair (.int .i64) (.int .i64)))))], [.bool], fun x => admission_ValidDemand.f x⟩
noncomputable def admission_ValidDemand.env : Env := ⟨TYS, [(65, admission_unit.sp)], [], [], [], []⟩
theorem admission_ValidDemand.eq (x) : fnEval admission_ValidDemand.env admission_ValidDemand.sp.args admission_ValidDemand.sp.res Go.Proofs.Try.f59 x = admission_ValidDemand.sp.f x := by kernel_rfl
theorem admission_ValidDemand.sound : Sound Try.prog 59 admission_ValidDemand.sp := Lift.sound (E := admission_ValidDemand.env) Try.func59 (by kernel_rfl) (env_ok TYS.ok mixed ⟨admission_unit.sound, trivial⟩ trivial) (by kernel_rfl) admission_ValidDemand.eq

/-! vmfleet/admission.valid -/
noncomputable def admission_valid.f (c : Int × Int × Bool) (l : List (Int × Int × Int × Int)) : Option Bool :=
  (admission_ValidHost.f c).bind fun r1 =>
  bif !r1 then
    some false
  else
    bif decide ((l.length : Int) > 16) then
      some false
    else
      (loop (Y := (Unit) ⊕ (Bool)) (fun (x1 : Int) =>
        bif decide (x1 < (l.length : Int)) then
          if 0 ≤ x1 ∧ x1 < (l.length : Int) then
            (admission_ValidDemand.f ((nth ((0 : Int), (0 : Int), (0 : Int), (0 : Int)) l x1).1, ((nth ((0 : Int), (0 : Int), (0 : Int), (0 : Int)) l x1).2).1, (((nth ((0 : Int), (0 : Int), (0 : Int), (0 : Int)) l x1).2).2))).bind fun r2 =>
            bif !r2 then
              some (.inr (.inr false))
            else
              some (.inl (IntKind.wrap .i64 (x1 + 1)))
          else none
        else
          some (.inr (.inl ()))) (0 : Int)).bind fun o => match o with
      | .inl y2 =>
        some true
      | .inr r => some r
noncomputable def admission_valid.sp : FSpec := ⟨[(.st (.pair (.int .i64) (.pair (.int .i64) .bool))), (.sl (.st (.pair (.int .i64) (.pair (.int .i64) (.pair (.int .i64) (.int .i64))))))], [.bool], fun x => admission_valid.f x.1 x.2⟩
noncomputable def admission_valid.env : Env := ⟨TYS, [(59, admission_ValidDemand.sp), (64, admission_ValidHost.sp)], [], [(4, ⟨[15, 16], [⟨17, false, (.int .i64)⟩], [], 0⟩)], [], []⟩
theorem admission_valid.eq (x) : fnEval admission_valid.env admission_valid.sp.args admission_valid.sp.res Go.Proofs.Try.f58 x = admission_valid.sp.f x := by kernel_rfl
theorem admission_valid.sound : Sound Try.prog 58 admission_valid.sp := Lift.sound (E := admission_valid.env) Try.func58 (by kernel_rfl) (env_ok TYS.ok mixed ⟨admission_ValidDemand.sound, admission_ValidHost.sound, trivial⟩ trivial) (by kernel_rfl) admission_valid.eq

/-! vmfleet/admission.Free -/
noncomputable def admission_Free.f (c : Int × Int × Bool) (l : List (Int × Int × Int × Int)) : Option (Int × Int) :=
  (admission_valid.f c l).bind fun r1 =>
  bif !r1 then
    some ((0 : Int), (0 : Int))
  else
    (loop (Y := (Int × Int) ⊕ (Int × Int)) (fun (x1 : Int × Int × Int) =>
      bif decide (x1.2.2 < (l.length : Int)) then
        if 0 ≤ x1.2.2 ∧ x1.2.2 < (l.length : Int) then
          some (.inl ((IntKind.wrap .i64 (x1.1 - ((nth ((0 : Int), (0 : Int), (0 : Int), (0 : Int)) l x1.2.2).1))), (IntKind.wrap .i64 (x1.2.1 - ((((nth ((0 : Int), (0 : Int), (0 : Int), (0 : Int)) l x1.2.2).2).2).1))), IntKind.wrap .i64 (x1.2.2 + 1)))
        else none
      else
        some (.inr (.inl (x1.1, x1.2.1)))) (c.1, c.2.1, (0 : Int))).bind fun o => match o with
    | .inl y2 =>
      some y2
    | .inr r => some r
noncomputable def admission_Free.sp : FSpec := ⟨[(.st (.pair (.int .i64) (.pair (.int .i64) .bool))), (.sl (.st (.pair (.int .i64) (.pair (.int .i64) (.pair (.int .i64) (.int .i64))))))], [(.int .i64), (.int .i64)], fun x => admission_Free.f x.1 x.2⟩
noncomputable def admission_Free.env : Env := ⟨TYS, [(58, admission_valid.sp)], [], [(5, ⟨[4, 5, 18, 19], [⟨6, false, (.int .i64)⟩, ⟨7, false, (.int .i64)⟩, ⟨20, false, (.int .i64)⟩], [⟨6, false, (.int .i64)⟩, ⟨7, false, (.int .i64)⟩], 0⟩)], [], []⟩
theorem admission_Free.eq (x) : fnEval admission_Free.env admission_Free.sp.args admission_Free.sp.res Go.Proofs.Try.f56 x = admission_Free.sp.f x := by kernel_rfl
theorem admission_Free.sound : Sound Try.prog 56 admission_Free.sp := Lift.sound (E := admission_Free.env) Try.func56 (by kernel_rfl) (env_ok TYS.ok mixed ⟨admission_valid.sound, trivial⟩ trivial) (by kernel_rfl) admission_Free.eq

/-! vmfleet/admission.Admit -/
noncomputable def admission_Admit.f (c : Int × Int × Bool) (l : List (Int × Int × Int × Int)) (d : Int × Int × Int × Int) : Option Int :=
  (admission_valid.f c l).bind fun r1 =>
  bif !r1 then
    some (3900 : Int)
  else
    (admission_ValidDemand.f d).bind fun r2 =>
    bif !r2 then
      some (3900 : Int)
    else
      (admission_Free.f c l).bind fun r3 =>
      bif !c.2.2 then
        some (3904 : Int)
      else
        bif decide (r3.1 < d.1) then
          some (3901 : Int)
        else
          bif decide (r3.2 < d.2.2.1) then
            some (3902 : Int)
          else
            (loop (Y := (Unit) ⊕ (Int)) (fun (x1 : Int) =>
              bif decide (x1 < (l.length : Int)) then
                if 0 ≤ x1 ∧ x1 < (l.length : Int) then
                  bif !decide (d.2.2.2 = 0) then
                    bif (decide (((((nth ((0 : Int), (0 : Int), (0 : Int), (0 : Int)) l x1).2).2).2) = d.2.2.2)) then
                      some (.inr (.inr (3903 : Int)))
                    else
                      some (.inl (IntKind.wrap .i64 (x1 + 1)))
                  else
                    some (.inl (IntKind.wrap .i64 (x1 + 1)))
                else none
              else
                some (.inr (.inl ()))) (0 : Int)).bind fun o => match o with
            | .inl y2 =>
              some (0 : Int)
            | .inr r => some r
noncomputable def admission_Admit.sp : FSpec := ⟨[(.st (.pair (.int .i64) (.pair (.int .i64) .bool))), (.sl (.st (.pair (.int .i64) (.pair (.int .i64) (.pair (.int .i64) (.int .i64)))))), (.st (.pair (.int .i64) (.pair (.int .i64) (.pair (.int .i64) (.int .i64)))))], [(.int .i64)], fun x => admission_Admit.f x.1 x.2.1 x.2.2⟩
noncomputable def admission_Admit.env : Env := ⟨TYS, [(56, admission_Free.sp), (58, admission_valid.sp), (59, admission_ValidDemand.sp)], [], [(11, ⟨[5, 40, 41], [⟨42, false, (.int .i64)⟩], [], 1⟩)], [], []⟩
theorem admission_Admit.eq (x) : fnEval admission_Admit.env admission_Admit.sp.args admission_Admit.sp.res Go.Proofs.Try.f42 x = admission_Admit.sp.f x := by kernel_rfl
theorem admission_Admit.sound : Sound Try.prog 42 admission_Admit.sp := Lift.sound (E := admission_Admit.env) Try.func42 (by kernel_rfl) (env_ok TYS.ok mixed ⟨admission_Free.sound, admission_valid.sound, admission_ValidDemand.sound, trivial⟩ trivial) (by kernel_rfl) admission_Admit.eq

/-! vmfleet/admission.Fits -/
noncomputable def admission_Fits.f (c : Int × Int × Bool) (l : List (Int × Int × Int × Int)) : Option Bool :=
  (loop (Y := (Unit) ⊕ (Bool)) (fun (x1 : Int) =>
    bif decide (x1 < (l.length : Int)) then
      if 0 ≤ x1 ∧ x1 < (l.length : Int) then
        if 0 ≤ x1 ∧ x1 ≤ (l.length : Int) then
          (admission_Admit.f c (slc l (0 : Int) x1) ((nth ((0 : Int), (0 : Int), (0 : Int), (0 : Int)) l x1).1, ((nth ((0 : Int), (0 : Int), (0 : Int), (0 : Int)) l x1).2).1, (((nth ((0 : Int), (0 : Int), (0 : Int), (0 : Int)) l x1).2).2))).bind fun r1 =>
          bif !decide (r1 = 0) then
            some (.inr (.inr false))
          else
            some (.inl (IntKind.wrap .i64 (x1 + 1)))
        else none
      else none
    else
      some (.inr (.inl ()))) (0 : Int)).bind fun o => match o with
  | .inl y2 =>
    some true
  | .inr r => some r
noncomputable def admission_Fits.sp : FSpec := ⟨[(.st (.pair (.int .i64) (.pair (.int .i64) .bool))), (.sl (.st (.pair (.int .i64) (.pair (.int .i64) (.pair (.int .i64) (.int .i64))))))], [.bool], fun x => admission_Fits.f x.1 x.2⟩
noncomputable def admission_Fits.env : Env := ⟨TYS, [(42, admission_Admit.sp)], [], [(2, ⟨[1, 2, 7, 8], [⟨9, false, (.int .i64)⟩], [], 0⟩)], [], []⟩
theorem admission_Fits.eq (x) : fnEval admission_Fits.env admission_Fits.sp.args admission_Fits.sp.res Go.Proofs.Try.f40 x = admission_Fits.sp.f x := by kernel_rfl
theorem admission_Fits.sound : Sound Try.prog 40 admission_Fits.sp := Lift.sound (E := admission_Fits.env) Try.func40 (by kernel_rfl) (env_ok TYS.ok mixed ⟨admission_Admit.sound, trivial⟩ trivial) (by kernel_rfl) admission_Fits.eq

/-! vmfleet/vmfleetlaw39.awake -/
noncomputable def vmfleetlaw39_awake.f  : Option Bool :=
  (admission_Free.f ((10 : Int), (10 : Int), true) ([((6 : Int), (8 : Int), (5 : Int), (1 : Int))] : List (Int × Int × Int × Int))).bind fun r1 =>
  (admission_Admit.f ((10 : Int), (10 : Int), true) [] ((6 : Int), (8 : Int), (5 : Int), (1 : Int))).bind fun r2 =>
  bif decide (r2 = 0) then
    (admission_Admit.f ((10 : Int), (10 : Int), true) ([((6 : Int), (8 : Int), (5 : Int), (1 : Int))] : List (Int × Int × Int × Int)) ((6 : Int), (8 : Int), (5 : Int), (1 : Int))).bind fun r3 =>
    bif decide (r3 = 3901) then
      (admission_Admit.f ((10 : Int), (10 : Int), true) ([((6 : Int), (8 : Int), (5 : Int), (1 : Int))] : List (Int × Int × Int × Int)) ((4 : Int), (8 : Int), (5 : Int), (1 : Int))).bind fun r4 =>
      bif decide (r4 = 3903) then
        bif decide (r1.1 = 4) then
          bif decide (r1.2 = 5) then
            (admission_Fits.f ((10 : Int), (10 : Int), true) ([((6 : Int), (8 : Int), (5 : Int), (1 : Int))] : List (Int × Int × Int × Int))).bind fun r5 =>
            bif r5 then
              (admission_Fits.f ((10 : Int), (10 : Int), true) ([((6 : Int), (8 : Int), (5 : Int), (1 : Int)), ((6 : Int), (8 : Int), (5 : Int), (1 : Int))] : List (Int × Int × Int × Int))).bind fun r6 =>
              some (!r6)
            else
              some false
          else
            some false
        else
          some false
      else
        some false
    else
      some false
  else
    some false
noncomputable def vmfleetlaw39_awake.sp : FSpec := ⟨[], [.bool], fun _ => vmfleetlaw39_awake.f⟩
noncomputable def vmfleetlaw39_awake.env : Env := ⟨TYS, [(40, admission_Fits.sp), (42, admission_Admit.sp), (56, admission_Free.sp)], [], [], [], []⟩
theorem vmfleetlaw39_awake.eq (x) : fnEval vmfleetlaw39_awake.env vmfleetlaw39_awake.sp.args vmfleetlaw39_awake.sp.res Go.Proofs.Try.f38 x = vmfleetlaw39_awake.sp.f x := by kernel_rfl
theorem vmfleetlaw39_awake.sound : Sound Try.prog 38 vmfleetlaw39_awake.sp := Lift.sound (E := vmfleetlaw39_awake.env) Try.func38 (by kernel_rfl) (env_ok TYS.ok mixed ⟨admission_Fits.sound, admission_Admit.sound, admission_Free.sound, trivial⟩ trivial) (by kernel_rfl) vmfleetlaw39_awake.eq

/-! vmfleet/vmfleetref1.Next -/
noncomputable def vmfleetref1_Next.f (seed : Int) : Option (Int × Int) :=
  let v1 := IntKind.wrap .u64 (seed + 11400714819323198485)
  let v2 := IntKind.wrap .u64 ((xorI .u64 v1 (shrI .u64 v1 (30 : Int))) * 13787848793156543929)
  let v3 := IntKind.wrap .u64 ((xorI .u64 v2 (shrI .u64 v2 (27 : Int))) * 10723151780598845931)
  some (xorI .u64 v3 (shrI .u64 v3 (31 : Int)), v1)
noncomputable def vmfleetref1_Next.sp : FSpec := ⟨[(.int .u64)], [(.int .u64), (.int .u64)], fun x => vmfleetref1_Next.f x⟩
noncomputable def vmfleetref1_Next.env : Env := ⟨TYS, [], [], [], [], []⟩
theorem vmfleetref1_Next.eq (x) : fnEval vmfleetref1_Next.env vmfleetref1_Next.sp.args vmfleetref1_Next.sp.res Go.Proofs.Try.f63 x = vmfleetref1_Next.sp.f x := by kernel_rfl
theorem vmfleetref1_Next.sound : Sound Try.prog 63 vmfleetref1_Next.sp := Lift.sound (E := vmfleetref1_Next.env) Try.func63 (by kernel_rfl) (env_ok TYS.ok mixed trivial trivial) (by kernel_rfl) vmfleetref1_Next.eq

/-! vmfleet/vmfleetmake.Mix -/
noncomputable def vmfleetmake_Mix.f (n : Int) (k : Int) : Option Int :=
  (vmfleetref1_Next.f (xorI .u64 (IntKind.wrap .u64 n) (IntKind.wrap .u64 ((IntKind.wrap .u64 k) * 11400714819323198485)))).bind fun r1 =>
  some (IntKind.wrap .i64 (shrI .u64 r1.1 (1 : Int)))
noncomputable def vmfleetmake_Mix.sp : FSpec := ⟨[(.int .i64), (.int .i64)], [(.int .i64)], fun x => vmfleetmake_Mix.f x.1 x.2⟩
noncomputable def vmfleetmake_Mix.env : Env := ⟨TYS, [(63, vmfleetref1_Next.sp)], [], [], [], []⟩
theorem vmfleetmake_Mix.eq (x) : fnEval vmfleetmake_Mix.env vmfleetmake_Mix.sp.args vmfleetmake_Mix.sp.res Go.Proofs.Try.f57 x = vmfleetmake_Mix.sp.f x := by kernel_rfl
theorem vmfleetmake_Mix.sound : Sound Try.prog 57 vmfleetmake_Mix.sp := Lift.sound (E := vmfleetmake_Mix.env) Try.func57 (by kernel_rfl) (env_ok TYS.ok mixed ⟨vmfleetref1_Next.sound, trivial⟩ trivial) (by kernel_rfl) vmfleetmake_Mix.eq

/-! vmfleet/vmfleetlaw39.demand -/
noncomputable def vmfleetlaw39_demand.f (n : Int) : Option (Int × Int × Int × Int) :=
  (vmfleetmake_Mix.f n (51 : Int)).bind fun r1 =>
  some (andI .i64 r1 (7 : Int), (IntKind.wrap .i64 ((andI .i64 r1 (7 : Int)) + (andI .i64 (shrI .i64 r1 (8 : Int)) (7 : Int)))), (andI .i64 (shrI .i64 r1 (3 : Int)) (7 : Int)), (andI .i64 (shrI .i64 r1 (6 : Int)) (3 : Int)))
noncomputable def vmfleetlaw39_demand.sp : FSpec := ⟨[(.int .i64)], [(.st (.pair (.int .i64) (.pair (.int .i64) (.pair (.int .i64) (.int .i64)))))], fun x => vmfleetlaw39_demand.f x⟩
noncomputable def vmfleetlaw39_demand.env : Env := ⟨TYS, [(57, vmfleetmake_Mix.sp)], [], [], [], []⟩
theorem vmfleetlaw39_demand.eq (x) : fnEval vmfleetlaw39_demand.env vmfleetlaw39_demand.sp.args vmfleetlaw39_demand.sp.res Go.Proofs.Try.f41 x = vmfleetlaw39_demand.sp.f x := by kernel_rfl
theorem vmfleetlaw39_demand.sound : Sound Try.prog 41 vmfleetlaw39_demand.sp := Lift.sound (E := vmfleetlaw39_demand.env) Try.func41 (by kernel_rfl) (env_ok TYS.ok mixed ⟨vmfleetmake_Mix.sound, trivial⟩ trivial) (by kernel_rfl) vmfleetlaw39_demand.eq

/-! vmfleet/vmfleetlaw39.demands -/
noncomputable def vmfleetlaw39_demands.f (l : List Int) : Option (List (Int × Int × Int × Int)) :=
  (loop (Y := (List (Int × Int × Int × Int)) ⊕ (List (Int × Int × Int × Int))) (fun (x1 : (List (Int × Int × Int × Int)) × Int) =>
    bif decide (x1.2 < (l.length : Int)) then
      if 0 ≤ x1.2 ∧ x1.2 < (l.length : Int) then
        (vmfleetlaw39_demand.f (nth (0 : Int) l x1.2)).bind fun r1 =>
        if (x1.1.length + ([r1] : List (Int × Int × Int × Int)).length) * 32 ≤ 70368744177664 then
          some (.inl ((x1.1 ++ ([r1] : List (Int × Int × Int × Int))), IntKind.wrap .i64 (x1.2 + 1)))
        else none
      else none
    else
      some (.inr (.inl x1.1))) ([], (0 : Int))).bind fun o => match o with
  | .inl y2 =>
    some y2
  | .inr r => some r
noncomputable def vmfleetlaw39_demands.sp : FSpec := ⟨[(.sl (.int .i64))], [(.own (.st (.pair (.int .i64) (.pair (.int .i64) (.pair (.int .i64) (.int .i64))))))], fun x => vmfleetlaw39_demands.f x⟩
noncomputable def vmfleetlaw39_demands.env : Env := ⟨TYS, [(41, vmfleetlaw39_demand.sp)], [], [(3, ⟨[0, 2], [⟨3, false, (.own (.st (.pair (.int .i64) (.pair (.int .i64) (.pair (.int .i64) (.int .i64))))))⟩, ⟨4, false, (.int .i64)⟩], [⟨3, false, (.own (.st (.pair (.int .i64) (.pair (.int .i64) (.pair (.int .i64) (.int .i64))))))⟩], 0⟩)], [], []⟩
theorem vmfleetlaw39_demands.eq (x) : fnEval vmfleetlaw39_demands.env vmfleetlaw39_demands.sp.args vmfleetlaw39_demands.sp.res Go.Proofs.Try.f39 x = vmfleetlaw39_demands.sp.f x := by kernel_rfl
theorem vmfleetlaw39_demands.sound : Sound Try.prog 39 vmfleetlaw39_demands.sp := Lift.sound (E := vmfleetlaw39_demands.env) Try.func39 (by kernel_rfl) (env_ok TYS.ok mixed ⟨vmfleetlaw39_demand.sound, trivial⟩ trivial) (by kernel_rfl) vmfleetlaw39_demands.eq

/-! vmfleet/vmfleetlaw39.AdmitFits -/
noncomputable def vmfleetlaw39_AdmitFits.f (a : List Int) (a' : Int) (a'' : Int) (a''' : Bool) (a'''' : Int) : Option Bool :=
  bif decide ((a.length : Int) < 1) then
    (vmfleetlaw39_awake.f).bind fun r1 =>
    some r1
  else
    bif decide ((a.length : Int) > 16) then
      (vmfleetlaw39_awake.f).bind fun r2 =>
      some r2
    else
      (vmfleetmake_Round.f a' (80 : Int)).bind fun r3 =>
      (vmfleetmake_Round.f a'' (80 : Int)).bind fun r4 =>
      (vmfleetlaw39_demands.f a).bind fun r5 =>
      (loop (Y := (Int × Int × Bool) ⊕ (Bool)) (fun (x1 : Int × Int × Bool × Int) =>
        bif decide (x1.2.2.2 < (r5.length : Int)) then
          if 0 ≤ x1.2.2.2 ∧ x1.2.2.2 < (r5.length : Int) then
            if 0 ≤ x1.2.2.2 ∧ x1.2.2.2 < (r5.length : Int) then
              (loop (Y := (Bool) ⊕ ((Int × Int × Bool × Int) ⊕ ((Int × Int × Bool) ⊕ (Bool)))) (fun (x2 : Bool × Int) =>
                bif decide (x2.2 < x1.2.2.2) then
                  bif x2.1 then
                    if 0 ≤ x1.2.2.2 ∧ x1.2.2.2 < (r5.length : Int) then
                      bif decide (((((nth ((0 : Int), (0 : Int), (0 : Int), (0 : Int)) r5 x1.2.2.2).2).2).2) = 0) then
                        some (.inl (true, IntKind.wrap .i64 (x2.2 + 1)))
                      else
                        if 0 ≤ x1.2.2.2 ∧ x1.2.2.2 < (r5.length : Int) then
                          if 0 ≤ x2.2 ∧ x2.2 < (r5.length : Int) then
                            some (.inl ((!decide (((((nth ((0 : Int), (0 : Int), (0 : Int), (0 : Int)) r5 x1.2.2.2).2).2).2) = ((((nth ((0 : Int), (0 : Int), (0 : Int), (0 : Int)) r5 x2.2).2).2).2))), IntKind.wrap .i64 (x2.2 + 1)))
                          else none
                        else none
                    else none
                  else
                    some (.inl (false, IntKind.wrap .i64 (x2.2 + 1)))
                else
                  some (.inr (.inl x2.1))) (x1.2.2.1, (0 : Int))).bind fun o => match o with
              | .inl y3 =>
                some (.inl ((IntKind.wrap .i64 (x1.1 + ((nth ((0 : Int), (0 : Int), (0 : Int), (0 : Int)) r5 x1.2.2.2).1))), (IntKind.wrap .i64 (x1.2.1 + ((((nth ((0 : Int), (0 : Int), (0 : Int), (0 : Int)) r5 x1.2.2.2).2).2).1))), y3, IntKind.wrap .i64 (x1.2.2.2 + 1)))
              | .inr r => some r
            else none
          else none
        else
          some (.inr (.inl (x1.1, x1.2.1, x1.2.2.1)))) ((0 : Int), (0 : Int), true, (0 : Int))).bind fun o => match o with
      | .inl y4 =>
        (vmfleetmake_Round.f a'''' (r5.length : Int)).bind fun r6 =>
        if 0 ≤ r6 ∧ r6 ≤ (r5.length : Int) then
          if (([] : List (Int × Int × Int × Int)).length + (slc r5 r6 (r5.length : Int)).length) * 32 ≤ 70368744177664 then
            let v4 := ([] : List (Int × Int × Int × Int)) ++ (slc r5 r6 (r5.length : Int))
            if 0 ≤ r6 ∧ r6 ≤ (r5.length : Int) then
              if (v4.length + (slc r5 (0 : Int) r6).length) * 32 ≤ 70368744177664 then
                (bif a''' then
                  bif decide (y4.1 ≤ r3) then
                    bif decide (y4.2.1 ≤ r4) then
                      some (.inl y4.2.2)
                    else
                      some (.inl false)
                  else
                    some (.inl false)
                else
                  some (.inl false) : Option ((Bool) ⊕ (Bool))).bind fun o => match o with
                | .inl y5 =>
                  (admission_Fits.f (r3, r4, a''') r5).bind fun r7 =>
                  bif r7 == y5 then
                    (admission_Fits.f (r3, r4, a''') (v4 ++ (slc r5 (0 : Int) r6))).bind fun r8 =>
                    bif r8 == y5 then
                      (vmfleetlaw39_awake.f).bind fun r9 =>
                      some r9
                    else
                      some false
                  else
                    some false
                | .inr r => some r
              else none
            else none
          else none
        else none
      | .inr r => some r
noncomputable def vmfleetlaw39_AdmitFits.sp : FSpec := ⟨[(.sl (.int .i64)), (.int .i64), (.int .i64), .bool, (.int .i64)], [.bool], fun x => vmfleetlaw39_AdmitFits.f x.1 x.2.1 x.2.2.1 x.2.2.2.1 x.2.2.2.2⟩
noncomputable def vmfleetlaw39_AdmitFits.env : Env := ⟨TYS, [(19, vmfleetmake_Round.sp), (38, vmfleetlaw39_awake.sp), (39, vmfleetlaw39_demands.sp), (40, admission_Fits.sp)], [], [(13, ⟨[3, 4, 10, 11, 12, 13, 14, 16], [⟨15, false, .bool⟩, ⟨17, false, (.int .i64)⟩], [⟨15, false, .bool⟩], 2⟩), (8, ⟨[3, 4, 10, 11, 12], [⟨13, false, (.int .i64)⟩, ⟨14, false, (.int .i64)⟩, ⟨15, false, .bool⟩, ⟨16, false, (.int .i64)⟩], [⟨13, false, (.int .i64)⟩, ⟨14, false, (.int .i64)⟩, ⟨15, false, .bool⟩], 0⟩)], [(19, ⟨[10, 11, 12, 19], [], [⟨20, false, .bool⟩], 0⟩)], []⟩
theorem vmfleetlaw39_AdmitFits.eq (x) : fnEval vmfleetlaw39_AdmitFits.env vmfleetlaw39_AdmitFits.sp.args vmfleetlaw39_AdmitFits.sp.res Go.Proofs.Try.f9 x = vmfleetlaw39_AdmitFits.sp.f x := by kernel_rfl
theorem vmfleetlaw39_AdmitFits.sound : Sound Try.prog 9 vmfleetlaw39_AdmitFits.sp := Lift.sound (E := vmfleetlaw39_AdmitFits.env) Try.func9 (by kernel_rfl) (env_ok TYS.ok mixed ⟨vmfleetmake_Round.sound, vmfleetlaw39_awake.sound, vmfleetlaw39_demands.sound, admission_Fits.sound, trivial⟩ trivial) (by kernel_rfl) vmfleetlaw39_AdmitFits.eq

/-! vmfleet/vmfleetlaw39.AdmitAdds -/
noncomputable def vmfleetlaw39_AdmitAdds.f (l : List Int) (n : Int) (memory : Int) (cpu : Int) : Option Bool :=
  bif decide ((l.length : Int) > 12) then
    (vmfleetlaw39_awake.f).bind fun r1 =>
    some r1
  else
    (vmfleetmake_Round.f memory (60 : Int)).bind fun r2 =>
    (vmfleetmake_Round.f cpu (60 : Int)).bind fun r3 =>
    (vmfleetlaw39_demands.f l).bind fun r4 =>
    (admission_Fits.f (r2, r3, true) r4).bind fun r5 =>
    bif !r5 then
      (vmfleetlaw39_awake.f).bind fun r6 =>
      some r6
    else
      (vmfleetlaw39_demand.f n).bind fun r7 =>
      (admission_Admit.f (r2, r3, true) r4 r7).bind fun r8 =>
      if (r4.length + ([r7] : List (Int × Int × Int × Int)).length) * 32 ≤ 70368744177664 then
        (admission_Fits.f (r2, r3, true) (r4 ++ ([r7] : List (Int × Int × Int × Int)))).bind fun r9 =>
        bif (decide (r8 = 0)) == r9 then
          (vmfleetlaw39_awake.f).bind fun r10 =>
          some r10
        else
          some false
      else none
noncomputable def vmfleetlaw39_AdmitAdds.sp : FSpec := ⟨[(.sl (.int .i64)), (.int .i64), (.int .i64), (.int .i64)], [.bool], fun x => vmfleetlaw39_AdmitAdds.f x.1 x.2.1 x.2.2.1 x.2.2.2⟩
noncomputable def vmfleetlaw39_AdmitAdds.env : Env := ⟨TYS, [(19, vmfleetmake_Round.sp), (38, vmfleetlaw39_awake.sp), (39, vmfleetlaw39_demands.sp), (40, admission_Fits.sp), (41, vmfleetlaw39_demand.sp), (42, admission_Admit.sp)], [], [], [], []⟩
theorem vmfleetlaw39_AdmitAdds.eq (x) : fnEval vmfleetlaw39_AdmitAdds.env vmfleetlaw39_AdmitAdds.sp.args vmfleetlaw39_AdmitAdds.sp.res Go.Proofs.Try.f10 x = vmfleetlaw39_AdmitAdds.sp.f x := by kernel_rfl
theorem vmfleetlaw39_AdmitAdds.sound : Sound Try.prog 10 vmfleetlaw39_AdmitAdds.sp := Lift.sound (E := vmfleetlaw39_AdmitAdds.env) Try.func10 (by kernel_rfl) (env_ok TYS.ok mixed ⟨vmfleetmake_Round.sound, vmfleetlaw39_awake.sound, vmfleetlaw39_demands.sound, admission_Fits.sound, vmfleetlaw39_demand.sound, admission_Admit.sound, trivial⟩ trivial) (by kernel_rfl) vmfleetlaw39_AdmitAdds.eq

/-! vmfleet/vmfleetlaw26.light -/
noncomputable def vmfleetlaw26_light.f (blocks : List ByteArray) : Option Bool :=
  (loop (Y := (Unit) ⊕ (Bool)) (fun (x1 : Int) =>
    bif decide (x1 < (blocks.length : Int)) then
      bif decide (x1 < 200) then
        if 0 ≤ x1 ∧ x1 < (blocks.length : Int) then
          bif decide (((nth (⟨#[]⟩ : ByteArray) blocks x1).size : Int) > 300) then
            some (.inr (.inr false))
          else
            some (.inl (IntKind.wrap .i64 (x1 + 1)))
        else none
      else
        some (.inr (.inl ()))
    else
      some (.inr (.inl ()))) (0 : Int)).bind fun o => match o with
  | .inl y2 =>
    some (decide ((blocks.length : Int) ≤ 100))
  | .inr r => some r
noncomputable def vmfleetlaw26_light.sp : FSpec := ⟨[(.sl .str)], [.bool], fun x => vmfleetlaw26_light.f x⟩
noncomputable def vmfleetlaw26_light.env : Env := ⟨TYS, [], [], [(2, ⟨[0], [⟨3, false, (.int .i64)⟩], [], 0⟩)], [], []⟩
theorem vmfleetlaw26_light.eq (x) : fnEval vmfleetlaw26_light.env vmfleetlaw26_light.sp.args vmfleetlaw26_light.sp.res Go.Proofs.Try.f43 x = vmfleetlaw26_light.sp.f x := by kernel_rfl
theorem vmfleetlaw26_light.sound : Sound Try.prog 43 vmfleetlaw26_light.sp := Lift.sound (E := vmfleetlaw26_light.env) Try.func43 (by kernel_rfl) (env_ok TYS.ok mixed trivial trivial) (by kernel_rfl) vmfleetlaw26_light.eq

/-! vmfleet/vmfleetmake.Data -/
noncomputable def vmfleetmake_Data.f (n : Int) (k : Int) : Option ByteArray :=
  (loop (Y := (List Int) ⊕ (ByteArray)) (fun (x1 : List Int × Int) =>
    bif decide (x1.2 < k) then
      (vmfleetmake_Mix.f n (IntKind.wrap .i64 (Int.tdiv x1.2 (9 : Int)))).bind fun r1 =>
      if (x1.1.length + ([IntKind.wrap .u8 r1] : List Int).length) * 1 ≤ 70368744177664 then
        some (.inl ((x1.1 ++ ([IntKind.wrap .u8 r1] : List Int)), IntKind.wrap .i64 (x1.2 + 1)))
      else none
    else
      some (.inr (.inl x1.1))) ([], (0 : Int))).bind fun o => match o with
  | .inl y2 =>
    some (strOf y2)
  | .inr r => some r
noncomputable def vmfleetmake_Data.sp : FSpec := ⟨[(.int .i64), (.int .i64)], [.str], fun x => vmfleetmake_Data.f x.1 x.2⟩
noncomputable def vmfleetmake_Data.env : Env := ⟨TYS, [(57, vmfleetmake_Mix.sp)], [], [(3, ⟨[0, 1, 4], [⟨5, false, (.own (.int .u8))⟩, ⟨6, false, (.int .i64)⟩], [⟨5, false, (.own (.int .u8))⟩], 0⟩)], [], []⟩
theorem vmfleetmake_Data.eq (x) : fnEval vmfleetmake_Data.env vmfleetmake_Data.sp.args vmfleetmake_Data.sp.res Go.Proofs.Try.f55 x = vmfleetmake_Data.sp.f x := by kernel_rfl
theorem vmfleetmake_Data.sound : Sound Try.prog 55 vmfleetmake_Data.sp := Lift.sound (E := vmfleetmake_Data.env) Try.func55 (by kernel_rfl) (env_ok TYS.ok mixed ⟨vmfleetmake_Mix.sound, trivial⟩ trivial) (by kernel_rfl) vmfleetmake_Data.eq

/-! vmfleet/vmfleetplan.Blocks -/
noncomputable def vmfleetplan_Blocks.f (n : Int) : Option (List ByteArray) :=
  (loop (Y := (List ByteArray) ⊕ (List ByteArray)) (fun (x1 : List ByteArray × Int) =>
    bif decide (x1.2 < 4) then
      (vmfleetmake_Data.f (IntKind.wrap .i64 (n + x1.2)) (128 : Int)).bind fun r1 =>
      if (x1.1.length + ([r1] : List ByteArray).length) * 16 ≤ 70368744177664 then
        some (.inl (x1.1 ++ ([r1] : List ByteArray), IntKind.wrap .i64 (x1.2 + 1)))
      else none
    else
      some (.inr (.inl x1.1))) ([], (0 : Int))).bind fun o => match o with
  | .inl y2 =>
    some y2
  | .inr r => some r
noncomputable def vmfleetplan_Blocks.sp : FSpec := ⟨[(.int .i64)], [(.own .str)], fun x => vmfleetplan_Blocks.f x⟩
noncomputable def vmfleetplan_Blocks.env : Env := ⟨TYS, [(55, vmfleetmake_Data.sp)], [], [(3, ⟨[0, 2], [⟨3, false, (.own .str)⟩, ⟨4, false, (.int .i64)⟩], [⟨3, false, (.own .str)⟩], 0⟩)], [], []⟩
theorem vmfleetplan_Blocks.eq (x) : fnEval vmfleetplan_Blocks.env vmfleetplan_Blocks.sp.args vmfleetplan_Blocks.sp.res Go.Proofs.Try.f54 x = vmfleetplan_Blocks.sp.f x := by kernel_rfl
theorem vmfleetplan_Blocks.sound : Sound Try.prog 54 vmfleetplan_Blocks.sp := Lift.sound (E := vmfleetplan_Blocks.env) Try.func54 (by kernel_rfl) (env_ok TYS.ok mixed ⟨vmfleetmake_Data.sound, trivial⟩ trivial) (by kernel_rfl) vmfleetplan_Blocks.eq

/-! slices.Clone[[]string,string] -/
noncomputable def slices_Clone_string_string.f (s : List ByteArray) : Option (List ByteArray) :=
  bif s.isEmpty then
    both
      (some [])
      (if (([] : List ByteArray).length + s.length) * 16 ≤ 70368744177664 then
        some (([] : List ByteArray) ++ s)
      else none)
  else
    if (([] : List ByteArray).length + s.length) * 16 ≤ 70368744177664 then
      some (([] : List ByteArray) ++ s)
    else none
noncomputable def slices_Clone_string_string.sp : FSpec := ⟨[(.sl .str)], [(.own .str)], fun x => slices_Clone_string_string.f x⟩
noncomputable def slices_Clone_string_string.env : Env := ⟨TYS, [], [], [], [], []⟩
theorem slices_Clone_string_string.eq (x) : fnEval slices_Clone_string_string.env slices_Clone_string_string.sp.args slices_Clone_string_string.sp.res Go.Proofs.Try.f61 x = slices_Clone_string_string.sp.f x := by kernel_rfl
theorem slices_Clone_string_string.sound : Sound Try.prog 61 slices_Clone_string_string.sp := Lift.sound (E := slices_Clone_string_string.env) Try.func61 (by kernel_rfl) (env_ok TYS.ok mixed trivial trivial) (by kernel_rfl) slices_Clone_string_string.eq

/-! vmfleet/arbiter.Valid -/
noncomputable def arbiter_Valid.f (s : List ByteArray × Int × Int) : Option Bool :=
  bif decide ((s.1.length : Int) < 1) then
    some false
  else
    bif decide ((s.1.length : Int) > 64) then
      some false
    else
      bif decide (s.2.1 > 4611686018427387904) then
        some false
      else
        (loop (Y := (Unit) ⊕ (Bool)) (fun (x1 : Int) =>
          bif decide (x1 < (s.1.length : Int)) then
            if 0 ≤ x1 ∧ x1 < (s.1.length : Int) then
              bif !decide (((nth (⟨#[]⟩ : ByteArray) s.1 x1).size : Int) = 128) then
                some (.inr (.inr false))
              else
                some (.inl (IntKind.wrap .i64 (x1 + 1)))
            else none
          else
            some (.inr (.inl ()))) (0 : Int)).bind fun o => match o with
        | .inl y2 =>
          bif decide (s.2.1 = 0) then
            some (decide (s.2.2 = (-1)))
          else
            some (decide (s.2.2 ≥ 0))
        | .inr r => some r
noncomputable def arbiter_Valid.sp : FSpec := ⟨[(.st (.pair (.sl .str) (.pair (.int .u64) (.int .i64))))], [.bool], fun x => arbiter_Valid.f x⟩
noncomputable def arbiter_Valid.env : Env := ⟨TYS, [], [], [(4, ⟨[1, 21, 22], [⟨23, false, (.int .i64)⟩], [], 0⟩)], [], []⟩
theorem arbiter_Valid.eq (x) : fnEval arbiter_Valid.env arbiter_Valid.sp.args arbiter_Valid.sp.res Go.Proofs.Try.f51 x = arbiter_Valid.sp.f x := by kernel_rfl
theorem arbiter_Valid.sound : Sound Try.prog 51 arbiter_Valid.sp := Lift.sound (E := arbiter_Valid.env) Try.func51 (by kernel_rfl) (env_ok TYS.ok mixed trivial trivial) (by kernel_rfl) arbiter_Valid.eq

/-! vmfleet/arbiter.New -/
noncomputable def arbiter_New.f (blocks : List ByteArray) : Option ((List ByteArray × Int × Int) × Bool) :=
  (slices_Clone_string_string.f blocks).bind fun r1 =>
  (arbiter_Valid.f (r1, (0 : Int), (-1 : Int))).bind fun r2 =>
  bif !r2 then
    some (([], (0 : Int), (0 : Int)), false)
  else
    some ((r1, (0 : Int), (-1 : Int)), true)
noncomputable def arbiter_New.sp : FSpec := ⟨[(.sl .str)], [(.st (.pair (.own .str) (.pair (.int .u64) (.int .i64)))), .bool], fun x => arbiter_New.f x⟩
noncomputable def arbiter_New.env : Env := ⟨TYS, [(51, arbiter_Valid.sp), (61, slices_Clone_string_string.sp)], [], [], [], []⟩
theorem arbiter_New.eq (x) : fnEval arbiter_New.env arbiter_New.sp.args arbiter_New.sp.res Go.Proofs.Try.f49 x = arbiter_New.sp.f x := by kernel_rfl
theorem arbiter_New.sound : Sound Try.prog 49 arbiter_New.sp := Lift.sound (E := arbiter_New.env) Try.func49 (by kernel_rfl) (env_ok TYS.ok mixed ⟨arbiter_Valid.sound, slices_Clone_string_string.sound, trivial⟩ trivial) (by kernel_rfl) arbiter_New.eq

/-! vmfleet/copies.Store -/
noncomputable def copies_Store.f (s : List ByteArray × Int × Int) : Option (List ByteArray × Int × Int) :=
  (slices_Clone_string_string.f s.1).bind fun r1 =>
  some (r1, s.2)
noncomputable def copies_Store.sp : FSpec := ⟨[(.st (.pair (.sl .str) (.pair (.int .u64) (.int .i64))))], [(.st (.pair (.own .str) (.pair (.int .u64) (.int .i64))))], fun x => copies_Store.f x⟩
noncomputable def copies_Store.env : Env := ⟨TYS, [(61, slices_Clone_string_string.sp)], [], [], [], []⟩
theorem copies_Store.eq (x) : fnEval copies_Store.env copies_Store.sp.args copies_Store.sp.res Go.Proofs.Try.f60 x = copies_Store.sp.f x := by kernel_rfl
theorem copies_Store.sound : Sound Try.prog 60 copies_Store.sp := Lift.sound (E := copies_Store.env) Try.func60 (by kernel_rfl) (env_ok TYS.ok mixed ⟨slices_Clone_string_string.sound, trivial⟩ trivial) (by kernel_rfl) copies_Store.eq

/-! vmfleet/arbiter.Claim -/
noncomputable def arbiter_Claim.f (s : List ByteArray × Int × Int) (host : Int) (seen : Int) : Option ((List ByteArray × Int × Int) × Bool) :=
  (copies_Store.f s).bind fun r1 =>
  (arbiter_Valid.f r1).bind fun r2 =>
  bif !r2 then
    some (r1, false)
  else
    bif decide (host < 0) then
      some (r1, false)
    else
      bif !decide (r1.2.1 = seen) then
        some (r1, false)
      else
        bif decide (seen ≥ 4611686018427387904) then
          some (r1, false)
        else
          some ((r1.1, IntKind.wrap .u64 (r1.2.1 + 1), host), true)
noncomputable def arbiter_Claim.sp : FSpec := ⟨[(.st (.pair (.sl .str) (.pair (.int .u64) (.int .i64)))), (.int .i64), (.int .u64)], [(.st (.pair (.own .str) (.pair (.int .u64) (.int .i64)))), .bool], fun x => arbiter_Claim.f x.1 x.2.1 x.2.2⟩
noncomputable def arbiter_Claim.env : Env := ⟨TYS, [(51, arbiter_Valid.sp), (60, copies_Store.sp)], [], [], [], []⟩
theorem arbiter_Claim.eq (x) : fnEval arbiter_Claim.env arbiter_Claim.sp.args arbiter_Claim.sp.res Go.Proofs.Try.f45 x = arbiter_Claim.sp.f x := by kernel_rfl
theorem arbiter_Claim.sound : Sound Try.prog 45 arbiter_Claim.sp := Lift.sound (E := arbiter_Claim.env) Try.func45 (by kernel_rfl) (env_ok TYS.ok mixed ⟨arbiter_Valid.sound, copies_Store.sound, trivial⟩ trivial) (by kernel_rfl) arbiter_Claim.eq

/-! vmfleet/arbiter.Execute -/
noncomputable def arbiter_Execute.f (a : List ByteArray × Int × Int) (a' : Int) (a'' : Int × Int × Int × ByteArray) : Option ((List ByteArray × Int × Int) × (Int × Int × ByteArray) × Bool) :=
  (copies_Store.f a).bind fun r1 =>
  ((arbiter_Valid.f r1).bind fun r2 =>
  bif !r2 then
    some (.inr (r1, ((0 : Int), (0 : Int), (⟨#[]⟩ : ByteArray)), false))
  else
    bif decide (a' = 0) then
      some (.inr (r1, ((0 : Int), (0 : Int), (⟨#[]⟩ : ByteArray)), false))
    else
      bif !decide (a' = r1.2.1) then
        some (.inr (r1, ((0 : Int), (0 : Int), (⟨#[]⟩ : ByteArray)), false))
      else
        bif !decide (a''.1 = 3) then
          bif !decide (a''.1 = 4) then
            some (.inr (r1, ((0 : Int), (0 : Int), (⟨#[]⟩ : ByteArray)), false))
          else
            some (.inl (([], (0 : Int), (0 : Int)), (0 : Int), (0 : Int), (⟨#[]⟩ : ByteArray)))
        else
          some (.inl (([], (0 : Int), (0 : Int)), (0 : Int), (0 : Int), (⟨#[]⟩ : ByteArray))) : Option (((List ByteArray × Int × Int) × Int × Int × ByteArray) ⊕ ((List ByteArray × Int × Int) × (Int × Int × ByteArray) × Bool))).bind fun o => match o with
  | .inl y1 =>
    (bif decide ((IntKind.wrap .u64 a''.2.2.1) ≥ (IntKind.wrap .u64 (r1.1.length : Int))) then
      some (.inr (r1, ((4 : Int), (0 : Int), (⟨#[]⟩ : ByteArray)), true))
    else
      bif decide (a''.1 = 4) then
        bif !decide ((a''.2.2.2.size : Int) = 128) then
          some (.inr (r1, ((4 : Int), (0 : Int), (⟨#[]⟩ : ByteArray)), true))
        else
          some (.inl y1)
      else
        some (.inl y1) : Option (((List ByteArray × Int × Int) × Int × Int × ByteArray) ⊕ ((List ByteArray × Int × Int) × (Int × Int × ByteArray) × Bool))).bind fun o => match o with
    | .inl y2 =>
      bif decide (a''.1 = 3) then
        if 0 ≤ a''.2.2.1 ∧ a''.2.2.1 < (r1.1.length : Int) then
          some (r1, ((4 : Int), (1 : Int), nth (⟨#[]⟩ : ByteArray) r1.1 a''.2.2.1), true)
        else none
      else
        if 0 ≤ a''.2.2.1 ∧ a''.2.2.1 < (r1.1.length : Int) then
          some ((put r1.1 a''.2.2.1 a''.2.2.2, r1.2), ((4 : Int), (1 : Int), (⟨#[]⟩ : ByteArray)), true)
        else none
    | .inr r => some r
  | .inr r => some r
noncomputable def arbiter_Execute.sp : FSpec := ⟨[(.st (.pair (.sl .str) (.pair (.int .u64) (.int .i64)))), (.int .u64), (.st (.pair (.int .i64) (.pair (.int .u64) (.pair (.int .u32) .str))))], [(.st (.pair (.own .str) (.pair (.int .u64) (.int .i64)))), (.st (.pair (.int .i64) (.pair (.int .u32) .str))), .bool], fun x => arbiter_Execute.f x.1 x.2.1 x.2.2⟩
noncomputable def arbiter_Execute.env : Env := ⟨TYS, [(51, arbiter_Valid.sp), (60, copies_Store.sp)], [], [], [(4, ⟨[3, 5], [⟨6, true, (.st (.pair (.own .str) (.pair (.int .u64) (.int .i64))))⟩, ⟨7, true, (.st (.pair (.int .i64) (.pair (.int .u32) .str)))⟩], [⟨6, true, (.st (.pair (.own .str) (.pair (.int .u64) (.int .i64))))⟩, ⟨7, true, (.st (.pair (.int .i64) (.pair (.int .u32) .str)))⟩], 0⟩), (6, ⟨[3, 5], [⟨6, true, (.st (.pair (.own .str) (.pair (.int .u64) (.int .i64))))⟩, ⟨7, true, (.st (.pair (.int .i64) (.pair (.int .u32) .str)))⟩], [⟨6, true, (.st (.pair (.own .str) (.pair (.int .u64) (.int .i64))))⟩, ⟨7, true, (.st (.pair (.int .i64) (.pair (.int .u32) .str)))⟩], 0⟩)], []⟩
theorem arbiter_Execute.eq (x) : fnEval arbiter_Execute.env arbiter_Execute.sp.args arbiter_Execute.sp.res Go.Proofs.Try.f47 x = arbiter_Execute.sp.f x := by kernel_rfl
theorem arbiter_Execute.sound : Sound Try.prog 47 arbiter_Execute.sp := Lift.sound (E := arbiter_Execute.env) Try.func47 (by kernel_rfl) (env_ok TYS.ok mixed ⟨arbiter_Valid.sound, copies_Store.sound, trivial⟩ trivial) (by kernel_rfl) arbiter_Execute.eq

/-! vmfleet/vmfleetlaw26.awake -/
noncomputable def vmfleetlaw26_awake.f  : Option Bool :=
  (vmfleetplan_Blocks.f (1 : Int)).bind fun r1 =>
  (arbiter_New.f r1).bind fun r2 =>
  bif !r2.2 then
    some false
  else
    bif !decide ((r2.1.1.length : Int) = 4) then
      some false
    else
      (arbiter_Claim.f r2.1 (0 : Int) (0 : Int)).bind fun r3 =>
      (arbiter_Claim.f r3.1 (1 : Int) (0 : Int)).bind fun r4 =>
      (arbiter_Execute.f r3.1 (1 : Int) ((3 : Int), (0 : Int), (2 : Int), (⟨#[]⟩ : ByteArray))).bind fun r5 =>
      (arbiter_Execute.f r3.1 (0 : Int) ((3 : Int), (0 : Int), (2 : Int), (⟨#[]⟩ : ByteArray))).bind fun r6 =>
      bif decide (r2.1.2.2 = (-1)) then
        bif r3.2 then
          bif !r4.2 then
            bif decide (r3.1.2.1 = 1) then
              bif decide (r3.1.2.2 = 0) then
                bif r5.2.2 then
                  bif !r6.2.2 then
                    bif decide (r5.2.1.2.1 = 1) then
                      if 0 ≤ (2 : Int) ∧ (2 : Int) < (r2.1.1.length : Int) then
                        some (decide (r5.2.1.2.2 = (nth (⟨#[]⟩ : ByteArray) r2.1.1 (2 : Int))))
                      else none
                    else
                      some false
                  else
                    some false
                else
                  some false
              else
                some false
            else
              some false
          else
            some false
        else
          some false
      else
        some false
noncomputable def vmfleetlaw26_awake.sp : FSpec := ⟨[], [.bool], fun _ => vmfleetlaw26_awake.f⟩
noncomputable def vmfleetlaw26_awake.env : Env := ⟨TYS, [(45, arbiter_Claim.sp), (47, arbiter_Execute.sp), (49, arbiter_New.sp), (54, vmfleetplan_Blocks.sp)], [], [], [], []⟩
theorem vmfleetlaw26_awake.eq (x) : fnEval vmfleetlaw26_awake.env vmfleetlaw26_awake.sp.args vmfleetlaw26_awake.sp.res Go.Proofs.Try.f44 x = vmfleetlaw26_awake.sp.f x := by kernel_rfl
theorem vmfleetlaw26_awake.sound : Sound Try.prog 44 vmfleetlaw26_awake.sp := Lift.sound (E := vmfleetlaw26_awake.env) Try.func44 (by kernel_rfl) (env_ok TYS.ok mixed ⟨arbiter_Claim.sound, arbiter_Execute.sound, arbiter_New.sound, vmfleetplan_Blocks.sound, trivial⟩ trivial) (by kernel_rfl) vmfleetlaw26_awake.eq

/-! vmfleet/vmfleetref24.ValidStore -/
noncomputable def vmfleetref24_ValidStore.f (s : List ByteArray × Int × Int) : Option Bool :=
  (bif decide ((s.1.length : Int) < 1) then
    some (.inr false)
  else
    bif decide ((s.1.length : Int) > 64) then
      some (.inr false)
    else
      bif decide (s.2.1 > 4611686018427387904) then
        some (.inr false)
      else
        bif decide (s.2.1 = 0) then
          bif !decide (s.2.2 = (-1)) then
            some (.inr false)
          else
            bif decide (s.2.1 > 0) then
              bif decide (s.2.2 < 0) then
                some (.inr false)
              else
                some (.inl ())
            else
              some (.inl ())
        else
          bif decide (s.2.1 > 0) then
            bif decide (s.2.2 < 0) then
              some (.inr false)
            else
              some (.inl ())
          else
            some (.inl ()) : Option ((Unit) ⊕ (Bool))).bind fun o => match o with
  | .inl y1 =>
    (loop (Y := (Unit) ⊕ (Bool)) (fun (x2 : Int) =>
      bif decide (x2 < (s.1.length : Int)) then
        if 0 ≤ x2 ∧ x2 < (s.1.length : Int) then
          bif !decide (((nth (⟨#[]⟩ : ByteArray) s.1 x2).size : Int) = 128) then
            some (.inr (.inr false))
          else
            some (.inl (IntKind.wrap .i64 (x2 + 1)))
        else none
      else
        some (.inr (.inl ()))) (0 : Int)).bind fun o => match o with
    | .inl y3 =>
      some true
    | .inr r => some r
  | .inr r => some r
noncomputable def vmfleetref24_ValidStore.sp : FSpec := ⟨[(.st (.pair (.sl .str) (.pair (.int .u64) (.int .i64))))], [.bool], fun x => vmfleetref24_ValidStore.f x⟩
noncomputable def vmfleetref24_ValidStore.env : Env := ⟨TYS, [], [], [(4, ⟨[1], [⟨3, false, (.int .i64)⟩], [], 0⟩)], [(3, ⟨[1], [], [], 0⟩)], []⟩
theorem vmfleetref24_ValidStore.eq (x) : fnEval vmfleetref24_ValidStore.env vmfleetref24_ValidStore.sp.args vmfleetref24_ValidStore.sp.res Go.Proofs.Try.f52 x = vmfleetref24_ValidStore.sp.f x := by kernel_rfl
theorem vmfleetref24_ValidStore.sound : Sound Try.prog 52 vmfleetref24_ValidStore.sp := Lift.sound (E := vmfleetref24_ValidStore.env) Try.func52 (by kernel_rfl) (env_ok TYS.ok mixed trivial trivial) (by kernel_rfl) vmfleetref24_ValidStore.eq

/-! vmfleet/vmfleetref24.Claim -/
noncomputable def vmfleetref24_Claim.f (s : List ByteArray × Int × Int) (host : Int) (seen : Int) : Option ((List ByteArray × Int × Int) × Bool) :=
  (vmfleetref24_ValidStore.f s).bind fun r1 =>
  bif !r1 then
    some (s, false)
  else
    bif decide (host < 0) then
      some (s, false)
    else
      bif !decide (s.2.1 = seen) then
        some (s, false)
      else
        bif decide (seen ≥ 4611686018427387904) then
          some (s, false)
        else
          some ((s.1, IntKind.wrap .u64 (s.2.1 + 1), host), true)
noncomputable def vmfleetref24_Claim.sp : FSpec := ⟨[(.st (.pair (.sl .str) (.pair (.int .u64) (.int .i64)))), (.int .i64), (.int .u64)], [(.st (.pair (.sl .str) (.pair (.int .u64) (.int .i64)))), .bool], fun x => vmfleetref24_Claim.f x.1 x.2.1 x.2.2⟩
noncomputable def vmfleetref24_Claim.env : Env := ⟨TYS, [(52, vmfleetref24_ValidStore.sp)], [], [], [], []⟩
theorem vmfleetref24_Claim.eq (x) : fnEval vmfleetref24_Claim.env vmfleetref24_Claim.sp.args vmfleetref24_Claim.sp.res Go.Proofs.Try.f46 x = vmfleetref24_Claim.sp.f x := by kernel_rfl
theorem vmfleetref24_Claim.sound : Sound Try.prog 46 vmfleetref24_Claim.sp := Lift.sound (E := vmfleetref24_Claim.env) Try.func46 (by kernel_rfl) (env_ok TYS.ok mixed ⟨vmfleetref24_ValidStore.sound, trivial⟩ trivial) (by kernel_rfl) vmfleetref24_Claim.eq

/-! vmfleet/vmfleetref24.Execute -/
noncomputable def vmfleetref24_Execute.f (a : List ByteArray × Int × Int) (a' : Int) (a'' : Int × Int × Int × ByteArray) : Option ((List ByteArray × Int × Int) × (Int × Int × ByteArray) × Bool) :=
  ((vmfleetref24_ValidStore.f a).bind fun r1 =>
  bif !r1 then
    some (.inr (a, ((0 : Int), (0 : Int), (⟨#[]⟩ : ByteArray)), false))
  else
    bif decide (a' = 0) then
      some (.inr (a, ((0 : Int), (0 : Int), (⟨#[]⟩ : ByteArray)), false))
    else
      bif !decide (a' = a.2.1) then
        some (.inr (a, ((0 : Int), (0 : Int), (⟨#[]⟩ : ByteArray)), false))
      else
        bif !decide (a''.1 = 3) then
          bif !decide (a''.1 = 4) then
            some (.inr (a, ((0 : Int), (0 : Int), (⟨#[]⟩ : ByteArray)), false))
          else
            some (.inl (([], (0 : Int), (0 : Int)), (0 : Int), (0 : Int), (⟨#[]⟩ : ByteArray)))
        else
          some (.inl (([], (0 : Int), (0 : Int)), (0 : Int), (0 : Int), (⟨#[]⟩ : ByteArray))) : Option (((List ByteArray × Int × Int) × Int × Int × ByteArray) ⊕ ((List ByteArray × Int × Int) × (Int × Int × ByteArray) × Bool))).bind fun o => match o with
  | .inl y1 =>
    (bif decide (a''.2.2.1 ≥ (IntKind.wrap .u32 (a.1.length : Int))) then
      some (.inr (a, ((4 : Int), (0 : Int), (⟨#[]⟩ : ByteArray)), true))
    else
      bif decide (a''.1 = 4) then
        bif !decide ((a''.2.2.2.size : Int) = 128) then
          some (.inr (a, ((4 : Int), (0 : Int), (⟨#[]⟩ : ByteArray)), true))
        else
          some (.inl y1)
      else
        some (.inl y1) : Option (((List ByteArray × Int × Int) × Int × Int × ByteArray) ⊕ ((List ByteArray × Int × Int) × (Int × Int × ByteArray) × Bool))).bind fun o => match o with
    | .inl y2 =>
      bif decide (a''.1 = 3) then
        if 0 ≤ (IntKind.wrap .i64 a''.2.2.1) ∧ (IntKind.wrap .i64 a''.2.2.1) < (a.1.length : Int) then
          some (a, ((4 : Int), (1 : Int), nth (⟨#[]⟩ : ByteArray) a.1 (IntKind.wrap .i64 a''.2.2.1)), true)
        else none
      else
        if (([] : List ByteArray).length + a.1.length) * 16 ≤ 70368744177664 then
          if 0 ≤ (IntKind.wrap .i64 a''.2.2.1) ∧ (IntKind.wrap .i64 a''.2.2.1) < ((([] : List ByteArray) ++ a.1).length : Int) then
            some (((put (([] : List ByteArray) ++ a.1) (IntKind.wrap .i64 a''.2.2.1) a''.2.2.2), a.2), ((4 : Int), (1 : Int), (⟨#[]⟩ : ByteArray)), true)
          else none
        else none
    | .inr r => some r
  | .inr r => some r
noncomputable def vmfleetref24_Execute.sp : FSpec := ⟨[(.st (.pair (.sl .str) (.pair (.int .u64) (.int .i64)))), (.int .u64), (.st (.pair (.int .i64) (.pair (.int .u64) (.pair (.int .u32) .str))))], [(.st (.pair (.sl .str) (.pair (.int .u64) (.int .i64)))), (.st (.pair (.int .i64) (.pair (.int .u32) .str))), .bool], fun x => vmfleetref24_Execute.f x.1 x.2.1 x.2.2⟩
noncomputable def vmfleetref24_Execute.env : Env := ⟨TYS, [(52, vmfleetref24_ValidStore.sp)], [], [], [(3, ⟨[3, 5], [⟨6, true, (.st (.pair (.own .str) (.pair (.int .u64) (.int .i64))))⟩, ⟨7, true, (.st (.pair (.int .i64) (.pair (.int .u32) .str)))⟩], [⟨6, true, (.st (.pair (.own .str) (.pair (.int .u64) (.int .i64))))⟩, ⟨7, true, (.st (.pair (.int .i64) (.pair (.int .u32) .str)))⟩], 0⟩), (5, ⟨[3, 5], [⟨6, true, (.st (.pair (.own .str) (.pair (.int .u64) (.int .i64))))⟩, ⟨7, true, (.st (.pair (.int .i64) (.pair (.int .u32) .str)))⟩], [⟨6, true, (.st (.pair (.own .str) (.pair (.int .u64) (.int .i64))))⟩, ⟨7, true, (.st (.pair (.int .i64) (.pair (.int .u32) .str)))⟩], 0⟩)], []⟩
theorem vmfleetref24_Execute.eq (x) : fnEval vmfleetref24_Execute.env vmfleetref24_Execute.sp.args vmfleetref24_Execute.sp.res Go.Proofs.Try.f48 x = vmfleetref24_Execute.sp.f x := by kernel_rfl
theorem vmfleetref24_Execute.sound : Sound Try.prog 48 vmfleetref24_Execute.sp := Lift.sound (E := vmfleetref24_Execute.env) Try.func48 (by kernel_rfl) (env_ok TYS.ok mixed ⟨vmfleetref24_ValidStore.sound, trivial⟩ trivial) (by kernel_rfl) vmfleetref24_Execute.eq

/-! vmfleet/vmfleetref24.NewStore -/
noncomputable def vmfleetref24_NewStore.f (blocks : List ByteArray) : Option ((List ByteArray × Int × Int) × Bool) :=
  if (([] : List ByteArray).length + blocks.length) * 16 ≤ 70368744177664 then
    (vmfleetref24_ValidStore.f (([] : List ByteArray) ++ blocks, (0 : Int), (-1 : Int))).bind fun r1 =>
    bif !r1 then
      some (([], (0 : Int), (0 : Int)), false)
    else
      some ((([] : List ByteArray) ++ blocks, (0 : Int), (-1 : Int)), true)
  else none
noncomputable def vmfleetref24_NewStore.sp : FSpec := ⟨[(.sl .str)], [(.st (.pair (.own .str) (.pair (.int .u64) (.int .i64)))), .bool], fun x => vmfleetref24_NewStore.f x⟩
noncomputable def vmfleetref24_NewStore.env : Env := ⟨TYS, [(52, vmfleetref24_ValidStore.sp)], [], [], [], []⟩
theorem vmfleetref24_NewStore.eq (x) : fnEval vmfleetref24_NewStore.env vmfleetref24_NewStore.sp.args vmfleetref24_NewStore.sp.res Go.Proofs.Try.f50 x = vmfleetref24_NewStore.sp.f x := by kernel_rfl
theorem vmfleetref24_NewStore.sound : Sound Try.prog 50 vmfleetref24_NewStore.sp := Lift.sound (E := vmfleetref24_NewStore.env) Try.func50 (by kernel_rfl) (env_ok TYS.ok mixed ⟨vmfleetref24_ValidStore.sound, trivial⟩ trivial) (by kernel_rfl) vmfleetref24_NewStore.eq

/-! vmfleet/vmfleetref1.SameStrings -/
noncomputable def vmfleetref1_SameStrings.f (a : List ByteArray) (b : List ByteArray) : Option Bool :=
  bif !decide ((a.length : Int) = (b.length : Int)) then
    some false
  else
    (loop (Y := (Unit) ⊕ (Bool)) (fun (x1 : Int) =>
      bif decide (x1 < (a.length : Int)) then
        if 0 ≤ x1 ∧ x1 < (a.length : Int) then
          if 0 ≤ x1 ∧ x1 < (b.length : Int) then
            bif !decide ((nth (⟨#[]⟩ : ByteArray) a x1) = (nth (⟨#[]⟩ : ByteArray) b x1)) then
              some (.inr (.inr false))
            else
              some (.inl (IntKind.wrap .i64 (x1 + 1)))
          else none
        else none
      else
        some (.inr (.inl ()))) (0 : Int)).bind fun o => match o with
    | .inl y2 =>
      some true
    | .inr r => some r
noncomputable def vmfleetref1_SameStrings.sp : FSpec := ⟨[(.sl .str), (.sl .str)], [.bool], fun x => vmfleetref1_SameStrings.f x.1 x.2⟩
noncomputable def vmfleetref1_SameStrings.env : Env := ⟨TYS, [], [], [(4, ⟨[0, 1], [⟨5, false, (.int .i64)⟩], [], 0⟩)], [], []⟩
theorem vmfleetref1_SameStrings.eq (x) : fnEval vmfleetref1_SameStrings.env vmfleetref1_SameStrings.sp.args vmfleetref1_SameStrings.sp.res Go.Proofs.Try.f62 x = vmfleetref1_SameStrings.sp.f x := by kernel_rfl
theorem vmfleetref1_SameStrings.sound : Sound Try.prog 62 vmfleetref1_SameStrings.sp := Lift.sound (E := vmfleetref1_SameStrings.env) Try.func62 (by kernel_rfl) (env_ok TYS.ok mixed trivial trivial) (by kernel_rfl) vmfleetref1_SameStrings.eq

/-! vmfleet/vmfleetref24.SameStore -/
noncomputable def vmfleetref24_SameStore.f (a : List ByteArray × Int × Int) (b : List ByteArray × Int × Int) : Option Bool :=
  bif decide (a.2.1 = b.2.1) then
    bif decide (a.2.2 = b.2.2) then
      (vmfleetref1_SameStrings.f a.1 b.1).bind fun r1 =>
      some r1
    else
      some false
  else
    some false
noncomputable def vmfleetref24_SameStore.sp : FSpec := ⟨[(.st (.pair (.sl .str) (.pair (.int .u64) (.int .i64)))), (.st (.pair (.sl .str) (.pair (.int .u64) (.int .i64))))], [.bool], fun x => vmfleetref24_SameStore.f x.1 x.2⟩
noncomputable def vmfleetref24_SameStore.env : Env := ⟨TYS, [(62, vmfleetref1_SameStrings.sp)], [], [], [], []⟩
theorem vmfleetref24_SameStore.eq (x) : fnEval vmfleetref24_SameStore.env vmfleetref24_SameStore.sp.args vmfleetref24_SameStore.sp.res Go.Proofs.Try.f53 x = vmfleetref24_SameStore.sp.f x := by kernel_rfl
theorem vmfleetref24_SameStore.sound : Sound Try.prog 53 vmfleetref24_SameStore.sp := Lift.sound (E := vmfleetref24_SameStore.env) Try.func53 (by kernel_rfl) (env_ok TYS.ok mixed ⟨vmfleetref1_SameStrings.sound, trivial⟩ trivial) (by kernel_rfl) vmfleetref24_SameStore.eq

/-! vmfleet/vmfleetlaw26.ArbiterTells -/
noncomputable def vmfleetlaw26_ArbiterTells.f (a : List ByteArray × Int × Int) (a' : Int) (a'' : Int) (a''' : Int) (a'''' : Int × Int × Int × ByteArray) : Option Bool :=
  (vmfleetlaw26_light.f a.1).bind fun r1 =>
  bif !r1 then
    (vmfleetlaw26_awake.f).bind fun r2 =>
    some r2
  else
    bif decide ((a''''.2.2.2.size : Int) > 300) then
      (vmfleetlaw26_awake.f).bind fun r3 =>
      some r3
    else
      (arbiter_Claim.f a a' a'').bind fun r4 =>
      (vmfleetref24_Claim.f a a' a'').bind fun r5 =>
      (arbiter_Execute.f a a''' a'''').bind fun r6 =>
      (vmfleetref24_Execute.f a a''' a'''').bind fun r7 =>
      (arbiter_New.f a.1).bind fun r8 =>
      (vmfleetref24_NewStore.f a.1).bind fun r9 =>
      (arbiter_Valid.f a).bind fun r10 =>
      (vmfleetref24_ValidStore.f a).bind fun r11 =>
      bif r10 == r11 then
        (vmfleetref24_SameStore.f r4.1 r5.1).bind fun r12 =>
        bif r12 then
          bif r4.2 == r5.2 then
            (vmfleetref24_SameStore.f r6.1 r7.1).bind fun r13 =>
            bif r13 then
              bif decide (r6.2.1 = r7.2.1) then
                bif r6.2.2 == r7.2.2 then
                  (vmfleetref24_SameStore.f r8.1 r9.1).bind fun r14 =>
                  bif r14 then
                    bif r8.2 == r9.2 then
                      (vmfleetlaw26_awake.f).bind fun r15 =>
                      some r15
                    else
                      some false
                  else
                    some false
                else
                  some false
              else
                some false
            else
              some false
          else
            some false
        else
          some false
      else
        some false
noncomputable def vmfleetlaw26_ArbiterTells.sp : FSpec := ⟨[(.st (.pair (.sl .str) (.pair (.int .u64) (.int .i64)))), (.int .i64), (.int .u64), (.int .u64), (.st (.pair (.int .i64) (.pair (.int .u64) (.pair (.int .u32) .str))))], [.bool], fun x => vmfleetlaw26_ArbiterTells.f x.1 x.2.1 x.2.2.1 x.2.2.2.1 x.2.2.2.2⟩
noncomputable def vmfleetlaw26_ArbiterTells.env : Env := ⟨TYS, [(43, vmfleetlaw26_light.sp), (44, vmfleetlaw26_awake.sp), (45, arbiter_Claim.sp), (46, vmfleetref24_Claim.sp), (47, arbiter_Execute.sp), (48, vmfleetref24_Execute.sp), (49, arbiter_New.sp), (50, vmfleetref24_NewStore.sp), (51, arbiter_Valid.sp), (52, vmfleetref24_ValidStore.sp), (53, vmfleetref24_SameStore.sp)], [], [], [], []⟩
theorem vmfleetlaw26_ArbiterTells.eq (x) : fnEval vmfleetlaw26_ArbiterTells.env vmfleetlaw26_ArbiterTells.sp.args vmfleetlaw26_ArbiterTells.sp.res Go.Proofs.Try.f11 x = vmfleetlaw26_ArbiterTells.sp.f x := by kernel_rfl
theorem vmfleetlaw26_ArbiterTells.sound : Sound Try.prog 11 vmfleetlaw26_ArbiterTells.sp := Lift.sound (E := vmfleetlaw26_ArbiterTells.env) Try.func11 (by kernel_rfl) (env_ok TYS.ok mixed ⟨vmfleetlaw26_light.sound, vmfleetlaw26_awake.sound, arbiter_Claim.sound, vmfleetref24_Claim.sound, arbiter_Execute.sound, vmfleetref24_Execute.sound, arbiter_New.sound, vmfleetref24_NewStore.sound, arbiter_Valid.sound, vmfleetref24_ValidStore.sound, vmfleetref24_SameStore.sound, trivial⟩ trivial) (by kernel_rfl) vmfleetlaw26_ArbiterTells.eq

/-! vmfleet/vmfleetlaw26.ArbiterOne -/
noncomputable def vmfleetlaw26_ArbiterOne.f (a : Int) (a' : List Int) (a'' : List Int) : Option Bool :=
  bif decide ((a'.length : Int) > 60) then
    (vmfleetlaw26_awake.f).bind fun r1 =>
    some r1
  else
    bif (decide ((a''.length : Int) < (a'.length : Int))) then
      (vmfleetlaw26_awake.f).bind fun r2 =>
      some r2
    else
      (vmfleetplan_Blocks.f a).bind fun r3 =>
      (arbiter_New.f r3).bind fun r4 =>
      bif !r4.2 then
        some false
      else
        (loop (Y := (Unit) ⊕ (Bool)) (fun (x1 : (List ByteArray × Int × Int) × Int × Int × Int) =>
          bif decide (x1.2.2.2 < (a'.length : Int)) then
            if 0 ≤ x1.2.2.2 ∧ x1.2.2.2 < (a'.length : Int) then
              (vmfleetmake_Round.f (nth (0 : Int) a' x1.2.2.2) (3 : Int)).bind fun r5 =>
              if 0 ≤ x1.2.2.2 ∧ x1.2.2.2 < (a''.length : Int) then
                (vmfleetmake_Round.f (nth (0 : Int) a'' x1.2.2.2) (a'.length : Int)).bind fun r6 =>
                (if 0 ≤ x1.2.2.2 ∧ x1.2.2.2 < (a''.length : Int) then
                  bif decide ((Int.tmod (nth (0 : Int) a'' x1.2.2.2) (2 : Int)) = 0) then
                    some (.inl x1.2.1)
                  else
                    some (.inl (IntKind.wrap .u64 r6))
                else none : Option ((Int) ⊕ (((List ByteArray × Int × Int) × Int × Int × Int) ⊕ ((Unit) ⊕ (Bool))))).bind fun o => match o with
                | .inl y2 =>
                  (arbiter_Claim.f x1.1 r5 y2).bind fun r7 =>
                  bif !(r7.2 == (decide (y2 = x1.2.1))) then
                    some (.inr (.inr false))
                  else
                    (bif r7.2 then
                      some (.inl (IntKind.wrap .u64 (x1.2.1 + 1), r5))
                    else
                      some (.inl (x1.2.1, x1.2.2.1)) : Option ((Int × Int) ⊕ (((List ByteArray × Int × Int) × Int × Int × Int) ⊕ ((Unit) ⊕ (Bool))))).bind fun o => match o with
                    | .inl y3 =>
                      bif !decide (r7.1.2.1 = y3.1) then
                        some (.inr (.inr false))
                      else
                        bif !decide (r7.1.2.2 = y3.2) then
                          some (.inr (.inr false))
                        else
                          some (.inl (r7.1, y3.1, y3.2, IntKind.wrap .i64 (x1.2.2.2 + 1)))
                    | .inr r => some r
                | .inr r => some r
              else none
            else none
          else
            some (.inr (.inl ()))) (r4.1, (0 : Int), (-1 : Int), (0 : Int))).bind fun o => match o with
        | .inl y4 =>
          (vmfleetlaw26_awake.f).bind fun r8 =>
          some r8
        | .inr r => some r
noncomputable def vmfleetlaw26_ArbiterOne.sp : FSpec := ⟨[(.int .i64), (.sl (.int .i64)), (.sl (.int .i64))], [.bool], fun x => vmfleetlaw26_ArbiterOne.f x.1 x.2.1 x.2.2⟩
noncomputable def vmfleetlaw26_ArbiterOne.env : Env := ⟨TYS, [(19, vmfleetmake_Round.sp), (44, vmfleetlaw26_awake.sp), (45, arbiter_Claim.sp), (49, arbiter_New.sp), (54, vmfleetplan_Blocks.sp)], [], [(8, ⟨[1, 2], [⟨7, true, (.st (.pair (.own .str) (.pair (.int .u64) (.int .i64))))⟩, ⟨9, false, (.int .u64)⟩, ⟨10, false, (.int .i64)⟩, ⟨11, false, (.int .i64)⟩], [], 0⟩)], [(14, ⟨[7, 9, 10, 11, 12], [], [⟨13, false, (.int .u64)⟩], 0⟩), (19, ⟨[7, 11, 14], [], [⟨9, false, (.int .u64)⟩, ⟨10, false, (.int .i64)⟩], 0⟩)], []⟩
theorem vmfleetlaw26_ArbiterOne.eq (x) : fnEval vmfleetlaw26_ArbiterOne.env vmfleetlaw26_ArbiterOne.sp.args vmfleetlaw26_ArbiterOne.sp.res Go.Proofs.Try.f12 x = vmfleetlaw26_ArbiterOne.sp.f x := by kernel_rfl
theorem vmfleetlaw26_ArbiterOne.sound : Sound Try.prog 12 vmfleetlaw26_ArbiterOne.sp := Lift.sound (E := vmfleetlaw26_ArbiterOne.env) Try.func12 (by kernel_rfl) (env_ok TYS.ok mixed ⟨vmfleetmake_Round.sound, vmfleetlaw26_awake.sound, arbiter_Claim.sound, arbiter_New.sound, vmfleetplan_Blocks.sound, trivial⟩ trivial) (by kernel_rfl) vmfleetlaw26_ArbiterOne.eq

/-! vmfleet/vmfleetlaw26.ArbiterFences -/
noncomputable def vmfleetlaw26_ArbiterFences.f (a : Int) (a' : List Int) : Option Bool :=
  bif decide ((a'.length : Int) > 40) then
    (vmfleetlaw26_awake.f).bind fun r1 =>
    some r1
  else
    (vmfleetplan_Blocks.f a).bind fun r2 =>
    (arbiter_New.f r2).bind fun r3 =>
    (arbiter_Claim.f r3.1 (0 : Int) (0 : Int)).bind fun r4 =>
    (arbiter_Claim.f r4.1 (1 : Int) (1 : Int)).bind fun r5 =>
    bif !r3.2 then
      some false
    else
      bif !r5.2 then
        some false
      else
        (vmfleetplan_Blocks.f a).bind fun r6 =>
        (loop (Y := (Unit) ⊕ (Bool)) (fun (x1 : (List ByteArray × Int × Int) × List ByteArray × Int) =>
          bif decide (x1.2.2 < (a'.length : Int)) then
            if 0 ≤ x1.2.2 ∧ x1.2.2 < (a'.length : Int) then
              (vmfleetmake_Round.f (nth (0 : Int) a' x1.2.2) (4 : Int)).bind fun r7 =>
              if 0 ≤ x1.2.2 ∧ x1.2.2 < (a'.length : Int) then
                (vmfleetmake_Data.f (nth (0 : Int) a' x1.2.2) (128 : Int)).bind fun r8 =>
                if 0 ≤ x1.2.2 ∧ x1.2.2 < (a'.length : Int) then
                  (vmfleetmake_Round.f (IntKind.wrap .i64 (Int.tdiv (nth (0 : Int) a' x1.2.2) (4 : Int))) (4 : Int)).bind fun r9 =>
                  if 0 ≤ x1.2.2 ∧ x1.2.2 < (a'.length : Int) then
                    (vmfleetmake_Round.f (IntKind.wrap .i64 (Int.tdiv (nth (0 : Int) a' x1.2.2) (16 : Int))) (2 : Int)).bind fun r10 =>
                    (bif decide ((IntKind.wrap .i64 (3 + r10)) = 4) then
                      some (.inl (IntKind.wrap .i64 (3 + r10), (0 : Int), IntKind.wrap .u32 r7, r8))
                    else
                      some (.inl (IntKind.wrap .i64 (3 + r10), (0 : Int), IntKind.wrap .u32 r7, (⟨#[]⟩ : ByteArray))) : Option ((Int × Int × Int × ByteArray) ⊕ (((List ByteArray × Int × Int) × List ByteArray × Int) ⊕ ((Unit) ⊕ (Bool))))).bind fun o => match o with
                    | .inl y2 =>
                      (arbiter_Execute.f x1.1 (IntKind.wrap .u64 r9) y2).bind fun r11 =>
                      bif !(r11.2.2 == (decide ((IntKind.wrap .u64 r9) = 2))) then
                        some (.inr (.inr false))
                      else
                        (bif r11.2.2 then
                          bif (decide ((IntKind.wrap .i64 (3 + r10)) = 4)) then
                            if 0 ≤ r7 ∧ r7 < (x1.2.1.length : Int) then
                              some (.inl (put x1.2.1 r7 r8))
                            else none
                          else
                            some (.inl x1.2.1)
                        else
                          some (.inl x1.2.1) : Option ((List ByteArray) ⊕ (((List ByteArray × Int × Int) × List ByteArray × Int) ⊕ ((Unit) ⊕ (Bool))))).bind fun o => match o with
                        | .inl y3 =>
                          (bif r11.2.2 then
                            bif !decide (r11.2.1.1 = 4) then
                              some (.inr (.inr (.inr false)))
                            else
                              bif !decide (r11.2.1.2.1 = 1) then
                                some (.inr (.inr (.inr false)))
                              else
                                bif decide ((IntKind.wrap .i64 (3 + r10)) = 3) then
                                  if 0 ≤ r7 ∧ r7 < (y3.length : Int) then
                                    bif (!decide (r11.2.1.2.2 = (nth (⟨#[]⟩ : ByteArray) y3 r7))) then
                                      some (.inr (.inr (.inr false)))
                                    else
                                      some (.inl ())
                                  else none
                                else
                                  some (.inl ())
                          else
                            some (.inl ()) : Option ((Unit) ⊕ (((List ByteArray × Int × Int) × List ByteArray × Int) ⊕ ((Unit) ⊕ (Bool))))).bind fun o => match o with
                          | .inl y4 =>
                            (loop (Y := (Unit) ⊕ (((List ByteArray × Int × Int) × List ByteArray × Int) ⊕ ((Unit) ⊕ (Bool)))) (fun (x5 : Int) =>
                              bif decide (x5 < 4) then
                                bif !decide ((r11.1.1.length : Int) = 4) then
                                  some (.inr (.inr (.inr (.inr false))))
                                else
                                  if 0 ≤ x5 ∧ x5 < (r11.1.1.length : Int) then
                                    if 0 ≤ x5 ∧ x5 < (y3.length : Int) then
                                      bif (!decide ((nth (⟨#[]⟩ : ByteArray) r11.1.1 x5) = (nth (⟨#[]⟩ : ByteArray) y3 x5))) then
                                        some (.inr (.inr (.inr (.inr false))))
                                      else
                                        some (.inl (IntKind.wrap .i64 (x5 + 1)))
                                    else none
                                  else none
                              else
                                some (.inr (.inl ()))) (0 : Int)).bind fun o => match o with
                            | .inl y6 =>
                              some (.inl (r11.1, y3, IntKind.wrap .i64 (x1.2.2 + 1)))
                            | .inr r => some r
                          | .inr r => some r
                        | .inr r => some r
                    | .inr r => some r
                  else none
                else none
              else none
            else none
          else
            some (.inr (.inl ()))) (r5.1, r6, (0 : Int))).bind fun o => match o with
        | .inl y7 =>
          (vmfleetlaw26_awake.f).bind fun r12 =>
          some r12
        | .inr r => some r
noncomputable def vmfleetlaw26_ArbiterFences.sp : FSpec := ⟨[(.int .i64), (.sl (.int .i64))], [.bool], fun x => vmfleetlaw26_ArbiterFences.f x.1 x.2⟩
noncomputable def vmfleetlaw26_ArbiterFences.env : Env := ⟨TYS, [(19, vmfleetmake_Round.sp), (44, vmfleetlaw26_awake.sp), (45, arbiter_Claim.sp), (47, arbiter_Execute.sp), (49, arbiter_New.sp), (54, vmfleetplan_Blocks.sp), (55, vmfleetmake_Data.sp)], [], [(28, ⟨[1, 5, 8, 9], [⟨18, false, (.int .i64)⟩], [], 2⟩), (10, ⟨[1], [⟨5, true, (.st (.pair (.own .str) (.pair (.int .u64) (.int .i64))))⟩, ⟨8, false, (.own .str)⟩, ⟨9, false, (.int .i64)⟩], [], 0⟩)], [(19, ⟨[5, 8, 9, 10, 11, 12, 13], [⟨14, true, (.st (.pair (.int .i64) (.pair (.int .u64) (.pair (.int .u32) .str))))⟩], [⟨14, true, (.st (.pair (.int .i64) (.pair (.int .u64) (.pair (.int .u32) .str))))⟩], 0⟩), (24, ⟨[5, 9, 10, 13, 15, 16, 17], [⟨8, false, (.own .str)⟩], [⟨8, false, (.own .str)⟩], 0⟩), (26, ⟨[5, 8, 9, 15], [], [], 0⟩)], []⟩
theorem vmfleetlaw26_ArbiterFences.eq (x) : fnEval vmfleetlaw26_ArbiterFences.env vmfleetlaw26_ArbiterFences.sp.args vmfleetlaw26_ArbiterFences.sp.res Go.Proofs.Try.f13 x = vmfleetlaw26_ArbiterFences.sp.f x := by kernel_rfl
theorem vmfleetlaw26_ArbiterFences.sound : Sound Try.prog 13 vmfleetlaw26_ArbiterFences.sp := Lift.sound (E := vmfleetlaw26_ArbiterFences.env) Try.func13 (by kernel_rfl) (env_ok TYS.ok mixed ⟨vmfleetmake_Round.sound, vmfleetlaw26_awake.sound, arbiter_Claim.sound, arbiter_Execute.sound, arbiter_New.sound, vmfleetplan_Blocks.sound, vmfleetmake_Data.sound, trivial⟩ trivial) (by kernel_rfl) vmfleetlaw26_ArbiterFences.eq

/-! vmfleet/vmfleetlaw26.ArbiterRepeats -/
noncomputable def vmfleetlaw26_ArbiterRepeats.f (a : Int) (a' : Int) (a'' : ByteArray) (a''' : Bool) : Option Bool :=
  bif decide ((a''.size : Int) > 300) then
    (vmfleetlaw26_awake.f).bind fun r1 =>
    some r1
  else
    (vmfleetplan_Blocks.f a).bind fun r2 =>
    (arbiter_New.f r2).bind fun r3 =>
    (arbiter_Claim.f r3.1 (0 : Int) (0 : Int)).bind fun r4 =>
    (bif a''' then
      some (.inl ((3 : Int), (0 : Int), IntKind.wrap .u32 a', (⟨#[]⟩ : ByteArray)))
    else
      some (.inl ((4 : Int), (0 : Int), IntKind.wrap .u32 a', a'')) : Option ((Int × Int × Int × ByteArray) ⊕ (Bool))).bind fun o => match o with
    | .inl y1 =>
      (arbiter_Execute.f r4.1 (1 : Int) y1).bind fun r5 =>
      (arbiter_Execute.f r5.1 (1 : Int) y1).bind fun r6 =>
      bif r3.2 then
        bif r4.2 then
          bif r5.2.2 then
            bif r6.2.2 then
              bif decide (r5.2.1 = r6.2.1) then
                (vmfleetref24_SameStore.f r5.1 r6.1).bind fun r7 =>
                bif r7 then
                  bif decide ((IntKind.wrap .u32 a') < 4) then
                    bif a''' then
                      bif (decide (r5.2.1.2.1 = 1)) == true then
                        (vmfleetlaw26_awake.f).bind fun r8 =>
                        some r8
                      else
                        some false
                    else
                      bif ((decide (r5.2.1.2.1 = 1)) == (decide ((a''.size : Int) = 128))) then
                        (vmfleetlaw26_awake.f).bind fun r9 =>
                        some r9
                      else
                        some false
                  else
                    bif (decide (r5.2.1.2.1 = 1)) == false then
                      (vmfleetlaw26_awake.f).bind fun r10 =>
                      some r10
                    else
                      some false
                else
                  some false
              else
                some false
            else
              some false
          else
            some false
        else
          some false
      else
        some false
    | .inr r => some r
noncomputable def vmfleetlaw26_ArbiterRepeats.sp : FSpec := ⟨[(.int .i64), (.int .i64), .str, .bool], [.bool], fun x => vmfleetlaw26_ArbiterRepeats.f x.1 x.2.1 x.2.2.1 x.2.2.2⟩
noncomputable def vmfleetlaw26_ArbiterRepeats.env : Env := ⟨TYS, [(44, vmfleetlaw26_awake.sp), (45, arbiter_Claim.sp), (47, arbiter_Execute.sp), (49, arbiter_New.sp), (53, vmfleetref24_SameStore.sp), (54, vmfleetplan_Blocks.sp)], [], [], [(8, ⟨[1, 2, 3, 8, 9, 10, 11], [⟨12, true, (.st (.pair (.int .i64) (.pair (.int .u64) (.pair (.int .u32) .str))))⟩], [⟨12, true, (.st (.pair (.int .i64) (.pair (.int .u64) (.pair (.int .u32) .str))))⟩], 0⟩)], []⟩
theorem vmfleetlaw26_ArbiterRepeats.eq (x) : fnEval vmfleetlaw26_ArbiterRepeats.env vmfleetlaw26_ArbiterRepeats.sp.args vmfleetlaw26_ArbiterRepeats.sp.res Go.Proofs.Try.f14 x = vmfleetlaw26_ArbiterRepeats.sp.f x := by kernel_rfl
theorem vmfleetlaw26_ArbiterRepeats.sound : Sound Try.prog 14 vmfleetlaw26_ArbiterRepeats.sp := Lift.sound (E := vmfleetlaw26_ArbiterRepeats.env) Try.func14 (by kernel_rfl) (env_ok TYS.ok mixed ⟨vmfleetlaw26_awake.sound, arbiter_Claim.sound, arbiter_Execute.sound, arbiter_New.sound, vmfleetref24_SameStore.sound, vmfleetplan_Blocks.sound, trivial⟩ trivial) (by kernel_rfl) vmfleetlaw26_ArbiterRepeats.eq

end Go.Proofs.Ytacmfiddaklkiaa.Fn
