/- The functions that the laws of this seat reach, each as a plain Lean function, with the proof that the loaded code computes it. -/
import Derived.Test.YtacmfiddaklkiabLLaw
import Derived.Test.YtacmfiddaklkiabLPure
import Derived.Test.YtacmfiddaklkiabProg
import Derived.Test.YtacmfiddaklkiabChecked
set_option maxRecDepth 100000
set_option linter.unusedVariables false
namespace Go.Proofs.Ytacmfiddaklkiab.Fn
open Go Lift
def TYS : List (Nat × TI) := [(3, ⟨(.int .i64), 0⟩), (4, ⟨.bool, 0⟩), (22, ⟨(.sl (.int .i64)), 8⟩), (24, ⟨(.sl (.st (.pair (.int .i64) (.pair (.int .i64) .bool)))), 24⟩), (27, ⟨(.st (.pair (.int .i64) (.pair (.int .i64) .bool))), 0⟩), (28, ⟨(.sl (.st (.pair .str (.pair (.st (.pair (.int .i64) (.pair (.int .i64) (.pair (.int .i64) (.int .i64))))) (.arr 2 (.int .i64)))))), 64⟩), (30, ⟨(.st (.pair (.int .i64) (.pair (.int .i64) (.pair (.int .i64) (.int .i64))))), 0⟩), (32, ⟨(.arr 2 (.int .i64)), 0⟩), (34, ⟨(.st (.pair .str (.pair (.st (.pair (.int .i64) (.pair (.int .i64) (.pair (.int .i64) (.int .i64))))) (.arr 2 (.int .i64))))), 0⟩), (37, ⟨(.sl (.st (.pair (.int .i64) (.pair (.int .i64) (.pair (.int .i64) (.int .i64)))))), 32⟩), (42, ⟨(.int .i64), 0⟩), (46, ⟨(.int .u64), 0⟩)]
theorem TYS.ok : tysB Try.prog TYS = true := by kernel_rfl
theorem mixed : Try.prog.follows .mixedOrders = true := Checked.mixed Try.checked

/-! vmfleet/admission.unit -/
noncomputable def admission_unit.f (n : Int) : Option Bool :=
  bif decide (n ≥ 0) then
    some (decide (n ≤ 1000000))
  else
    some false
noncomputable def admission_unit.sp : FSpec := ⟨[(.int .i64)], [.bool], fun x => admission_unit.f x⟩
noncomputable def admission_unit.env : Env := ⟨TYS, [], [], [], [], [], []⟩
theorem admission_unit.eq (x) : fnEval admission_unit.env admission_unit.sp.args admission_unit.sp.res Go.Proofs.Try.f17 x = admission_unit.sp.f x := by kernel_rfl
theorem admission_unit.sound : Sound Try.prog 17 admission_unit.sp := Lift.sound (E := admission_unit.env) Try.func17 (by kernel_rfl) (env_okN TYS.ok mixed trivial trivial trivial) (by kernel_rfl) admission_unit.eq

/-! vmfleet/admission.ValidHost -/
noncomputable def admission_ValidHost.f (c : Int × Int × Bool) : Option Bool :=
  (admission_unit.f c.1).bind fun r1 =>
  bif r1 then
    (admission_unit.f c.2.1).bind fun r2 =>
    some r2
  else
    some false
noncomputable def admission_ValidHost.sp : FSpec := ⟨[(.st (.pair (.int .i64) (.pair (.int .i64) .bool)))], [.bool], fun x => admission_ValidHost.f x⟩
noncomputable def admission_ValidHost.env : Env := ⟨TYS, [(17, admission_unit.sp)], [], [], [], [], []⟩
theorem admission_ValidHost.eq (x) : fnEval admission_ValidHost.env admission_ValidHost.sp.args admission_ValidHost.sp.res Go.Proofs.Try.f16 x = admission_ValidHost.sp.f x := by kernel_rfl
theorem admission_ValidHost.sound : Sound Try.prog 16 admission_ValidHost.sp := Lift.sound (E := admission_ValidHost.env) Try.func16 (by kernel_rfl) (env_okN TYS.ok mixed ⟨admission_unit.sound, trivial⟩ trivial trivial) (by kernel_rfl) admission_ValidHost.eq

/-! vmfleet/admission.ValidDemand -/
noncomputable def admission_ValidDemand.f (d : Int × Int × Int × Int) : Option Bool :=
  bif decide (d.1 ≥ 0) then
    bif decide (d.1 ≤ d.2.1) then
      (admission_unit.f d.2.1).bind fun r1 =>
      bif r1 then
        (admission_unit.f d.2.2.1).bind fun r2 =>
        bif r2 then
          some (decide (d.2.2.2 ≥ 0))
        else
          some false
      else
        some false
    else
      some false
  else
    some false
noncomputable def admission_ValidDemand.sp : FSpec := ⟨[(.st (.pair (.int .i64) (.pair (.int .i64) (.pair (.int .i64) (.int .i64)))))], [.bool], fun x => admission_ValidDemand.f x⟩
noncomputable def admission_ValidDemand.env : Env := ⟨TYS, [(17, admission_unit.sp)], [], [], [], [], []⟩
theorem admission_ValidDemand.eq (x) : fnEval admission_ValidDemand.env admission_ValidDemand.sp.args admission_ValidDemand.sp.res Go.Proofs.Try.f14 x = admission_ValidDemand.sp.f x := by kernel_rfl
theorem admission_ValidDemand.sound : Sound Try.prog 14 admission_ValidDemand.sp := Lift.sound (E := admission_ValidDemand.env) Try.func14 (by kernel_rfl) (env_okN TYS.ok mixed ⟨admission_unit.sound, trivial⟩ trivial trivial) (by kernel_rfl) admission_ValidDemand.eq

/-! vmfleet/admission.valid -/
noncomputable def admission_valid.f (c : Int × Int × Bool) (l : List (Int × Int × Int × Int)) : Option Bool :=
  (admission_ValidHost.f c).bind fun r1 =>
  bif !r1 then
    some false
  else
    bif decide ((l.length : Int) > 16) then
      some false
    else
      (loop (Y := (Unit) ⊕ (Bool)) (fun (x1 : Int) =>
        bif decide (x1 < (l.length : Int)) then
          if 0 ≤ x1 ∧ x1 < (l.length : Int) then
            (admission_ValidDemand.f ((nth ((0 : Int), (0 : Int), (0 : Int), (0 : Int)) l x1).1, ((nth ((0 : Int), (0 : Int), (0 : Int), (0 : Int)) l x1).2).1, (((nth ((0 : Int), (0 : Int), (0 : Int), (0 : Int)) l x1).2).2))).bind fun r2 =>
            bif !r2 then
              some (.inr (.inr false))
            else
              some (.inl (IntKind.wrap .i64 (x1 + 1)))
          else none
        else
          some (.inr (.inl ()))) (0 : Int)).bind fun o => match o with
      | .inl y2 =>
        some true
      | .inr r => some r
noncomputable def admission_valid.sp : FSpec := ⟨[(.st (.pair (.int .i64) (.pair (.int .i64) .bool))), (.sl (.st (.pair (.int .i64) (.pair (.int .i64) (.pair (.int .i64) (.int .i64))))))], [.bool], fun x => admission_valid.f x.1 x.2⟩
noncomputable def admission_valid.env : Env := ⟨TYS, [(14, admission_ValidDemand.sp), (16, admission_ValidHost.sp)], [], [(4, ⟨[15, 16], [⟨17, false, (.int .i64)⟩], [], 0, none⟩)], [], [], []⟩
theorem admission_valid.eq (x) : fnEval admission_valid.env admission_valid.sp.args admission_valid.sp.res Go.Proofs.Try.f13 x = admission_valid.sp.f x := by kernel_rfl
theorem admission_valid.sound : Sound Try.prog 13 admission_valid.sp := Lift.sound (E := admission_valid.env) Try.func13 (by kernel_rfl) (env_okN TYS.ok mixed ⟨admission_ValidDemand.sound, admission_ValidHost.sound, trivial⟩ trivial trivial) (by kernel_rfl) admission_valid.eq

/-! vmfleet/admission.Free -/
noncomputable def admission_Free.f (c : Int × Int × Bool) (l : List (Int × Int × Int × Int)) : Option (Int × Int) :=
  (admission_valid.f c l).bind fun r1 =>
  bif !r1 then
    some ((0 : Int), (0 : Int))
  else
    (loop (Y := (Int × Int) ⊕ (Int × Int)) (fun (x1 : Int × Int × Int) =>
      bif decide (x1.2.2 < (l.length : Int)) then
        if 0 ≤ x1.2.2 ∧ x1.2.2 < (l.length : Int) then
          some (.inl ((IntKind.wrap .i64 (x1.1 - ((nth ((0 : Int), (0 : Int), (0 : Int), (0 : Int)) l x1.2.2).1))), (IntKind.wrap .i64 (x1.2.1 - ((((nth ((0 : Int), (0 : Int), (0 : Int), (0 : Int)) l x1.2.2).2).2).1))), IntKind.wrap .i64 (x1.2.2 + 1)))
        else none
      else
        some (.inr (.inl (x1.1, x1.2.1)))) (c.1, c.2.1, (0 : Int))).bind fun o => match o with
    | .inl y2 =>
      some y2
    | .inr r => some r
noncomputable def admission_Free.sp : FSpec := ⟨[(.st (.pair (.int .i64) (.pair (.int .i64) .bool))), (.sl (.st (.pair (.int .i64) (.pair (.int .i64) (.pair (.int .i64) (.int .i64))))))], [(.int .i64), (.int .i64)], fun x => admission_Free.f x.1 x.2⟩
noncomputable def admission_Free.env : Env := ⟨TYS, [(13, admission_valid.sp)], [], [(5, ⟨[4, 5, 18, 19], [⟨6, false, (.int .i64)⟩, ⟨7, false, (.int .i64)⟩, ⟨20, false, (.int .i64)⟩], [⟨6, false, (.int .i64)⟩, ⟨7, false, (.int .i64)⟩], 0, none⟩)], [], [], []⟩
theorem admission_Free.eq (x) : fnEval admission_Free.env admission_Free.sp.args admission_Free.sp.res Go.Proofs.Try.f10 x = admission_Free.sp.f x := by kernel_rfl
theorem admission_Free.sound : Sound Try.prog 10 admission_Free.sp := Lift.sound (E := admission_Free.env) Try.func10 (by kernel_rfl) (env_okN TYS.ok mixed ⟨admission_valid.sound, trivial⟩ trivial trivial) (by kernel_rfl) admission_Free.eq

/-! vmfleet/admission.Admit -/
noncomputable def admission_Admit.f (c : Int × Int × Bool) (l : List (Int × Int × Int × Int)) (d : Int × Int × Int × Int) : Option Int :=
  (admission_valid.f c l).bind fun r1 =>
  bif !r1 then
    some (3900 : Int)
  else
    (admission_ValidDemand.f d).bind fun r2 =>
    bif !r2 then
      some (3900 : Int)
    else
      (admission_Free.f c l).bind fun r3 =>
      bif !c.2.2 then
        some (3904 : Int)
      else
        bif decide (r3.1 < d.1) then
          some (3901 : Int)
        else
          bif decide (r3.2 < d.2.2.1) then
            some (3902 : Int)
          else
            (loop (Y := (Unit) ⊕ (Int)) (fun (x1 : Int) =>
              bif decide (x1 < (l.length : Int)) then
                if 0 ≤ x1 ∧ x1 < (l.length : Int) then
                  bif !decide (d.2.2.2 = 0) then
                    bif (decide (((((nth ((0 : Int), (0 : Int), (0 : Int), (0 : Int)) l x1).2).2).2) = d.2.2.2)) then
                      some (.inr (.inr (3903 : Int)))
                    else
                      some (.inl (IntKind.wrap .i64 (x1 + 1)))
                  else
                    some (.inl (IntKind.wrap .i64 (x1 + 1)))
                else none
              else
                some (.inr (.inl ()))) (0 : Int)).bind fun o => match o with
            | .inl y2 =>
              some (0 : Int)
            | .inr r => some r
noncomputable def admission_Admit.sp : FSpec := ⟨[(.st (.pair (.int .i64) (.pair (.int .i64) .bool))), (.sl (.st (.pair (.int .i64) (.pair (.int .i64) (.pair (.int .i64) (.int .i64)))))), (.st (.pair (.int .i64) (.pair (.int .i64) (.pair (.int .i64) (.int .i64)))))], [(.int .i64)], fun x => admission_Admit.f x.1 x.2.1 x.2.2⟩
noncomputable def admission_Admit.env : Env := ⟨TYS, [(10, admission_Free.sp), (13, admission_valid.sp), (14, admission_ValidDemand.sp)], [], [(11, ⟨[5, 40, 41], [⟨42, false, (.int .i64)⟩], [], 1, none⟩)], [], [], []⟩
theorem admission_Admit.eq (x) : fnEval admission_Admit.env admission_Admit.sp.args admission_Admit.sp.res Go.Proofs.Try.f11 x = admission_Admit.sp.f x := by kernel_rfl
theorem admission_Admit.sound : Sound Try.prog 11 admission_Admit.sp := Lift.sound (E := admission_Admit.env) Try.func11 (by kernel_rfl) (env_okN TYS.ok mixed ⟨admission_Free.sound, admission_valid.sound, admission_ValidDemand.sound, trivial⟩ trivial trivial) (by kernel_rfl) admission_Admit.eq

/-! vmfleet/admission.Fits -/
noncomputable def admission_Fits.f (c : Int × Int × Bool) (l : List (Int × Int × Int × Int)) : Option Bool :=
  (loop (Y := (Unit) ⊕ (Bool)) (fun (x1 : Int) =>
    bif decide (x1 < (l.length : Int)) then
      if 0 ≤ x1 ∧ x1 < (l.length : Int) then
        if 0 ≤ x1 ∧ x1 ≤ (l.length : Int) then
          (admission_Admit.f c (slc l (0 : Int) x1) ((nth ((0 : Int), (0 : Int), (0 : Int), (0 : Int)) l x1).1, ((nth ((0 : Int), (0 : Int), (0 : Int), (0 : Int)) l x1).2).1, (((nth ((0 : Int), (0 : Int), (0 : Int), (0 : Int)) l x1).2).2))).bind fun r1 =>
          bif !decide (r1 = 0) then
            some (.inr (.inr false))
          else
            some (.inl (IntKind.wrap .i64 (x1 + 1)))
        else none
      else none
    else
      some (.inr (.inl ()))) (0 : Int)).bind fun o => match o with
  | .inl y2 =>
    some true
  | .inr r => some r
noncomputable def admission_Fits.sp : FSpec := ⟨[(.st (.pair (.int .i64) (.pair (.int .i64) .bool))), (.sl (.st (.pair (.int .i64) (.pair (.int .i64) (.pair (.int .i64) (.int .i64))))))], [.bool], fun x => admission_Fits.f x.1 x.2⟩
noncomputable def admission_Fits.env : Env := ⟨TYS, [(11, admission_Admit.sp)], [], [(2, ⟨[1, 2, 7, 8], [⟨9, false, (.int .i64)⟩], [], 0, none⟩)], [], [], []⟩
theorem admission_Fits.eq (x) : fnEval admission_Fits.env admission_Fits.sp.args admission_Fits.sp.res Go.Proofs.Try.f8 x = admission_Fits.sp.f x := by kernel_rfl
theorem admission_Fits.sound : Sound Try.prog 8 admission_Fits.sp := Lift.sound (E := admission_Fits.env) Try.func8 (by kernel_rfl) (env_okN TYS.ok mixed ⟨admission_Admit.sound, trivial⟩ trivial trivial) (by kernel_rfl) admission_Fits.eq

/-! vmfleet/vmfleetlaw39.awake -/
noncomputable def vmfleetlaw39_awake.f  : Option Bool :=
  (admission_Free.f ((10 : Int), (10 : Int), true) ([((6 : Int), (8 : Int), (5 : Int), (1 : Int))] : List (Int × Int × Int × Int))).bind fun r1 =>
  (admission_Admit.f ((10 : Int), (10 : Int), true) [] ((6 : Int), (8 : Int), (5 : Int), (1 : Int))).bind fun r2 =>
  bif decide (r2 = 0) then
    (admission_Admit.f ((10 : Int), (10 : Int), true) ([((6 : Int), (8 : Int), (5 : Int), (1 : Int))] : List (Int × Int × Int × Int)) ((6 : Int), (8 : Int), (5 : Int), (1 : Int))).bind fun r3 =>
    bif decide (r3 = 3901) then
      (admission_Admit.f ((10 : Int), (10 : Int), true) ([((6 : Int), (8 : Int), (5 : Int), (1 : Int))] : List (Int × Int × Int × Int)) ((4 : Int), (8 : Int), (5 : Int), (1 : Int))).bind fun r4 =>
      bif decide (r4 = 3903) then
        bif decide (r1.1 = 4) then
          bif decide (r1.2 = 5) then
            (admission_Fits.f ((10 : Int), (10 : Int), true) ([((6 : Int), (8 : Int), (5 : Int), (1 : Int))] : List (Int × Int × Int × Int))).bind fun r5 =>
            bif r5 then
              (admission_Fits.f ((10 : Int), (10 : Int), true) ([((6 : Int), (8 : Int), (5 : Int), (1 : Int)), ((6 : Int), (8 : Int), (5 : Int), (1 : Int))] : List (Int × Int × Int × Int))).bind fun r6 =>
              some (!r6)
            else
              some false
          else
            some false
        else
          some false
      else
        some false
    else
      some false
  else
    some false
noncomputable def vmfleetlaw39_awake.sp : FSpec := ⟨[], [.bool], fun _ => vmfleetlaw39_awake.f⟩
noncomputable def vmfleetlaw39_awake.env : Env := ⟨TYS, [(8, admission_Fits.sp), (10, admission_Free.sp), (11, admission_Admit.sp)], [], [], [], [], []⟩
theorem vmfleetlaw39_awake.eq (x) : fnEval vmfleetlaw39_awake.env vmfleetlaw39_awake.sp.args vmfleetlaw39_awake.sp.res Go.Proofs.Try.f4 x = vmfleetlaw39_awake.sp.f x := by kernel_rfl
theorem vmfleetlaw39_awake.sound : Sound Try.prog 4 vmfleetlaw39_awake.sp := Lift.sound (E := vmfleetlaw39_awake.env) Try.func4 (by kernel_rfl) (env_okN TYS.ok mixed ⟨admission_Fits.sound, admission_Free.sound, admission_Admit.sound, trivial⟩ trivial trivial) (by kernel_rfl) vmfleetlaw39_awake.eq

/-! vmfleet/vmfleetmake.Round -/
noncomputable def vmfleetmake_Round.f (n : Int) (k : Int) : Option Int :=
  if k = 0 then none else
  bif decide ((Int.tmod n k) < 0) then
    some (IntKind.wrap .i64 ((Int.tmod n k) + k))
  else
    some (Int.tmod n k)
noncomputable def vmfleetmake_Round.sp : FSpec := ⟨[(.int .i64), (.int .i64)], [(.int .i64)], fun x => vmfleetmake_Round.f x.1 x.2⟩
noncomputable def vmfleetmake_Round.env : Env := ⟨TYS, [], [], [], [], [], []⟩
theorem vmfleetmake_Round.eq (x) : fnEval vmfleetmake_Round.env vmfleetmake_Round.sp.args vmfleetmake_Round.sp.res Go.Proofs.Try.f5 x = vmfleetmake_Round.sp.f x := by kernel_rfl
theorem vmfleetmake_Round.sound : Sound Try.prog 5 vmfleetmake_Round.sp := Lift.sound (E := vmfleetmake_Round.env) Try.func5 (by kernel_rfl) (env_okN TYS.ok mixed trivial trivial trivial) (by kernel_rfl) vmfleetmake_Round.eq

/-! vmfleet/vmfleetref1.Next -/
noncomputable def vmfleetref1_Next.f (seed : Int) : Option (Int × Int) :=
  let v1 := IntKind.wrap .u64 (seed + 11400714819323198485)
  let v2 := IntKind.wrap .u64 ((xorI .u64 v1 (shrI .u64 v1 (30 : Int))) * 13787848793156543929)
  let v3 := IntKind.wrap .u64 ((xorI .u64 v2 (shrI .u64 v2 (27 : Int))) * 10723151780598845931)
  some (xorI .u64 v3 (shrI .u64 v3 (31 : Int)), v1)
noncomputable def vmfleetref1_Next.sp : FSpec := ⟨[(.int .u64)], [(.int .u64), (.int .u64)], fun x => vmfleetref1_Next.f x⟩
noncomputable def vmfleetref1_Next.env : Env := ⟨TYS, [], [], [], [], [], []⟩
theorem vmfleetref1_Next.eq (x) : fnEval vmfleetref1_Next.env vmfleetref1_Next.sp.args vmfleetref1_Next.sp.res Go.Proofs.Try.f15 x = vmfleetref1_Next.sp.f x := by kernel_rfl
theorem vmfleetref1_Next.sound : Sound Try.prog 15 vmfleetref1_Next.sp := Lift.sound (E := vmfleetref1_Next.env) Try.func15 (by kernel_rfl) (env_okN TYS.ok mixed trivial trivial trivial) (by kernel_rfl) vmfleetref1_Next.eq

/-! vmfleet/vmfleetmake.Mix -/
noncomputable def vmfleetmake_Mix.f (n : Int) (k : Int) : Option Int :=
  (vmfleetref1_Next.f (xorI .u64 (IntKind.wrap .u64 n) (IntKind.wrap .u64 ((IntKind.wrap .u64 k) * 11400714819323198485)))).bind fun r1 =>
  some (IntKind.wrap .i64 (shrI .u64 r1.1 (1 : Int)))
noncomputable def vmfleetmake_Mix.sp : FSpec := ⟨[(.int .i64), (.int .i64)], [(.int .i64)], fun x => vmfleetmake_Mix.f x.1 x.2⟩
noncomputable def vmfleetmake_Mix.env : Env := ⟨TYS, [(15, vmfleetref1_Next.sp)], [], [], [], [], []⟩
theorem vmfleetmake_Mix.eq (x) : fnEval vmfleetmake_Mix.env vmfleetmake_Mix.sp.args vmfleetmake_Mix.sp.res Go.Proofs.Try.f12 x = vmfleetmake_Mix.sp.f x := by kernel_rfl
theorem vmfleetmake_Mix.sound : Sound Try.prog 12 vmfleetmake_Mix.sp := Lift.sound (E := vmfleetmake_Mix.env) Try.func12 (by kernel_rfl) (env_okN TYS.ok mixed ⟨vmfleetref1_Next.sound, trivial⟩ trivial trivial) (by kernel_rfl) vmfleetmake_Mix.eq

/-! vmfleet/vmfleetlaw39.demand -/
noncomputable def vmfleetlaw39_demand.f (n : Int) : Option (Int × Int × Int × Int) :=
  (vmfleetmake_Mix.f n (51 : Int)).bind fun r1 =>
  some (andI .i64 r1 (7 : Int), (IntKind.wrap .i64 ((andI .i64 r1 (7 : Int)) + (andI .i64 (shrI .i64 r1 (8 : Int)) (7 : Int)))), (andI .i64 (shrI .i64 r1 (3 : Int)) (7 : Int)), (andI .i64 (shrI .i64 r1 (6 : Int)) (3 : Int)))
noncomputable def vmfleetlaw39_demand.sp : FSpec := ⟨[(.int .i64)], [(.st (.pair (.int .i64) (.pair (.int .i64) (.pair (.int .i64) (.int .i64)))))], fun x => vmfleetlaw39_demand.f x⟩
noncomputable def vmfleetlaw39_demand.env : Env := ⟨TYS, [(12, vmfleetmake_Mix.sp)], [], [], [], [], []⟩
theorem vmfleetlaw39_demand.eq (x) : fnEval vmfleetlaw39_demand.env vmfleetlaw39_demand.sp.args vmfleetlaw39_demand.sp.res Go.Proofs.Try.f6 x = vmfleetlaw39_demand.sp.f x := by kernel_rfl
theorem vmfleetlaw39_demand.sound : Sound Try.prog 6 vmfleetlaw39_demand.sp := Lift.sound (E := vmfleetlaw39_demand.env) Try.func6 (by kernel_rfl) (env_okN TYS.ok mixed ⟨vmfleetmake_Mix.sound, trivial⟩ trivial trivial) (by kernel_rfl) vmfleetlaw39_demand.eq

/-! vmfleet/admission.On -/
noncomputable def admission_On.f (l : List (ByteArray × (Int × Int × Int × Int) × List Int)) (host : Int) : Option (List (Int × Int × Int × Int)) :=
  (loop (Y := (List (Int × Int × Int × Int)) ⊕ (List (Int × Int × Int × Int))) (fun (x1 : (List (Int × Int × Int × Int)) × Int) =>
    bif decide (x1.2 < (l.length : Int)) then
      if 0 ≤ x1.2 ∧ x1.2 < (l.length : Int) then
        (loop (Y := (List (Int × Int × Int × Int)) ⊕ (((List (Int × Int × Int × Int)) × Int) ⊕ ((List (Int × Int × Int × Int)) ⊕ (List (Int × Int × Int × Int))))) (fun (x2 : (List (Int × Int × Int × Int)) × Int) =>
          bif decide (x2.2 < 2) then
            if 0 ≤ x2.2 ∧ x2.2 < (2 : Int) then
              bif decide ((nth (0 : Int) (((nth ((⟨#[]⟩ : ByteArray), ((0 : Int), (0 : Int), (0 : Int), (0 : Int)), List.replicate 2 (0 : Int)) l x1.2).2).2) x2.2) = host) then
                if (x2.1.length + ([((((nth ((⟨#[]⟩ : ByteArray), ((0 : Int), (0 : Int), (0 : Int), (0 : Int)), List.replicate 2 (0 : Int)) l x1.2).2).1).1, ((((nth ((⟨#[]⟩ : ByteArray), ((0 : Int), (0 : Int), (0 : Int), (0 : Int)), List.replicate 2 (0 : Int)) l x1.2).2).1).2).1, (((((nth ((⟨#[]⟩ : ByteArray), ((0 : Int), (0 : Int), (0 : Int), (0 : Int)), List.replicate 2 (0 : Int)) l x1.2).2).1).2).2))] : List (Int × Int × Int × Int)).length) * 32 ≤ 70368744177664 then
                  some (.inl ((x2.1 ++ ([((((nth ((⟨#[]⟩ : ByteArray), ((0 : Int), (0 : Int), (0 : Int), (0 : Int)), List.replicate 2 (0 : Int)) l x1.2).2).1).1, ((((nth ((⟨#[]⟩ : ByteArray), ((0 : Int), (0 : Int), (0 : Int), (0 : Int)), List.replicate 2 (0 : Int)) l x1.2).2).1).2).1, (((((nth ((⟨#[]⟩ : ByteArray), ((0 : Int), (0 : Int), (0 : Int), (0 : Int)), List.replicate 2 (0 : Int)) l x1.2).2).1).2).2))] : List (Int × Int × Int × Int))), IntKind.wrap .i64 (x2.2 + 1)))
                else none
              else
                some (.inl (x2.1, IntKind.wrap .i64 (x2.2 + 1)))
            else none
          else
            some (.inr (.inl x2.1))) (x1.1, (0 : Int))).bind fun o => match o with
        | .inl y3 =>
          some (.inl (y3, IntKind.wrap .i64 (x1.2 + 1)))
        | .inr r => some r
      else none
    else
      some (.inr (.inl x1.1))) ([], (0 : Int))).bind fun o => match o with
  | .inl y4 =>
    some y4
  | .inr r => some r
noncomputable def admission_On.sp : FSpec := ⟨[(.sl (.st (.pair .str (.pair (.st (.pair (.int .i64) (.pair (.int .i64) (.pair (.int .i64) (.int .i64))))) (.arr 2 (.int .i64)))))), (.int .i64)], [(.own (.st (.pair (.int .i64) (.pair (.int .i64) (.pair (.int .i64) (.int .i64))))))], fun x => admission_On.f x.1 x.2⟩
noncomputable def admission_On.env : Env := ⟨TYS, [], [], [(6, ⟨[1, 4, 7, 10, 11, 12, 17], [⟨5, false, (.own (.st (.pair (.int .i64) (.pair (.int .i64) (.pair (.int .i64) (.int .i64))))))⟩, ⟨18, false, (.int .i64)⟩], [⟨5, false, (.own (.st (.pair (.int .i64) (.pair (.int .i64) (.pair (.int .i64) (.int .i64))))))⟩], 2, none⟩), (3, ⟨[1, 4, 10, 11], [⟨5, false, (.own (.st (.pair (.int .i64) (.pair (.int .i64) (.pair (.int .i64) (.int .i64))))))⟩, ⟨12, false, (.int .i64)⟩], [⟨5, false, (.own (.st (.pair (.int .i64) (.pair (.int .i64) (.pair (.int .i64) (.int .i64))))))⟩], 0, none⟩)], [], [], []⟩
theorem admission_On.eq (x) : fnEval admission_On.env admission_On.sp.args admission_On.sp.res Go.Proofs.Try.f9 x = admission_On.sp.f x := by kernel_rfl
theorem admission_On.sound : Sound Try.prog 9 admission_On.sp := Lift.sound (E := admission_On.env) Try.func9 (by kernel_rfl) (env_okN TYS.ok mixed trivial trivial trivial) (by kernel_rfl) admission_On.eq

/-! vmfleet/admission.Survives -/
noncomputable def admission_Survives.f (hosts : List (Int × Int × Bool)) (l : List (ByteArray × (Int × Int × Int × Int) × List Int)) : Option Bool :=
  bif decide ((hosts.length : Int) < 1) then
    some false
  else
    bif decide ((hosts.length : Int) > 6) then
      some false
    else
      bif decide ((l.length : Int) > 8) then
        some false
      else
        (loop (Y := (Unit) ⊕ (Bool)) (fun (x1 : Int) =>
          bif decide (x1 < (l.length : Int)) then
            if 0 ≤ x1 ∧ x1 < (l.length : Int) then
              bif decide ((nth (0 : Int) (((nth ((⟨#[]⟩ : ByteArray), ((0 : Int), (0 : Int), (0 : Int), (0 : Int)), List.replicate 2 (0 : Int)) l x1).2).2) (0 : Int)) = (nth (0 : Int) (((nth ((⟨#[]⟩ : ByteArray), ((0 : Int), (0 : Int), (0 : Int), (0 : Int)), List.replicate 2 (0 : Int)) l x1).2).2) (1 : Int))) then
                some (.inr (.inr false))
              else
                (loop (Y := (Unit) ⊕ ((Int) ⊕ ((Unit) ⊕ (Bool)))) (fun (x2 : Int) =>
                  bif decide (x2 < 2) then
                    if 0 ≤ x2 ∧ x2 < (2 : Int) then
                      bif decide ((nth (0 : Int) (((nth ((⟨#[]⟩ : ByteArray), ((0 : Int), (0 : Int), (0 : Int), (0 : Int)), List.replicate 2 (0 : Int)) l x1).2).2) x2) < 0) then
                        some (.inr (.inr (.inr (.inr false))))
                      else
                        bif (decide ((nth (0 : Int) (((nth ((⟨#[]⟩ : ByteArray), ((0 : Int), (0 : Int), (0 : Int), (0 : Int)), List.replicate 2 (0 : Int)) l x1).2).2) x2) ≥ (hosts.length : Int))) then
                          some (.inr (.inr (.inr (.inr false))))
                        else
                          if 0 ≤ (nth (0 : Int) (((nth ((⟨#[]⟩ : ByteArray), ((0 : Int), (0 : Int), (0 : Int), (0 : Int)), List.replicate 2 (0 : Int)) l x1).2).2) x2) ∧ (nth (0 : Int) (((nth ((⟨#[]⟩ : ByteArray), ((0 : Int), (0 : Int), (0 : Int), (0 : Int)), List.replicate 2 (0 : Int)) l x1).2).2) x2) < (hosts.length : Int) then
                            bif (!(((nth ((0 : Int), (0 : Int), false) hosts (nth (0 : Int) (((nth ((⟨#[]⟩ : ByteArray), ((0 : Int), (0 : Int), (0 : Int), (0 : Int)), List.replicate 2 (0 : Int)) l x1).2).2) x2)).2).2)) then
                              some (.inr (.inr (.inr (.inr false))))
                            else
                              some (.inl (IntKind.wrap .i64 (x2 + 1)))
                          else none
                    else none
                  else
                    some (.inr (.inl ()))) (0 : Int)).bind fun o => match o with
                | .inl y3 =>
                  some (.inl (IntKind.wrap .i64 (x1 + 1)))
                | .inr r => some r
            else none
          else
            some (.inr (.inl ()))) (0 : Int)).bind fun o => match o with
        | .inl y4 =>
          (loop (Y := (Unit) ⊕ (Bool)) (fun (x5 : Int) =>
            bif decide (x5 < (hosts.length : Int)) then
              if 0 ≤ x5 ∧ x5 < (hosts.length : Int) then
                (admission_On.f l x5).bind fun r1 =>
                (admission_Fits.f ((nth ((0 : Int), (0 : Int), false) hosts x5).1, ((nth ((0 : Int), (0 : Int), false) hosts x5).2)) r1).bind fun r2 =>
                bif !r2 then
                  some (.inr (.inr false))
                else
                  some (.inl (IntKind.wrap .i64 (x5 + 1)))
              else none
            else
              some (.inr (.inl ()))) (0 : Int)).bind fun o => match o with
          | .inl y6 =>
            some true
          | .inr r => some r
        | .inr r => some r
noncomputable def admission_Survives.sp : FSpec := ⟨[(.sl (.st (.pair (.int .i64) (.pair (.int .i64) .bool)))), (.sl (.st (.pair .str (.pair (.st (.pair (.int .i64) (.pair (.int .i64) (.pair (.int .i64) (.int .i64))))) (.arr 2 (.int .i64))))))], [.bool], fun x => admission_Survives.f x.1 x.2⟩
noncomputable def admission_Survives.env : Env := ⟨TYS, [(8, admission_Fits.sp), (9, admission_On.sp)], [], [(9, ⟨[0, 1, 24, 25, 26, 38], [⟨39, false, (.int .i64)⟩], [], 2, none⟩), (4, ⟨[0, 1, 24, 25], [⟨26, false, (.int .i64)⟩], [], 0, none⟩), (16, ⟨[1, 60, 61], [⟨62, false, (.int .i64)⟩], [], 4, none⟩)], [], [], []⟩
theorem admission_Survives.eq (x) : fnEval admission_Survives.env admission_Survives.sp.args admission_Survives.sp.res Go.Proofs.Try.f7 x = admission_Survives.sp.f x := by kernel_rfl
theorem admission_Survives.sound : Sound Try.prog 7 admission_Survives.sp := Lift.sound (E := admission_Survives.env) Try.func7 (by kernel_rfl) (env_okN TYS.ok mixed ⟨admission_Fits.sound, admission_On.sound, trivial⟩ trivial trivial) (by kernel_rfl) admission_Survives.eq

/-! vmfleet/vmfleetlaw39.AdmitSurvives -/
noncomputable def vmfleetlaw39_AdmitSurvives.f (hosts : List Int) (l : List Int) (on : List Int) : Option Bool :=
  bif decide ((hosts.length : Int) > 6) then
    (vmfleetlaw39_awake.f).bind fun r1 =>
    some r1
  else
    bif decide ((l.length : Int) > 8) then
      (vmfleetlaw39_awake.f).bind fun r2 =>
      some r2
    else
      bif (decide ((on.length : Int) < (IntKind.wrap .i64 (2 * (l.length : Int))))) then
        (vmfleetlaw39_awake.f).bind fun r3 =>
        some r3
      else
        bif decide ((hosts.length : Int) < 1) then
          (vmfleetlaw39_awake.f).bind fun r4 =>
          some r4
        else
          (loop (Y := (List (Int × Int × Bool)) ⊕ (Bool)) (fun (x1 : (List (Int × Int × Bool)) × Int) =>
            bif decide (x1.2 < (hosts.length : Int)) then
              if 0 ≤ x1.2 ∧ x1.2 < (hosts.length : Int) then
                (vmfleetmake_Round.f (nth (0 : Int) hosts x1.2) (40 : Int)).bind fun r5 =>
                if (x1.1.length + ([(r5, (40 : Int), true)] : List (Int × Int × Bool)).length) * 24 ≤ 70368744177664 then
                  some (.inl ((x1.1 ++ ([(r5, (40 : Int), true)] : List (Int × Int × Bool))), IntKind.wrap .i64 (x1.2 + 1)))
                else none
              else none
            else
              some (.inr (.inl x1.1))) ([], (0 : Int))).bind fun o => match o with
          | .inl y2 =>
            (loop (Y := (List (ByteArray × (Int × Int × Int × Int) × List Int)) ⊕ (Bool)) (fun (x3 : (List (ByteArray × (Int × Int × Int × Int) × List Int)) × Int) =>
              bif decide (x3.2 < (l.length : Int)) then
                if 0 ≤ x3.2 ∧ x3.2 < (l.length : Int) then
                  (vmfleetlaw39_demand.f (nth (0 : Int) l x3.2)).bind fun r6 =>
                  if 0 ≤ (IntKind.wrap .i64 (2 * x3.2)) ∧ (IntKind.wrap .i64 (2 * x3.2)) < (on.length : Int) then
                    (vmfleetmake_Round.f (nth (0 : Int) on (IntKind.wrap .i64 (2 * x3.2))) (y2.length : Int)).bind fun r7 =>
                    let v3 := IntKind.wrap .i64 ((IntKind.wrap .i64 (2 * x3.2)) + 1)
                    if 0 ≤ v3 ∧ v3 < (on.length : Int) then
                      (vmfleetmake_Round.f (nth (0 : Int) on v3) (y2.length : Int)).bind fun r8 =>
                      if (x3.1.length + ([((⟨#[]⟩ : ByteArray), r6, ([r7, r8] : List Int))] : List (ByteArray × (Int × Int × Int × Int) × List Int)).length) * 64 ≤ 70368744177664 then
                        some (.inl ((x3.1 ++ ([((⟨#[]⟩ : ByteArray), r6, ([r7, r8] : List Int))] : List (ByteArray × (Int × Int × Int × Int) × List Int))), IntKind.wrap .i64 (x3.2 + 1)))
                      else none
                    else none
                  else none
                else none
              else
                some (.inr (.inl x3.1))) ([], (0 : Int))).bind fun o => match o with
            | .inl y4 =>
              (admission_Survives.f y2 y4).bind fun r9 =>
              bif !r9 then
                (vmfleetlaw39_awake.f).bind fun r10 =>
                some r10
              else
                (loop (Y := (Unit) ⊕ (Bool)) (fun (x5 : Int) =>
                  bif decide (x5 < (y2.length : Int)) then
                    if (([] : List (Int × Int × Bool)).length + y2.length) * 24 ≤ 70368744177664 then
                      if 0 ≤ x5 ∧ x5 < ((([] : List (Int × Int × Bool)) ++ y2).length : Int) then
                        let v5 := put (([] : List (Int × Int × Bool)) ++ y2) x5 ((nth ((0 : Int), (0 : Int), false) (([] : List (Int × Int × Bool)) ++ y2) x5).1, ((nth ((0 : Int), (0 : Int), false) (([] : List (Int × Int × Bool)) ++ y2) x5).2).1, false)
                        (loop (Y := (Unit) ⊕ ((Int) ⊕ ((Unit) ⊕ (Bool)))) (fun (x6 : Int) =>
                          bif decide (x6 < (y4.length : Int)) then
                            if 0 ≤ x6 ∧ x6 < (y4.length : Int) then
                              if 0 ≤ (nth (0 : Int) (((nth ((⟨#[]⟩ : ByteArray), ((0 : Int), (0 : Int), (0 : Int), (0 : Int)), List.replicate 2 (0 : Int)) y4 x6).2).2) (0 : Int)) ∧ (nth (0 : Int) (((nth ((⟨#[]⟩ : ByteArray), ((0 : Int), (0 : Int), (0 : Int), (0 : Int)), List.replicate 2 (0 : Int)) y4 x6).2).2) (0 : Int)) < (v5.length : Int) then
                                bif !(((nth ((0 : Int), (0 : Int), false) v5 (nth (0 : Int) (((nth ((⟨#[]⟩ : ByteArray), ((0 : Int), (0 : Int), (0 : Int), (0 : Int)), List.replicate 2 (0 : Int)) y4 x6).2).2) (0 : Int))).2).2) then
                                  if 0 ≤ x6 ∧ x6 < (y4.length : Int) then
                                    if 0 ≤ (nth (0 : Int) (((nth ((⟨#[]⟩ : ByteArray), ((0 : Int), (0 : Int), (0 : Int), (0 : Int)), List.replicate 2 (0 : Int)) y4 x6).2).2) (1 : Int)) ∧ (nth (0 : Int) (((nth ((⟨#[]⟩ : ByteArray), ((0 : Int), (0 : Int), (0 : Int), (0 : Int)), List.replicate 2 (0 : Int)) y4 x6).2).2) (1 : Int)) < (v5.length : Int) then
                                      bif (!(((nth ((0 : Int), (0 : Int), false) v5 (nth (0 : Int) (((nth ((⟨#[]⟩ : ByteArray), ((0 : Int), (0 : Int), (0 : Int), (0 : Int)), List.replicate 2 (0 : Int)) y4 x6).2).2) (1 : Int))).2).2)) then
                                        some (.inr (.inr (.inr (.inr false))))
                                      else
                                        some (.inl (IntKind.wrap .i64 (x6 + 1)))
                                    else none
                                  else none
                                else
                                  some (.inl (IntKind.wrap .i64 (x6 + 1)))
                              else none
                            else none
                          else
                            some (.inr (.inl ()))) (0 : Int)).bind fun o => match o with
                        | .inl y7 =>
                          (loop (Y := (Unit) ⊕ ((Int) ⊕ ((Unit) ⊕ (Bool)))) (fun (x8 : Int) =>
                            bif decide (x8 < (y2.length : Int)) then
                              bif !decide (x8 = x5) then
                                if 0 ≤ x8 ∧ x8 < (v5.length : Int) then
                                  (admission_On.f y4 x8).bind fun r11 =>
                                  (admission_Fits.f ((nth ((0 : Int), (0 : Int), false) v5 x8).1, ((nth ((0 : Int), (0 : Int), false) v5 x8).2)) r11).bind fun r12 =>
                                  bif !r12 then
                                    some (.inr (.inr (.inr (.inr false))))
                                  else
                                    some (.inl (IntKind.wrap .i64 (x8 + 1)))
                                else none
                              else
                                some (.inl (IntKind.wrap .i64 (x8 + 1)))
                            else
                              some (.inr (.inl ()))) (0 : Int)).bind fun o => match o with
                          | .inl y9 =>
                            (admission_On.f y4 x5).bind fun r13 =>
                            bif decide ((r13.length : Int) > 0) then
                              (admission_Survives.f v5 y4).bind fun r14 =>
                              bif r14 then
                                some (.inr (.inr false))
                              else
                                some (.inl (IntKind.wrap .i64 (x5 + 1)))
                            else
                              some (.inl (IntKind.wrap .i64 (x5 + 1)))
                          | .inr r => some r
                        | .inr r => some r
                      else none
                    else none
                  else
                    some (.inr (.inl ()))) (0 : Int)).bind fun o => match o with
                | .inl y10 =>
                  (vmfleetlaw39_awake.f).bind fun r15 =>
                  some r15
                | .inr r => some r
            | .inr r => some r
          | .inr r => some r
noncomputable def vmfleetlaw39_AdmitSurvives.sp : FSpec := ⟨[(.sl (.int .i64)), (.sl (.int .i64)), (.sl (.int .i64))], [.bool], fun x => vmfleetlaw39_AdmitSurvives.f x.1 x.2.1 x.2.2⟩
noncomputable def vmfleetlaw39_AdmitSurvives.env : Env := ⟨TYS, [(4, vmfleetlaw39_awake.sp), (5, vmfleetmake_Round.sp), (6, vmfleetlaw39_demand.sp), (7, admission_Survives.sp), (8, admission_Fits.sp), (9, admission_On.sp)], [], [(5, ⟨[0, 1, 2, 6], [⟨7, false, (.own (.st (.pair (.int .i64) (.pair (.int .i64) .bool))))⟩, ⟨8, false, (.int .i64)⟩], [⟨7, false, (.own (.st (.pair (.int .i64) (.pair (.int .i64) .bool))))⟩], 0, none⟩), (10, ⟨[1, 2, 6, 7], [⟨9, false, (.own (.st (.pair .str (.pair (.st (.pair (.int .i64) (.pair (.int .i64) (.pair (.int .i64) (.int .i64))))) (.arr 2 (.int .i64))))))⟩, ⟨10, false, (.int .i64)⟩], [⟨9, false, (.own (.st (.pair .str (.pair (.st (.pair (.int .i64) (.pair (.int .i64) (.pair (.int .i64) (.int .i64))))) (.arr 2 (.int .i64))))))⟩], 2, none⟩), (21, ⟨[7, 9, 11, 12], [⟨13, false, (.int .i64)⟩], [], 6, none⟩), (26, ⟨[7, 9, 11, 12], [⟨14, false, (.int .i64)⟩], [], 8, none⟩), (16, ⟨[7, 9], [⟨11, false, (.int .i64)⟩], [], 4, none⟩)], [], [], []⟩
theorem vmfleetlaw39_AdmitSurvives.eq (x) : fnEval vmfleetlaw39_AdmitSurvives.env vmfleetlaw39_AdmitSurvives.sp.args vmfleetlaw39_AdmitSurvives.sp.res Go.Proofs.Try.f3 x = vmfleetlaw39_AdmitSurvives.sp.f x := by kernel_rfl
theorem vmfleetlaw39_AdmitSurvives.sound : Sound Try.prog 3 vmfleetlaw39_AdmitSurvives.sp := Lift.sound (E := vmfleetlaw39_AdmitSurvives.env) Try.func3 (by kernel_rfl) (env_okN TYS.ok mixed ⟨vmfleetlaw39_awake.sound, vmfleetmake_Round.sound, vmfleetlaw39_demand.sound, admission_Survives.sound, admission_Fits.sound, admission_On.sound, trivial⟩ trivial trivial) (by kernel_rfl) vmfleetlaw39_AdmitSurvives.eq

noncomputable def admission_valid.g (fuel_ : Nat) (c : Int × Int × Bool) (l : List (Int × Int × Int × Int)) : Option Bool :=
  (admission_ValidHost.f c).bind fun r1 =>
  bif !r1 then
    some false
  else
    bif decide ((l.length : Int) > 16) then
      some false
    else
      (loopF fuel_ (Y := (Unit) ⊕ (Bool)) (fun (x1 : Int) =>
        bif decide (x1 < (l.length : Int)) then
          if 0 ≤ x1 ∧ x1 < (l.length : Int) then
            (admission_ValidDemand.f ((nth ((0 : Int), (0 : Int), (0 : Int), (0 : Int)) l x1).1, ((nth ((0 : Int), (0 : Int), (0 : Int), (0 : Int)) l x1).2).1, (((nth ((0 : Int), (0 : Int), (0 : Int), (0 : Int)) l x1).2).2))).bind fun r2 =>
            bif !r2 then
              some (.inr (.inr false))
            else
              some (.inl (IntKind.wrap .i64 (x1 + 1)))
          else none
        else
          some (.inr (.inl ()))) (0 : Int)).bind fun o => match o with
      | .inl y2 =>
        some true
      | .inr r => some r
theorem admission_valid.mono (fuel_ : Nat) (c : Int × Int × Bool) (l : List (Int × Int × Int × Int)) : Le (admission_valid.g fuel_ c l) (admission_valid.f c l) := by
  unfold admission_valid.g admission_valid.f
  repeat' (first | with_reducible exact Le.refl _ | with_reducible refine Le.bind ?_ ?_ | with_reducible refine Le.cond ?_ ?_ | with_reducible refine Le.ite ?_ ?_ | with_reducible refine Le.bothD ?_ ?_ | with_reducible refine Le.loop ?_ _ | (intro o; rcases o with y | r <;> try dsimp only) | (intro _; show Le _ _) | dsimp only)
noncomputable def admission_Free.g (fuel_ : Nat) (c : Int × Int × Bool) (l : List (Int × Int × Int × Int)) : Option (Int × Int) :=
  (admission_valid.g fuel_ c l).bind fun r1 =>
  bif !r1 then
    some ((0 : Int), (0 : Int))
  else
    (loopF fuel_ (Y := (Int × Int) ⊕ (Int × Int)) (fun (x1 : Int × Int × Int) =>
      bif decide (x1.2.2 < (l.length : Int)) then
        if 0 ≤ x1.2.2 ∧ x1.2.2 < (l.length : Int) then
          some (.inl ((IntKind.wrap .i64 (x1.1 - ((nth ((0 : Int), (0 : Int), (0 : Int), (0 : Int)) l x1.2.2).1))), (IntKind.wrap .i64 (x1.2.1 - ((((nth ((0 : Int), (0 : Int), (0 : Int), (0 : Int)) l x1.2.2).2).2).1))), IntKind.wrap .i64 (x1.2.2 + 1)))
        else none
      else
        some (.inr (.inl (x1.1, x1.2.1)))) (c.1, c.2.1, (0 : Int))).bind fun o => match o with
    | .inl y2 =>
      some y2
    | .inr r => some r
theorem admission_Free.mono (fuel_ : Nat) (c : Int × Int × Bool) (l : List (Int × Int × Int × Int)) : Le (admission_Free.g fuel_ c l) (admission_Free.f c l) := by
  unfold admission_Free.g admission_Free.f
  repeat' (first | with_reducible exact Le.refl _ | with_reducible exact admission_valid.mono _ _ _ | with_reducible refine Le.bind ?_ ?_ | with_reducible refine Le.cond ?_ ?_ | with_reducible refine Le.ite ?_ ?_ | with_reducible refine Le.bothD ?_ ?_ | with_reducible refine Le.loop ?_ _ | (intro o; rcases o with y | r <;> try dsimp only) | (intro _; show Le _ _) | dsimp only)
noncomputable def admission_Admit.g (fuel_ : Nat) (c : Int × Int × Bool) (l : List (Int × Int × Int × Int)) (d : Int × Int × Int × Int) : Option Int :=
  (admission_valid.g fuel_ c l).bind fun r1 =>
  bif !r1 then
    some (3900 : Int)
  else
    (admission_ValidDemand.f d).bind fun r2 =>
    bif !r2 then
      some (3900 : Int)
    else
      (admission_Free.g fuel_ c l).bind fun r3 =>
      bif !c.2.2 then
        some (3904 : Int)
      else
        bif decide (r3.1 < d.1) then
          some (3901 : Int)
        else
          bif decide (r3.2 < d.2.2.1) then
            some (3902 : Int)
          else
            (loopF fuel_ (Y := (Unit) ⊕ (Int)) (fun (x1 : Int) =>
              bif decide (x1 < (l.length : Int)) then
                if 0 ≤ x1 ∧ x1 < (l.length : Int) then
                  bif !decide (d.2.2.2 = 0) then
                    bif (decide (((((nth ((0 : Int), (0 : Int), (0 : Int), (0 : Int)) l x1).2).2).2) = d.2.2.2)) then
                      some (.inr (.inr (3903 : Int)))
                    else
                      some (.inl (IntKind.wrap .i64 (x1 + 1)))
                  else
                    some (.inl (IntKind.wrap .i64 (x1 + 1)))
                else none
              else
                some (.inr (.inl ()))) (0 : Int)).bind fun o => match o with
            | .inl y2 =>
              some (0 : Int)
            | .inr r => some r
theorem admission_Admit.mono (fuel_ : Nat) (c : Int × Int × Bool) (l : List (Int × Int × Int × Int)) (d : Int × Int × Int × Int) : Le (admission_Admit.g fuel_ c l d) (admission_Admit.f c l d) := by
  unfold admission_Admit.g admission_Admit.f
  repeat' (first | with_reducible exact Le.refl _ | with_reducible exact admission_Free.mono _ _ _ | with_reducible exact admission_valid.mono _ _ _ | with_reducible refine Le.bind ?_ ?_ | with_reducible refine Le.cond ?_ ?_ | with_reducible refine Le.ite ?_ ?_ | with_reducible refine Le.bothD ?_ ?_ | with_reducible refine Le.loop ?_ _ | (intro o; rcases o with y | r <;> try dsimp only) | (intro _; show Le _ _) | dsimp only)
noncomputable def admission_Fits.g (fuel_ : Nat) (c : Int × Int × Bool) (l : List (Int × Int × Int × Int)) : Option Bool :=
  (loopF fuel_ (Y := (Unit) ⊕ (Bool)) (fun (x1 : Int) =>
    bif decide (x1 < (l.length : Int)) then
      if 0 ≤ x1 ∧ x1 < (l.length : Int) then
        if 0 ≤ x1 ∧ x1 ≤ (l.length : Int) then
          (admission_Admit.g fuel_ c (slc l (0 : Int) x1) ((nth ((0 : Int), (0 : Int), (0 : Int), (0 : Int)) l x1).1, ((nth ((0 : Int), (0 : Int), (0 : Int), (0 : Int)) l x1).2).1, (((nth ((0 : Int), (0 : Int), (0 : Int), (0 : Int)) l x1).2).2))).bind fun r1 =>
          bif !decide (r1 = 0) then
            some (.inr (.inr false))
          else
            some (.inl (IntKind.wrap .i64 (x1 + 1)))
        else none
      else none
    else
      some (.inr (.inl ()))) (0 : Int)).bind fun o => match o with
  | .inl y2 =>
    some true
  | .inr r => some r
theorem admission_Fits.mono (fuel_ : Nat) (c : Int × Int × Bool) (l : List (Int × Int × Int × Int)) : Le (admission_Fits.g fuel_ c l) (admission_Fits.f c l) := by
  unfold admission_Fits.g admission_Fits.f
  repeat' (first | with_reducible exact Le.refl _ | with_reducible exact admission_Admit.mono _ _ _ _ | with_reducible refine Le.bind ?_ ?_ | with_reducible refine Le.cond ?_ ?_ | with_reducible refine Le.ite ?_ ?_ | with_reducible refine Le.bothD ?_ ?_ | with_reducible refine Le.loop ?_ _ | (intro o; rcases o with y | r <;> try dsimp only) | (intro _; show Le _ _) | dsimp only)
noncomputable def vmfleetlaw39_awake.g (fuel_ : Nat)  : Option Bool :=
  (admission_Free.g fuel_ ((10 : Int), (10 : Int), true) ([((6 : Int), (8 : Int), (5 : Int), (1 : Int))] : List (Int × Int × Int × Int))).bind fun r1 =>
  (admission_Admit.g fuel_ ((10 : Int), (10 : Int), true) [] ((6 : Int), (8 : Int), (5 : Int), (1 : Int))).bind fun r2 =>
  bif decide (r2 = 0) then
    (admission_Admit.g fuel_ ((10 : Int), (10 : Int), true) ([((6 : Int), (8 : Int), (5 : Int), (1 : Int))] : List (Int × Int × Int × Int)) ((6 : Int), (8 : Int), (5 : Int), (1 : Int))).bind fun r3 =>
    bif decide (r3 = 3901) then
      (admission_Admit.g fuel_ ((10 : Int), (10 : Int), true) ([((6 : Int), (8 : Int), (5 : Int), (1 : Int))] : List (Int × Int × Int × Int)) ((4 : Int), (8 : Int), (5 : Int), (1 : Int))).bind fun r4 =>
      bif decide (r4 = 3903) then
        bif decide (r1.1 = 4) then
          bif decide (r1.2 = 5) then
            (admission_Fits.g fuel_ ((10 : Int), (10 : Int), true) ([((6 : Int), (8 : Int), (5 : Int), (1 : Int))] : List (Int × Int × Int × Int))).bind fun r5 =>
            bif r5 then
              (admission_Fits.g fuel_ ((10 : Int), (10 : Int), true) ([((6 : Int), (8 : Int), (5 : Int), (1 : Int)), ((6 : Int), (8 : Int), (5 : Int), (1 : Int))] : List (Int × Int × Int × Int))).bind fun r6 =>
              some (!r6)
            else
              some false
          else
            some false
        else
          some false
      else
        some false
    else
      some false
  else
    some false
theorem vmfleetlaw39_awake.mono (fuel_ : Nat)  : Le (vmfleetlaw39_awake.g fuel_) (vmfleetlaw39_awake.f) := by
  unfold vmfleetlaw39_awake.g vmfleetlaw39_awake.f
  repeat' (first | with_reducible exact Le.refl _ | with_reducible exact admission_Fits.mono _ _ _ | with_reducible exact admission_Free.mono _ _ _ | with_reducible exact admission_Admit.mono _ _ _ _ | with_reducible refine Le.bind ?_ ?_ | with_reducible refine Le.cond ?_ ?_ | with_reducible refine Le.ite ?_ ?_ | with_reducible refine Le.bothD ?_ ?_ | with_reducible refine Le.loop ?_ _ | (intro o; rcases o with y | r <;> try dsimp only) | (intro _; show Le _ _) | dsimp only)
theorem vmfleetlaw39_awake.ok : vmfleetlaw39_awake.f = some true := vmfleetlaw39_awake.mono 5000 true (by kernel_rfl)
end Go.Proofs.Ytacmfiddaklkiab.Fn
