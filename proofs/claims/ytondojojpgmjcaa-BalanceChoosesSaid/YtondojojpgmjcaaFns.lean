/- The functions that the laws of this seat reach, each as a plain Lean function, with the proof that the loaded code computes it. -/
import Derived.Test.YtondojojpgmjcaaLLaw
import Derived.Test.YtondojojpgmjcaaLPure
import Derived.Test.YtondojojpgmjcaaProg
import Derived.Test.YtondojojpgmjcaaChecked
import Derived.Test.YtondojojpgmjcaaExtGrow49
import Derived.Test.YtondojojpgmjcaaExtGrow50
set_option maxRecDepth 100000
set_option linter.unusedVariables false
namespace Go.Proofs.Ytondojojpgmjcaa.Fn
open Go Lift
def TYS : List (Nat × TI) := [(3, ⟨(.int .i64), 0⟩), (4, ⟨.bool, 0⟩), (22, ⟨(.sl (.int .i64)), 8⟩), (24, ⟨(.sl (.st (.pair (.int .i64) (.pair (.int .i64) .bool)))), 24⟩), (25, ⟨(.sl (.st (.pair (.int .i64) (.pair (.int .i64) (.pair (.int .i64) (.int .i64)))))), 32⟩), (33, ⟨(.sl (.st (.pair (.int .i64) (.pair (.int .i64) (.int .i64))))), 24⟩), (37, ⟨(.st (.pair (.int .i64) (.pair (.int .i64) (.int .i64)))), 0⟩), (43, ⟨(.st (.pair (.int .i64) (.pair (.int .i64) (.pair (.int .i64) (.int .i64))))), 0⟩), (47, ⟨(.st (.pair (.int .i64) (.pair (.int .i64) .bool))), 0⟩), (48, ⟨(.int .i64), 0⟩), (72, ⟨(.int .u64), 0⟩), (75, ⟨(.sl (.sl (.st (.pair (.int .i64) (.pair (.int .i64) (.pair (.int .i64) (.int .i64))))))), 24⟩), (77, ⟨(.sl (.sl (.int .i64))), 24⟩)]
theorem TYS.ok : tysB Try.prog TYS = true := by kernel_rfl
theorem mixed : Try.prog.follows .mixedOrders = true := Checked.mixed Try.checked

/-! vmfleet/balance.guests -/
noncomputable def balance_guests.f (l : List (Int × Int × Int × Int)) (on : List Int) (host : Int) : Option (List (Int × Int × Int × Int)) :=
  (loop (Y := (List (Int × Int × Int × Int)) ⊕ (List (Int × Int × Int × Int))) (fun (x1 : (List (Int × Int × Int × Int)) × Int) =>
    bif decide (x1.2 < (l.length : Int)) then
      if 0 ≤ x1.2 ∧ x1.2 < (l.length : Int) then
        if 0 ≤ x1.2 ∧ x1.2 < (on.length : Int) then
          bif decide ((nth (0 : Int) on x1.2) = host) then
            if (x1.1.length + ([((nth ((0 : Int), (0 : Int), (0 : Int), (0 : Int)) l x1.2).1, ((nth ((0 : Int), (0 : Int), (0 : Int), (0 : Int)) l x1.2).2).1, (((nth ((0 : Int), (0 : Int), (0 : Int), (0 : Int)) l x1.2).2).2))] : List (Int × Int × Int × Int)).length) * 32 ≤ 70368744177664 then
              some (.inl ((x1.1 ++ ([((nth ((0 : Int), (0 : Int), (0 : Int), (0 : Int)) l x1.2).1, ((nth ((0 : Int), (0 : Int), (0 : Int), (0 : Int)) l x1.2).2).1, (((nth ((0 : Int), (0 : Int), (0 : Int), (0 : Int)) l x1.2).2).2))] : List (Int × Int × Int × Int))), IntKind.wrap .i64 (x1.2 + 1)))
            else none
          else
            some (.inl (x1.1, IntKind.wrap .i64 (x1.2 + 1)))
        else none
      else none
    else
      some (.inr (.inl x1.1))) ([], (0 : Int))).bind fun o => match o with
  | .inl y2 =>
    some y2
  | .inr r => some r
noncomputable def balance_guests.sp : FSpec := ⟨[(.sl (.st (.pair (.int .i64) (.pair (.int .i64) (.pair (.int .i64) (.int .i64)))))), (.sl (.int .i64)), (.int .i64)], [(.own (.st (.pair (.int .i64) (.pair (.int .i64) (.pair (.int .i64) (.int .i64))))))], fun x => balance_guests.f x.1 x.2.1 x.2.2⟩
noncomputable def balance_guests.env : Env := ⟨TYS, [], [], [(3, ⟨[1, 2, 6, 10, 11], [⟨7, false, (.own (.st (.pair (.int .i64) (.pair (.int .i64) (.pair (.int .i64) (.int .i64))))))⟩, ⟨12, false, (.int .i64)⟩], [⟨7, false, (.own (.st (.pair (.int .i64) (.pair (.int .i64) (.pair (.int .i64) (.int .i64))))))⟩], 0, none⟩)], [], [], []⟩
theorem balance_guests.eq (x) : fnEval balance_guests.env balance_guests.sp.args balance_guests.sp.res Go.Proofs.Try.f33 x = balance_guests.sp.f x := by kernel_rfl
theorem balance_guests.sound : Sound Try.prog 33 balance_guests.sp := Lift.sound (E := balance_guests.env) Try.func33 (by kernel_rfl) (env_okN TYS.ok mixed trivial trivial trivial) (by kernel_rfl) balance_guests.eq

/-! vmfleet/admission.unit -/
noncomputable def admission_unit.f (n : Int) : Option Bool :=
  bif decide (n ≥ 0) then
    some (decide (n ≤ 1000000))
  else
    some false
noncomputable def admission_unit.sp : FSpec := ⟨[(.int .i64)], [.bool], fun x => admission_unit.f x⟩
noncomputable def admission_unit.env : Env := ⟨TYS, [], [], [], [], [], []⟩
theorem admission_unit.eq (x) : fnEval admission_unit.env admission_unit.sp.args admission_unit.sp.res Go.Proofs.Try.f52 x = admission_unit.sp.f x := by kernel_rfl
theorem admission_unit.sound : Sound Try.prog 52 admission_unit.sp := Lift.sound (E := admission_unit.env) Try.func52 (by kernel_rfl) (env_okN TYS.ok mixed trivial trivial trivial) (by kernel_rfl) admission_unit.eq

/-! vmfleet/admission.ValidHost -/
noncomputable def admission_ValidHost.f (c : Int × Int × Bool) : Option Bool :=
  (admission_unit.f c.1).bind fun r1 =>
  bif r1 then
    (admission_unit.f c.2.1).bind fun r2 =>
    some r2
  else
    some false
noncomputable def admission_ValidHost.sp : FSpec := ⟨[(.st (.pair (.int .i64) (.pair (.int .i64) .bool)))], [.bool], fun x => admission_ValidHost.f x⟩
noncomputable def admission_ValidHost.env : Env := ⟨TYS, [(52, admission_unit.sp)], [], [], [], [], []⟩
theorem admission_ValidHost.eq (x) : fnEval admission_ValidHost.env admission_ValidHost.sp.args admission_ValidHost.sp.res Go.Proofs.Try.f47 x = admission_ValidHost.sp.f x := by kernel_rfl
theorem admission_ValidHost.sound : Sound Try.prog 47 admission_ValidHost.sp := Lift.sound (E := admission_ValidHost.env) Try.func47 (by kernel_rfl) (env_okN TYS.ok mixed ⟨admission_unit.sound, trivial⟩ trivial trivial) (by kernel_rfl) admission_ValidHost.eq

/-! vmfleet/admission.ValidDemand -/
noncomputable def admission_ValidDemand.f (d : Int × Int × Int × Int) : Option Bool :=
  bif decide (d.1 ≥ 0) then
    bif decide (d.1 ≤ d.2.1) then
      (admission_unit.f d.2.1).bind fun r1 =>
      bif r1 then
        (admission_unit.f d.2.2.1).bind fun r2 =>
        bif r2 then
          some (decide (d.2.2.2 ≥ 0))
        else
          some false
      else
        some false
    else
      some false
  else
    some false
noncomputable def admission_ValidDemand.sp : FSpec := ⟨[(.st (.pair (.int .i64) (.pair (.int .i64) (.pair (.int .i64) (.int .i64)))))], [.bool], fun x => admission_ValidDemand.f x⟩
noncomputable def admission_ValidDemand.env : Env := ⟨TYS, [(52, admission_unit.sp)], [], [], [], [], []⟩
theorem admission_ValidDemand.eq (x) : fnEval admission_ValidDemand.env admission_ValidDemand.sp.args admission_ValidDemand.sp.res Go.Proofs.Try.f36 x = admission_ValidDemand.sp.f x := by kernel_rfl
theorem admission_ValidDemand.sound : Sound Try.prog 36 admission_ValidDemand.sp := Lift.sound (E := admission_ValidDemand.env) Try.func36 (by kernel_rfl) (env_okN TYS.ok mixed ⟨admission_unit.sound, trivial⟩ trivial trivial) (by kernel_rfl) admission_ValidDemand.eq

/-! vmfleet/admission.valid -/
noncomputable def admission_valid.f (c : Int × Int × Bool) (l : List (Int × Int × Int × Int)) : Option Bool :=
  (admission_ValidHost.f c).bind fun r1 =>
  bif !r1 then
    some false
  else
    bif decide ((l.length : Int) > 16) then
      some false
    else
      (loop (Y := (Unit) ⊕ (Bool)) (fun (x1 : Int) =>
        bif decide (x1 < (l.length : Int)) then
          if 0 ≤ x1 ∧ x1 < (l.length : Int) then
            (admission_ValidDemand.f ((nth ((0 : Int), (0 : Int), (0 : Int), (0 : Int)) l x1).1, ((nth ((0 : Int), (0 : Int), (0 : Int), (0 : Int)) l x1).2).1, (((nth ((0 : Int), (0 : Int), (0 : Int), (0 : Int)) l x1).2).2))).bind fun r2 =>
            bif !r2 then
              some (.inr (.inr false))
            else
              some (.inl (IntKind.wrap .i64 (x1 + 1)))
          else none
        else
          some (.inr (.inl ()))) (0 : Int)).bind fun o => match o with
      | .inl y2 =>
        some true
      | .inr r => some r
noncomputable def admission_valid.sp : FSpec := ⟨[(.st (.pair (.int .i64) (.pair (.int .i64) .bool))), (.sl (.st (.pair (.int .i64) (.pair (.int .i64) (.pair (.int .i64) (.int .i64))))))], [.bool], fun x => admission_valid.f x.1 x.2⟩
noncomputable def admission_valid.env : Env := ⟨TYS, [(36, admission_ValidDemand.sp), (47, admission_ValidHost.sp)], [], [(4, ⟨[15, 16], [⟨17, false, (.int .i64)⟩], [], 0, none⟩)], [], [], []⟩
theorem admission_valid.eq (x) : fnEval admission_valid.env admission_valid.sp.args admission_valid.sp.res Go.Proofs.Try.f35 x = admission_valid.sp.f x := by kernel_rfl
theorem admission_valid.sound : Sound Try.prog 35 admission_valid.sp := Lift.sound (E := admission_valid.env) Try.func35 (by kernel_rfl) (env_okN TYS.ok mixed ⟨admission_ValidDemand.sound, admission_ValidHost.sound, trivial⟩ trivial trivial) (by kernel_rfl) admission_valid.eq

/-! vmfleet/admission.Free -/
noncomputable def admission_Free.f (c : Int × Int × Bool) (l : List (Int × Int × Int × Int)) : Option (Int × Int) :=
  (admission_valid.f c l).bind fun r1 =>
  bif !r1 then
    some ((0 : Int), (0 : Int))
  else
    (loop (Y := (Int × Int) ⊕ (Int × Int)) (fun (x1 : Int × Int × Int) =>
      bif decide (x1.2.2 < (l.length : Int)) then
        if 0 ≤ x1.2.2 ∧ x1.2.2 < (l.length : Int) then
          some (.inl ((IntKind.wrap .i64 (x1.1 - ((nth ((0 : Int), (0 : Int), (0 : Int), (0 : Int)) l x1.2.2).1))), (IntKind.wrap .i64 (x1.2.1 - ((((nth ((0 : Int), (0 : Int), (0 : Int), (0 : Int)) l x1.2.2).2).2).1))), IntKind.wrap .i64 (x1.2.2 + 1)))
        else none
      else
        some (.inr (.inl (x1.1, x1.2.1)))) (c.1, c.2.1, (0 : Int))).bind fun o => match o with
    | .inl y2 =>
      some y2
    | .inr r => some r
noncomputable def admission_Free.sp : FSpec := ⟨[(.st (.pair (.int .i64) (.pair (.int .i64) .bool))), (.sl (.st (.pair (.int .i64) (.pair (.int .i64) (.pair (.int .i64) (.int .i64))))))], [(.int .i64), (.int .i64)], fun x => admission_Free.f x.1 x.2⟩
noncomputable def admission_Free.env : Env := ⟨TYS, [(35, admission_valid.sp)], [], [(5, ⟨[4, 5, 18, 19], [⟨6, false, (.int .i64)⟩, ⟨7, false, (.int .i64)⟩, ⟨20, false, (.int .i64)⟩], [⟨6, false, (.int .i64)⟩, ⟨7, false, (.int .i64)⟩], 0, none⟩)], [], [], []⟩
theorem admission_Free.eq (x) : fnEval admission_Free.env admission_Free.sp.args admission_Free.sp.res Go.Proofs.Try.f17 x = admission_Free.sp.f x := by kernel_rfl
theorem admission_Free.sound : Sound Try.prog 17 admission_Free.sp := Lift.sound (E := admission_Free.env) Try.func17 (by kernel_rfl) (env_okN TYS.ok mixed ⟨admission_valid.sound, trivial⟩ trivial trivial) (by kernel_rfl) admission_Free.eq

/-! vmfleet/admission.Admit -/
noncomputable def admission_Admit.f (c : Int × Int × Bool) (l : List (Int × Int × Int × Int)) (d : Int × Int × Int × Int) : Option Int :=
  (admission_valid.f c l).bind fun r1 =>
  bif !r1 then
    some (3900 : Int)
  else
    (admission_ValidDemand.f d).bind fun r2 =>
    bif !r2 then
      some (3900 : Int)
    else
      (admission_Free.f c l).bind fun r3 =>
      bif !c.2.2 then
        some (3904 : Int)
      else
        bif decide (r3.1 < d.1) then
          some (3901 : Int)
        else
          bif decide (r3.2 < d.2.2.1) then
            some (3902 : Int)
          else
            (loop (Y := (Unit) ⊕ (Int)) (fun (x1 : Int) =>
              bif decide (x1 < (l.length : Int)) then
                if 0 ≤ x1 ∧ x1 < (l.length : Int) then
                  bif !decide (d.2.2.2 = 0) then
                    bif (decide (((((nth ((0 : Int), (0 : Int), (0 : Int), (0 : Int)) l x1).2).2).2) = d.2.2.2)) then
                      some (.inr (.inr (3903 : Int)))
                    else
                      some (.inl (IntKind.wrap .i64 (x1 + 1)))
                  else
                    some (.inl (IntKind.wrap .i64 (x1 + 1)))
                else none
              else
                some (.inr (.inl ()))) (0 : Int)).bind fun o => match o with
            | .inl y2 =>
              some (0 : Int)
            | .inr r => some r
noncomputable def admission_Admit.sp : FSpec := ⟨[(.st (.pair (.int .i64) (.pair (.int .i64) .bool))), (.sl (.st (.pair (.int .i64) (.pair (.int .i64) (.pair (.int .i64) (.int .i64)))))), (.st (.pair (.int .i64) (.pair (.int .i64) (.pair (.int .i64) (.int .i64)))))], [(.int .i64)], fun x => admission_Admit.f x.1 x.2.1 x.2.2⟩
noncomputable def admission_Admit.env : Env := ⟨TYS, [(17, admission_Free.sp), (35, admission_valid.sp), (36, admission_ValidDemand.sp)], [], [(11, ⟨[5, 40, 41], [⟨42, false, (.int .i64)⟩], [], 1, none⟩)], [], [], []⟩
theorem admission_Admit.eq (x) : fnEval admission_Admit.env admission_Admit.sp.args admission_Admit.sp.res Go.Proofs.Try.f18 x = admission_Admit.sp.f x := by kernel_rfl
theorem admission_Admit.sound : Sound Try.prog 18 admission_Admit.sp := Lift.sound (E := admission_Admit.env) Try.func18 (by kernel_rfl) (env_okN TYS.ok mixed ⟨admission_Free.sound, admission_valid.sound, admission_ValidDemand.sound, trivial⟩ trivial trivial) (by kernel_rfl) admission_Admit.eq

/-! slices.Clone[[]int,int] -/
noncomputable def slices_Clone_int_int.f (s : List Int) : Option (List Int) :=
  bif s.isEmpty then
    both
      (some [])
      (if (([] : List Int).length + s.length) * 8 ≤ 70368744177664 then
        some (([] : List Int) ++ s)
      else none)
  else
    if (([] : List Int).length + s.length) * 8 ≤ 70368744177664 then
      some (([] : List Int) ++ s)
    else none
noncomputable def slices_Clone_int_int.sp : FSpec := ⟨[(.sl (.int .i64))], [(.own (.int .i64))], fun x => slices_Clone_int_int.f x⟩
noncomputable def slices_Clone_int_int.env : Env := ⟨TYS, [], [], [], [], [], []⟩
theorem slices_Clone_int_int.eq (x) : fnEval slices_Clone_int_int.env slices_Clone_int_int.sp.args slices_Clone_int_int.sp.res Go.Proofs.Try.f30 x = slices_Clone_int_int.sp.f x := by kernel_rfl
theorem slices_Clone_int_int.sound : Sound Try.prog 30 slices_Clone_int_int.sp := Lift.sound (E := slices_Clone_int_int.env) Try.func30 (by kernel_rfl) (env_okN TYS.ok mixed trivial trivial trivial) (by kernel_rfl) slices_Clone_int_int.eq

/-! vmfleet/balance.extend -/
noncomputable def balance_extend.rc : Nat → ((List (Int × Int × Bool)) → (List (Int × Int × Int × Int)) → List Int → Option (List Int × Bool)) := Nat.rec (fun _ _ _ => none) (fun _ self_ => fun hosts l on =>
  bif decide ((on.length : Int) = (l.length : Int)) then
    some (on, true)
  else
    (loop (Y := (Unit) ⊕ (List Int × Bool)) (fun (x1 : Int) =>
      bif decide (x1 < (hosts.length : Int)) then
        if 0 ≤ x1 ∧ x1 < (hosts.length : Int) then
          if 0 ≤ (on.length : Int) ∧ (on.length : Int) ≤ (l.length : Int) then
            (balance_guests.f (slc l (0 : Int) (on.length : Int)) on x1).bind fun r1 =>
            if 0 ≤ (on.length : Int) ∧ (on.length : Int) < (l.length : Int) then
              (admission_Admit.f ((nth ((0 : Int), (0 : Int), false) hosts x1).1, ((nth ((0 : Int), (0 : Int), false) hosts x1).2)) r1 ((nth ((0 : Int), (0 : Int), (0 : Int), (0 : Int)) l (on.length : Int)).1, ((nth ((0 : Int), (0 : Int), (0 : Int), (0 : Int)) l (on.length : Int)).2).1, (((nth ((0 : Int), (0 : Int), (0 : Int), (0 : Int)) l (on.length : Int)).2).2))).bind fun r2 =>
              bif !decide (r2 = 0) then
                some (.inl (IntKind.wrap .i64 (x1 + 1)))
              else
                (slices_Clone_int_int.f on).bind fun r3 =>
                if (r3.length + ([x1] : List Int).length) * 8 ≤ 70368744177664 then
                  (self_ hosts l (r3 ++ ([x1] : List Int))).bind fun r4 =>
                  bif r4.2 then
                    some (.inr (.inr (r4.1, true)))
                  else
                    some (.inl (IntKind.wrap .i64 (x1 + 1)))
                else none
            else none
          else none
        else none
      else
        some (.inr (.inl ()))) (0 : Int)).bind fun o => match o with
    | .inl y2 =>
      some ([], false)
    | .inr r => some r)
noncomputable def balance_extend.f (hosts : List (Int × Int × Bool)) (l : List (Int × Int × Int × Int)) (on : List Int) : Option (List Int × Bool) := balance_extend.rc 12 hosts l on
noncomputable def balance_extend.spN (n_ : Nat) : FSpec := ⟨[(.sl (.st (.pair (.int .i64) (.pair (.int .i64) .bool)))), (.sl (.st (.pair (.int .i64) (.pair (.int .i64) (.pair (.int .i64) (.int .i64)))))), (.sl (.int .i64))], [(.sl (.int .i64)), .bool], fun x => balance_extend.rc n_ x.1 x.2.1 x.2.2⟩
noncomputable def balance_extend.sp : FSpec := ⟨[(.sl (.st (.pair (.int .i64) (.pair (.int .i64) .bool)))), (.sl (.st (.pair (.int .i64) (.pair (.int .i64) (.pair (.int .i64) (.int .i64)))))), (.sl (.int .i64))], [(.sl (.int .i64)), .bool], fun x => balance_extend.f x.1 x.2.1 x.2.2⟩
noncomputable def balance_extend.env (n_ : Nat) : Env := ⟨TYS, [(27, balance_extend.spN n_), (18, admission_Admit.sp), (30, slices_Clone_int_int.sp), (33, balance_guests.sp)], [], [(5, ⟨[0, 1, 2, 8, 20, 21], [⟨22, false, (.int .i64)⟩], [], 0, none⟩)], [], [], []⟩
theorem balance_extend.eq (n_ : Nat) (x) : fnEval (balance_extend.env n_) (balance_extend.spN 0).args (balance_extend.spN 0).res Go.Proofs.Try.f27 x = (balance_extend.spN (n_ + 1)).f x := by kernel_rfl
theorem balance_extend.soundN : ∀ n_, Sound Try.prog 27 (balance_extend.spN n_)
  | 0 => Lift.sound_none Try.func27 (by kernel_rfl) (by kernel_rfl) (fun _ => rfl)
  | n_ + 1 =>
    have ih := balance_extend.soundN n_
    Lift.sound (s := balance_extend.spN (n_ + 1)) (E := balance_extend.env n_) Try.func27 (by kernel_rfl) (env_ok TYS.ok mixed ⟨ih, admission_Admit.sound, slices_Clone_int_int.sound, balance_guests.sound, trivial⟩ trivial) (by kernel_rfl) (balance_extend.eq n_)
theorem balance_extend.sound : Sound Try.prog 27 balance_extend.sp := balance_extend.soundN 12

/-! vmfleet/balance.Assign -/
noncomputable def balance_Assign.f (hosts : List (Int × Int × Bool)) (l : List (Int × Int × Int × Int)) : Option (List Int × Bool) :=
  bif decide ((hosts.length : Int) < 1) then
    some ([], false)
  else
    bif decide ((hosts.length : Int) > 6) then
      some ([], false)
    else
      bif decide ((l.length : Int) > 8) then
        some ([], false)
      else
        (balance_extend.f hosts l []).bind fun r1 =>
        some r1
noncomputable def balance_Assign.sp : FSpec := ⟨[(.sl (.st (.pair (.int .i64) (.pair (.int .i64) .bool)))), (.sl (.st (.pair (.int .i64) (.pair (.int .i64) (.pair (.int .i64) (.int .i64))))))], [(.sl (.int .i64)), .bool], fun x => balance_Assign.f x.1 x.2⟩
noncomputable def balance_Assign.env : Env := ⟨TYS, [(27, balance_extend.sp)], [], [], [], [], []⟩
theorem balance_Assign.eq (x) : fnEval balance_Assign.env balance_Assign.sp.args balance_Assign.sp.res Go.Proofs.Try.f11 x = balance_Assign.sp.f x := by kernel_rfl
theorem balance_Assign.sound : Sound Try.prog 11 balance_Assign.sp := Lift.sound (E := balance_Assign.env) Try.func11 (by kernel_rfl) (env_okN TYS.ok mixed ⟨balance_extend.sound, trivial⟩ trivial trivial) (by kernel_rfl) balance_Assign.eq

/-! vmfleet/admission.Fits -/
noncomputable def admission_Fits.f (c : Int × Int × Bool) (l : List (Int × Int × Int × Int)) : Option Bool :=
  (loop (Y := (Unit) ⊕ (Bool)) (fun (x1 : Int) =>
    bif decide (x1 < (l.length : Int)) then
      if 0 ≤ x1 ∧ x1 < (l.length : Int) then
        if 0 ≤ x1 ∧ x1 ≤ (l.length : Int) then
          (admission_Admit.f c (slc l (0 : Int) x1) ((nth ((0 : Int), (0 : Int), (0 : Int), (0 : Int)) l x1).1, ((nth ((0 : Int), (0 : Int), (0 : Int), (0 : Int)) l x1).2).1, (((nth ((0 : Int), (0 : Int), (0 : Int), (0 : Int)) l x1).2).2))).bind fun r1 =>
          bif !decide (r1 = 0) then
            some (.inr (.inr false))
          else
            some (.inl (IntKind.wrap .i64 (x1 + 1)))
        else none
      else none
    else
      some (.inr (.inl ()))) (0 : Int)).bind fun o => match o with
  | .inl y2 =>
    some true
  | .inr r => some r
noncomputable def admission_Fits.sp : FSpec := ⟨[(.st (.pair (.int .i64) (.pair (.int .i64) .bool))), (.sl (.st (.pair (.int .i64) (.pair (.int .i64) (.pair (.int .i64) (.int .i64))))))], [.bool], fun x => admission_Fits.f x.1 x.2⟩
noncomputable def admission_Fits.env : Env := ⟨TYS, [(18, admission_Admit.sp)], [], [(2, ⟨[1, 2, 7, 8], [⟨9, false, (.int .i64)⟩], [], 0, none⟩)], [], [], []⟩
theorem admission_Fits.eq (x) : fnEval admission_Fits.env admission_Fits.sp.args admission_Fits.sp.res Go.Proofs.Try.f28 x = admission_Fits.sp.f x := by kernel_rfl
theorem admission_Fits.sound : Sound Try.prog 28 admission_Fits.sp := Lift.sound (E := admission_Fits.env) Try.func28 (by kernel_rfl) (env_okN TYS.ok mixed ⟨admission_Admit.sound, trivial⟩ trivial trivial) (by kernel_rfl) admission_Fits.eq

/-! vmfleet/balance.valid -/
noncomputable def balance_valid.f (hosts : List (Int × Int × Bool)) (l : List (Int × Int × Int × Int)) (on : List Int) : Option Bool :=
  bif decide ((hosts.length : Int) < 1) then
    some false
  else
    bif decide ((hosts.length : Int) > 6) then
      some false
    else
      bif decide ((l.length : Int) > 16) then
        some false
      else
        bif (!decide ((on.length : Int) = (l.length : Int))) then
          some false
        else
          (loop (Y := (Unit) ⊕ (Bool)) (fun (x1 : Int) =>
            bif decide (x1 < (on.length : Int)) then
              if 0 ≤ x1 ∧ x1 < (on.length : Int) then
                bif decide ((nth (0 : Int) on x1) < 0) then
                  some (.inr (.inr false))
                else
                  bif (decide ((nth (0 : Int) on x1) ≥ (hosts.length : Int))) then
                    some (.inr (.inr false))
                  else
                    some (.inl (IntKind.wrap .i64 (x1 + 1)))
              else none
            else
              some (.inr (.inl ()))) (0 : Int)).bind fun o => match o with
          | .inl y2 =>
            (loop (Y := (Unit) ⊕ (Bool)) (fun (x3 : Int) =>
              bif decide (x3 < (hosts.length : Int)) then
                if 0 ≤ x3 ∧ x3 < (hosts.length : Int) then
                  (balance_guests.f l on x3).bind fun r1 =>
                  (admission_Fits.f ((nth ((0 : Int), (0 : Int), false) hosts x3).1, ((nth ((0 : Int), (0 : Int), false) hosts x3).2)) r1).bind fun r2 =>
                  bif !r2 then
                    some (.inr (.inr false))
                  else
                    some (.inl (IntKind.wrap .i64 (x3 + 1)))
                else none
              else
                some (.inr (.inl ()))) (0 : Int)).bind fun o => match o with
            | .inl y4 =>
              some true
            | .inr r => some r
          | .inr r => some r
noncomputable def balance_valid.sp : FSpec := ⟨[(.sl (.st (.pair (.int .i64) (.pair (.int .i64) .bool)))), (.sl (.st (.pair (.int .i64) (.pair (.int .i64) (.pair (.int .i64) (.int .i64)))))), (.sl (.int .i64))], [.bool], fun x => balance_valid.f x.1 x.2.1 x.2.2⟩
noncomputable def balance_valid.env : Env := ⟨TYS, [(28, admission_Fits.sp), (33, balance_guests.sp)], [], [(4, ⟨[0, 1, 2, 31, 32], [⟨33, false, (.int .i64)⟩], [], 0, none⟩), (10, ⟨[1, 2, 46, 47], [⟨48, false, (.int .i64)⟩], [], 2, none⟩)], [], [], []⟩
theorem balance_valid.eq (x) : fnEval balance_valid.env balance_valid.sp.args balance_valid.sp.res Go.Proofs.Try.f29 x = balance_valid.sp.f x := by kernel_rfl
theorem balance_valid.sound : Sound Try.prog 29 balance_valid.sp := Lift.sound (E := balance_valid.env) Try.func29 (by kernel_rfl) (env_okN TYS.ok mixed ⟨admission_Fits.sound, balance_guests.sound, trivial⟩ trivial trivial) (by kernel_rfl) balance_valid.eq

/-! vmfleet/balance.Load -/
noncomputable def balance_Load.f (c : Int × Int × Bool) (l : List (Int × Int × Int × Int)) : Option Int :=
  (admission_ValidHost.f c).bind fun r1 =>
  bif !r1 then
    some (0 : Int)
  else
    bif decide (c.1 = 0) then
      some (0 : Int)
    else
      bif decide ((l.length : Int) > 16) then
        some (0 : Int)
      else
        (loop (Y := (Int) ⊕ (Int)) (fun (x1 : Int × Int) =>
          bif decide (x1.2 < (l.length : Int)) then
            if 0 ≤ x1.2 ∧ x1.2 < (l.length : Int) then
              (admission_ValidDemand.f ((nth ((0 : Int), (0 : Int), (0 : Int), (0 : Int)) l x1.2).1, ((nth ((0 : Int), (0 : Int), (0 : Int), (0 : Int)) l x1.2).2).1, (((nth ((0 : Int), (0 : Int), (0 : Int), (0 : Int)) l x1.2).2).2))).bind fun r2 =>
              bif !r2 then
                some (.inr (.inr (0 : Int)))
              else
                some (.inl ((IntKind.wrap .i64 (x1.1 + ((nth ((0 : Int), (0 : Int), (0 : Int), (0 : Int)) l x1.2).1))), IntKind.wrap .i64 (x1.2 + 1)))
            else none
          else
            some (.inr (.inl x1.1))) ((0 : Int), (0 : Int))).bind fun o => match o with
        | .inl y2 =>
          if c.1 = 0 then none else
          some (IntKind.wrap .i64 (Int.tdiv (IntKind.wrap .i64 (y2 * 1000)) c.1))
        | .inr r => some r
noncomputable def balance_Load.sp : FSpec := ⟨[(.st (.pair (.int .i64) (.pair (.int .i64) .bool))), (.sl (.st (.pair (.int .i64) (.pair (.int .i64) (.pair (.int .i64) (.int .i64))))))], [(.int .i64)], fun x => balance_Load.f x.1 x.2⟩
noncomputable def balance_Load.env : Env := ⟨TYS, [(36, admission_ValidDemand.sp), (47, admission_ValidHost.sp)], [], [(5, ⟨[2, 21, 22], [⟨5, false, (.int .i64)⟩, ⟨23, false, (.int .i64)⟩], [⟨5, false, (.int .i64)⟩], 0, none⟩)], [], [], []⟩
theorem balance_Load.eq (x) : fnEval balance_Load.env balance_Load.sp.args balance_Load.sp.res Go.Proofs.Try.f25 x = balance_Load.sp.f x := by kernel_rfl
theorem balance_Load.sound : Sound Try.prog 25 balance_Load.sp := Lift.sound (E := balance_Load.env) Try.func25 (by kernel_rfl) (env_okN TYS.ok mixed ⟨admission_ValidDemand.sound, admission_ValidHost.sound, trivial⟩ trivial trivial) (by kernel_rfl) balance_Load.eq

/-! slices.Max[[]int,int] -/
noncomputable def slices_Max_int_int.f (x : List Int) : Option Int :=
  bif decide ((x.length : Int) < 1) then
    none
  else
    if 0 ≤ (0 : Int) ∧ (0 : Int) < (x.length : Int) then
      (loop (Y := (Int) ⊕ (Int)) (fun (x1 : Int × Int) =>
        bif decide (x1.2 < (x.length : Int)) then
          if 0 ≤ x1.2 ∧ x1.2 < (x.length : Int) then
            some (.inl (max x1.1 (nth (0 : Int) x x1.2), IntKind.wrap .i64 (x1.2 + 1)))
          else none
        else
          some (.inr (.inl x1.1))) (nth (0 : Int) x (0 : Int), (1 : Int))).bind fun o => match o with
      | .inl y2 =>
        some y2
      | .inr r => some r
    else none
noncomputable def slices_Max_int_int.sp : FSpec := ⟨[(.sl (.int .i64))], [(.int .i64)], fun x => slices_Max_int_int.f x⟩
noncomputable def slices_Max_int_int.env : Env := ⟨TYS, [], [], [(5, ⟨[0, 2], [⟨3, false, (.int .i64)⟩, ⟨4, false, (.int .i64)⟩], [⟨3, false, (.int .i64)⟩], 0, none⟩)], [], [], []⟩
theorem slices_Max_int_int.eq (x) : fnEval slices_Max_int_int.env slices_Max_int_int.sp.args slices_Max_int_int.sp.res Go.Proofs.Try.f45 x = slices_Max_int_int.sp.f x := by kernel_rfl
theorem slices_Max_int_int.sound : Sound Try.prog 45 slices_Max_int_int.sp := Lift.sound (E := slices_Max_int_int.env) Try.func45 (by kernel_rfl) (env_okN TYS.ok mixed trivial trivial trivial) (by kernel_rfl) slices_Max_int_int.eq

/-! slices.Min[[]int,int] -/
noncomputable def slices_Min_int_int.f (x : List Int) : Option Int :=
  bif decide ((x.length : Int) < 1) then
    none
  else
    if 0 ≤ (0 : Int) ∧ (0 : Int) < (x.length : Int) then
      (loop (Y := (Int) ⊕ (Int)) (fun (x1 : Int × Int) =>
        bif decide (x1.2 < (x.length : Int)) then
          if 0 ≤ x1.2 ∧ x1.2 < (x.length : Int) then
            some (.inl (min x1.1 (nth (0 : Int) x x1.2), IntKind.wrap .i64 (x1.2 + 1)))
          else none
        else
          some (.inr (.inl x1.1))) (nth (0 : Int) x (0 : Int), (1 : Int))).bind fun o => match o with
      | .inl y2 =>
        some y2
      | .inr r => some r
    else none
noncomputable def slices_Min_int_int.sp : FSpec := ⟨[(.sl (.int .i64))], [(.int .i64)], fun x => slices_Min_int_int.f x⟩
noncomputable def slices_Min_int_int.env : Env := ⟨TYS, [], [], [(5, ⟨[0, 2], [⟨3, false, (.int .i64)⟩, ⟨4, false, (.int .i64)⟩], [⟨3, false, (.int .i64)⟩], 0, none⟩)], [], [], []⟩
theorem slices_Min_int_int.eq (x) : fnEval slices_Min_int_int.env slices_Min_int_int.sp.args slices_Min_int_int.sp.res Go.Proofs.Try.f46 x = slices_Min_int_int.sp.f x := by kernel_rfl
theorem slices_Min_int_int.sound : Sound Try.prog 46 slices_Min_int_int.sp := Lift.sound (E := slices_Min_int_int.env) Try.func46 (by kernel_rfl) (env_okN TYS.ok mixed trivial trivial trivial) (by kernel_rfl) slices_Min_int_int.eq

/-! vmfleet/balance.Spread -/
noncomputable def balance_Spread.f (hosts : List (Int × Int × Bool)) (l : List (Int × Int × Int × Int)) (on : List Int) : Option (Int × Bool) :=
  (balance_valid.f hosts l on).bind fun r1 =>
  bif !r1 then
    some ((0 : Int), false)
  else
    (loop (Y := (List Int) ⊕ (Int × Bool)) (fun (x1 : List Int × Int) =>
      bif decide (x1.2 < (hosts.length : Int)) then
        if 0 ≤ x1.2 ∧ x1.2 < (hosts.length : Int) then
          bif ((nth ((0 : Int), (0 : Int), false) hosts x1.2).2).2 then
            (balance_guests.f l on x1.2).bind fun r2 =>
            (balance_Load.f ((nth ((0 : Int), (0 : Int), false) hosts x1.2).1, ((nth ((0 : Int), (0 : Int), false) hosts x1.2).2)) r2).bind fun r3 =>
            if (x1.1.length + ([r3] : List Int).length) * 8 ≤ 70368744177664 then
              some (.inl (x1.1 ++ ([r3] : List Int), IntKind.wrap .i64 (x1.2 + 1)))
            else none
          else
            some (.inl (x1.1, IntKind.wrap .i64 (x1.2 + 1)))
        else none
      else
        some (.inr (.inl x1.1))) ([], (0 : Int))).bind fun o => match o with
    | .inl y2 =>
      bif decide ((y2.length : Int) = 0) then
        some ((0 : Int), false)
      else
        (slices_Max_int_int.f y2).bind fun r4 =>
        (slices_Min_int_int.f y2).bind fun r5 =>
        some (IntKind.wrap .i64 (r4 - r5), true)
    | .inr r => some r
noncomputable def balance_Spread.sp : FSpec := ⟨[(.sl (.st (.pair (.int .i64) (.pair (.int .i64) .bool)))), (.sl (.st (.pair (.int .i64) (.pair (.int .i64) (.pair (.int .i64) (.int .i64)))))), (.sl (.int .i64))], [(.int .i64), .bool], fun x => balance_Spread.f x.1 x.2.1 x.2.2⟩
noncomputable def balance_Spread.env : Env := ⟨TYS, [(25, balance_Load.sp), (29, balance_valid.sp), (33, balance_guests.sp), (45, slices_Max_int_int.sp), (46, slices_Min_int_int.sp)], [], [(5, ⟨[1, 2, 6, 7, 16, 17], [⟨8, false, (.own (.int .i64))⟩, ⟨18, false, (.int .i64)⟩], [⟨8, false, (.own (.int .i64))⟩], 0, none⟩)], [], [], []⟩
theorem balance_Spread.eq (x) : fnEval balance_Spread.env balance_Spread.sp.args balance_Spread.sp.res Go.Proofs.Try.f23 x = balance_Spread.sp.f x := by kernel_rfl
theorem balance_Spread.sound : Sound Try.prog 23 balance_Spread.sp := Lift.sound (E := balance_Spread.env) Try.func23 (by kernel_rfl) (env_okN TYS.ok mixed ⟨balance_Load.sound, balance_valid.sound, balance_guests.sound, slices_Max_int_int.sound, slices_Min_int_int.sound, trivial⟩ trivial trivial) (by kernel_rfl) balance_Spread.eq

/-! vmfleet/balance.Improve -/
noncomputable def balance_Improve.f (hosts : List (Int × Int × Bool)) (l : List (Int × Int × Int × Int)) (on : List Int) : Option ((Int × Int × Int) × Bool) :=
  (balance_Spread.f hosts l on).bind fun r1 =>
  bif !r1.2 then
    some (((0 : Int), (0 : Int), (0 : Int)), false)
  else
    (loop (Y := ((Int × Int × Int) × Bool) ⊕ ((Int × Int × Int) × Bool)) (fun (x1 : Int × (Int × Int × Int) × Bool × Int) =>
      bif decide (x1.2.2.2 < (on.length : Int)) then
        if 0 ≤ x1.2.2.2 ∧ x1.2.2.2 < (on.length : Int) then
          (loop (Y := (Int × (Int × Int × Int) × Bool) ⊕ ((Int × (Int × Int × Int) × Bool × Int) ⊕ (((Int × Int × Int) × Bool) ⊕ ((Int × Int × Int) × Bool)))) (fun (x2 : Int × (Int × Int × Int) × Bool × Int) =>
            bif decide (x2.2.2.2 < (hosts.length : Int)) then
              (slices_Clone_int_int.f on).bind fun r2 =>
              if 0 ≤ x1.2.2.2 ∧ x1.2.2.2 < (r2.length : Int) then
                (balance_Spread.f hosts l (put r2 x1.2.2.2 x2.2.2.2)).bind fun r3 =>
                (bif r3.2 then
                  some (.inl (decide (r3.1 < x2.1)))
                else
                  some (.inl false) : Option ((Bool) ⊕ ((Int × (Int × Int × Int) × Bool × Int) ⊕ ((Int × (Int × Int × Int) × Bool) ⊕ ((Int × (Int × Int × Int) × Bool × Int) ⊕ (((Int × Int × Int) × Bool) ⊕ ((Int × Int × Int) × Bool))))))).bind fun o => match o with
                | .inl y3 =>
                  bif y3 then
                    some (.inl (r3.1, (x1.2.2.2, nth (0 : Int) on x1.2.2.2, x2.2.2.2), true, IntKind.wrap .i64 (x2.2.2.2 + 1)))
                  else
                    some (.inl (x2.1, x2.2.1, x2.2.2.1, IntKind.wrap .i64 (x2.2.2.2 + 1)))
                | .inr r => some r
              else none
            else
              some (.inr (.inl (x2.1, x2.2.1, x2.2.2.1)))) (x1.1, x1.2.1, x1.2.2.1, (0 : Int))).bind fun o => match o with
          | .inl y4 =>
            some (.inl (y4.1, y4.2.1, y4.2.2, IntKind.wrap .i64 (x1.2.2.2 + 1)))
          | .inr r => some r
        else none
      else
        some (.inr (.inl (x1.2.1, x1.2.2.1)))) (r1.1, ((0 : Int), (0 : Int), (0 : Int)), false, (0 : Int))).bind fun o => match o with
    | .inl y5 =>
      some y5
    | .inr r => some r
noncomputable def balance_Improve.sp : FSpec := ⟨[(.sl (.st (.pair (.int .i64) (.pair (.int .i64) .bool)))), (.sl (.st (.pair (.int .i64) (.pair (.int .i64) (.pair (.int .i64) (.int .i64)))))), (.sl (.int .i64))], [(.st (.pair (.int .i64) (.pair (.int .i64) (.int .i64)))), .bool], fun x => balance_Improve.f x.1 x.2.1 x.2.2⟩
noncomputable def balance_Improve.env : Env := ⟨TYS, [(23, balance_Spread.sp), (30, slices_Clone_int_int.sp)], [], [(10, ⟨[0, 1, 2, 6, 7, 12, 13, 28, 29, 30, 36], [⟨8, false, (.int .i64)⟩, ⟨10, true, (.st (.pair (.int .i64) (.pair (.int .i64) (.int .i64))))⟩, ⟨11, false, .bool⟩, ⟨37, false, (.int .i64)⟩], [⟨8, false, (.int .i64)⟩, ⟨10, true, (.st (.pair (.int .i64) (.pair (.int .i64) (.int .i64))))⟩, ⟨11, false, .bool⟩], 2, none⟩), (7, ⟨[0, 1, 2, 6, 7, 28, 29], [⟨8, false, (.int .i64)⟩, ⟨10, true, (.st (.pair (.int .i64) (.pair (.int .i64) (.int .i64))))⟩, ⟨11, false, .bool⟩, ⟨30, false, (.int .i64)⟩], [⟨10, true, (.st (.pair (.int .i64) (.pair (.int .i64) (.int .i64))))⟩, ⟨11, false, .bool⟩], 0, none⟩)], [(16, ⟨[8, 10, 11, 14, 16, 37], [], [⟨58, false, .bool⟩], 0, none⟩)], [], []⟩
theorem balance_Improve.eq (x) : fnEval balance_Improve.env balance_Improve.sp.args balance_Improve.sp.res Go.Proofs.Try.f24 x = balance_Improve.sp.f x := by kernel_rfl
theorem balance_Improve.sound : Sound Try.prog 24 balance_Improve.sp := Lift.sound (E := balance_Improve.env) Try.func24 (by kernel_rfl) (env_okN TYS.ok mixed ⟨balance_Spread.sound, slices_Clone_int_int.sound, trivial⟩ trivial trivial) (by kernel_rfl) balance_Improve.eq

/-! slices.Concat[[]vmfleet/api.Demand,vmfleet/api.Demand] -/
noncomputable def slices_Concat_api_Demand_api_Demand.f (slices : List (List (Int × Int × Int × Int))) : Option (List (Int × Int × Int × Int)) :=
  (loop (Y := (Int) ⊕ (List (Int × Int × Int × Int))) (fun (x1 : Int × Int) =>
    bif decide (x1.2 < (slices.length : Int)) then
      if 0 ≤ x1.2 ∧ x1.2 < (slices.length : Int) then
        let v1 := IntKind.wrap .i64 (x1.1 + ((nth [] slices x1.2).length : Int))
        bif decide (v1 < 0) then
          none
        else
          some (.inl (v1, IntKind.wrap .i64 (x1.2 + 1)))
      else none
    else
      some (.inr (.inl x1.1))) ((0 : Int), (0 : Int))).bind fun o => match o with
  | .inl y2 =>
    (slices_Grow_api_Demand_api_Demand.f y2).bind fun r1 =>
    (loop (Y := (List (Int × Int × Int × Int)) ⊕ (List (Int × Int × Int × Int))) (fun (x3 : (List (Int × Int × Int × Int)) × Int) =>
      bif decide (x3.2 < (slices.length : Int)) then
        if 0 ≤ x3.2 ∧ x3.2 < (slices.length : Int) then
          if (x3.1.length + (nth [] slices x3.2).length) * 32 ≤ 70368744177664 then
            some (.inl (x3.1 ++ (nth [] slices x3.2), IntKind.wrap .i64 (x3.2 + 1)))
          else none
        else none
      else
        some (.inr (.inl x3.1))) (r1, (0 : Int))).bind fun o => match o with
    | .inl y4 =>
      some y4
    | .inr r => some r
  | .inr r => some r
noncomputable def slices_Concat_api_Demand_api_Demand.sp : FSpec := ⟨[(.sl (.sl (.st (.pair (.int .i64) (.pair (.int .i64) (.pair (.int .i64) (.int .i64)))))))], [(.own (.st (.pair (.int .i64) (.pair (.int .i64) (.pair (.int .i64) (.int .i64))))))], fun x => slices_Concat_api_Demand_api_Demand.f x⟩
noncomputable def slices_Concat_api_Demand_api_Demand.env : Env := ⟨TYS, [], [], [(3, ⟨[0, 2, 9, 10], [⟨3, false, (.int .i64)⟩, ⟨11, false, (.int .i64)⟩], [⟨3, false, (.int .i64)⟩], 0, none⟩), (11, ⟨[2, 25, 26], [⟨6, false, (.own (.st (.pair (.int .i64) (.pair (.int .i64) (.pair (.int .i64) (.int .i64))))))⟩, ⟨27, false, (.int .i64)⟩], [⟨6, false, (.own (.st (.pair (.int .i64) (.pair (.int .i64) (.pair (.int .i64) (.int .i64))))))⟩], 2, none⟩)], [], [], [(49, slices_Grow_api_Demand_api_Demand.sp)]⟩
theorem slices_Concat_api_Demand_api_Demand.eq (x) : fnEval slices_Concat_api_Demand_api_Demand.env slices_Concat_api_Demand_api_Demand.sp.args slices_Concat_api_Demand_api_Demand.sp.res Go.Proofs.Try.f31 x = slices_Concat_api_Demand_api_Demand.sp.f x := by kernel_rfl
theorem slices_Concat_api_Demand_api_Demand.sound : Sound Try.prog 31 slices_Concat_api_Demand_api_Demand.sp := Lift.sound (E := slices_Concat_api_Demand_api_Demand.env) Try.func31 (by kernel_rfl) (env_okN TYS.ok mixed trivial trivial ⟨slices_Grow_api_Demand_api_Demand.sound, trivial⟩) (by kernel_rfl) slices_Concat_api_Demand_api_Demand.eq

/-! slices.Concat[[]int,int] -/
noncomputable def slices_Concat_int_int.f (slices : List (List Int)) : Option (List Int) :=
  (loop (Y := (Int) ⊕ (List Int)) (fun (x1 : Int × Int) =>
    bif decide (x1.2 < (slices.length : Int)) then
      if 0 ≤ x1.2 ∧ x1.2 < (slices.length : Int) then
        let v1 := IntKind.wrap .i64 (x1.1 + ((nth [] slices x1.2).length : Int))
        bif decide (v1 < 0) then
          none
        else
          some (.inl (v1, IntKind.wrap .i64 (x1.2 + 1)))
      else none
    else
      some (.inr (.inl x1.1))) ((0 : Int), (0 : Int))).bind fun o => match o with
  | .inl y2 =>
    (slices_Grow_int_int.f y2).bind fun r1 =>
    (loop (Y := (List Int) ⊕ (List Int)) (fun (x3 : List Int × Int) =>
      bif decide (x3.2 < (slices.length : Int)) then
        if 0 ≤ x3.2 ∧ x3.2 < (slices.length : Int) then
          if (x3.1.length + (nth [] slices x3.2).length) * 8 ≤ 70368744177664 then
            some (.inl (x3.1 ++ (nth [] slices x3.2), IntKind.wrap .i64 (x3.2 + 1)))
          else none
        else none
      else
        some (.inr (.inl x3.1))) (r1, (0 : Int))).bind fun o => match o with
    | .inl y4 =>
      some y4
    | .inr r => some r
  | .inr r => some r
noncomputable def slices_Concat_int_int.sp : FSpec := ⟨[(.sl (.sl (.int .i64)))], [(.own (.int .i64))], fun x => slices_Concat_int_int.f x⟩
noncomputable def slices_Concat_int_int.env : Env := ⟨TYS, [], [], [(3, ⟨[0, 2, 9, 10], [⟨3, false, (.int .i64)⟩, ⟨11, false, (.int .i64)⟩], [⟨3, false, (.int .i64)⟩], 0, none⟩), (11, ⟨[2, 25, 26], [⟨6, false, (.own (.int .i64))⟩, ⟨27, false, (.int .i64)⟩], [⟨6, false, (.own (.int .i64))⟩], 2, none⟩)], [], [], [(50, slices_Grow_int_int.sp)]⟩
theorem slices_Concat_int_int.eq (x) : fnEval slices_Concat_int_int.env slices_Concat_int_int.sp.args slices_Concat_int_int.sp.res Go.Proofs.Try.f32 x = slices_Concat_int_int.sp.f x := by kernel_rfl
theorem slices_Concat_int_int.sound : Sound Try.prog 32 slices_Concat_int_int.sp := Lift.sound (E := slices_Concat_int_int.env) Try.func32 (by kernel_rfl) (env_okN TYS.ok mixed trivial trivial ⟨slices_Grow_int_int.sound, trivial⟩) (by kernel_rfl) slices_Concat_int_int.eq

/-! slices.Index[[]int,int] -/
noncomputable def slices_Index_int_int.f (s : List Int) (v : Int) : Option Int :=
  (loop (Y := (Unit) ⊕ (Int)) (fun (x1 : Int) =>
    bif decide (x1 < (s.length : Int)) then
      if 0 ≤ x1 ∧ x1 < (s.length : Int) then
        bif decide (v = (nth (0 : Int) s x1)) then
          some (.inr (.inr x1))
        else
          some (.inl (IntKind.wrap .i64 (x1 + 1)))
      else none
    else
      some (.inr (.inl ()))) (0 : Int)).bind fun o => match o with
  | .inl y2 =>
    some (-1 : Int)
  | .inr r => some r
noncomputable def slices_Index_int_int.sp : FSpec := ⟨[(.sl (.int .i64)), (.int .i64)], [(.int .i64)], fun x => slices_Index_int_int.f x.1 x.2⟩
noncomputable def slices_Index_int_int.env : Env := ⟨TYS, [], [], [(2, ⟨[0, 1, 7], [⟨8, false, (.int .i64)⟩], [], 0, none⟩)], [], [], []⟩
theorem slices_Index_int_int.eq (x) : fnEval slices_Index_int_int.env slices_Index_int_int.sp.args slices_Index_int_int.sp.res Go.Proofs.Try.f51 x = slices_Index_int_int.sp.f x := by kernel_rfl
theorem slices_Index_int_int.sound : Sound Try.prog 51 slices_Index_int_int.sp := Lift.sound (E := slices_Index_int_int.env) Try.func51 (by kernel_rfl) (env_okN TYS.ok mixed trivial trivial trivial) (by kernel_rfl) slices_Index_int_int.eq

/-! slices.Contains[[]int,int] -/
noncomputable def slices_Contains_int_int.f (s : List Int) (v : Int) : Option Bool :=
  (slices_Index_int_int.f s v).bind fun r1 =>
  some (decide (r1 ≥ 0))
noncomputable def slices_Contains_int_int.sp : FSpec := ⟨[(.sl (.int .i64)), (.int .i64)], [.bool], fun x => slices_Contains_int_int.f x.1 x.2⟩
noncomputable def slices_Contains_int_int.env : Env := ⟨TYS, [(51, slices_Index_int_int.sp)], [], [], [], [], []⟩
theorem slices_Contains_int_int.eq (x) : fnEval slices_Contains_int_int.env slices_Contains_int_int.sp.args slices_Contains_int_int.sp.res Go.Proofs.Try.f34 x = slices_Contains_int_int.sp.f x := by kernel_rfl
theorem slices_Contains_int_int.sound : Sound Try.prog 34 slices_Contains_int_int.sp := Lift.sound (E := slices_Contains_int_int.env) Try.func34 (by kernel_rfl) (env_okN TYS.ok mixed ⟨slices_Index_int_int.sound, trivial⟩ trivial trivial) (by kernel_rfl) slices_Contains_int_int.eq

/-! vmfleet/balance.Choose -/
noncomputable def balance_Choose.f (hosts : List (Int × Int × Bool)) (l : List (Int × Int × Int × Int)) (on : List Int) (d : Int × Int × Int × Int) (not_ : List Int) : Option (Int × Bool) :=
  (balance_valid.f hosts l on).bind fun r1 =>
  bif !r1 then
    some ((0 : Int), false)
  else
    (loop (Y := (Int) ⊕ (Int × Bool)) (fun (x1 : Int × Int × Int) =>
      bif decide (x1.2.2 < (hosts.length : Int)) then
        if 0 ≤ x1.2.2 ∧ x1.2.2 < (hosts.length : Int) then
          (balance_guests.f l on x1.2.2).bind fun r2 =>
          (slices_Contains_int_int.f not_ x1.2.2).bind fun r3 =>
          bif r3 then
            some (.inl (x1.1, x1.2.1, IntKind.wrap .i64 (x1.2.2 + 1)))
          else
            (admission_Admit.f ((nth ((0 : Int), (0 : Int), false) hosts x1.2.2).1, ((nth ((0 : Int), (0 : Int), false) hosts x1.2.2).2)) r2 d).bind fun r4 =>
            bif !decide (r4 = 0) then
              some (.inl (x1.1, x1.2.1, IntKind.wrap .i64 (x1.2.2 + 1)))
            else
              (admission_Free.f ((nth ((0 : Int), (0 : Int), false) hosts x1.2.2).1, ((nth ((0 : Int), (0 : Int), false) hosts x1.2.2).2)) r2).bind fun r5 =>
              bif decide (x1.1 < 0) then
                some (.inl (x1.2.2, r5.1, IntKind.wrap .i64 (x1.2.2 + 1)))
              else
                bif decide (r5.1 > x1.2.1) then
                  some (.inl (x1.2.2, r5.1, IntKind.wrap .i64 (x1.2.2 + 1)))
                else
                  some (.inl (x1.1, x1.2.1, IntKind.wrap .i64 (x1.2.2 + 1)))
        else none
      else
        some (.inr (.inl x1.1))) ((-1 : Int), (0 : Int), (0 : Int))).bind fun o => match o with
    | .inl y2 =>
      bif decide (y2 < 0) then
        some ((0 : Int), false)
      else
        some (y2, true)
    | .inr r => some r
noncomputable def balance_Choose.sp : FSpec := ⟨[(.sl (.st (.pair (.int .i64) (.pair (.int .i64) .bool)))), (.sl (.st (.pair (.int .i64) (.pair (.int .i64) (.pair (.int .i64) (.int .i64)))))), (.sl (.int .i64)), (.st (.pair (.int .i64) (.pair (.int .i64) (.pair (.int .i64) (.int .i64))))), (.sl (.int .i64))], [(.int .i64), .bool], fun x => balance_Choose.f x.1 x.2.1 x.2.2.1 x.2.2.2.1 x.2.2.2.2⟩
noncomputable def balance_Choose.env : Env := ⟨TYS, [(17, admission_Free.sp), (18, admission_Admit.sp), (29, balance_valid.sp), (33, balance_guests.sp), (34, slices_Contains_int_int.sp)], [], [(5, ⟨[1, 2, 4, 8, 10, 11, 24, 25], [⟨12, false, (.int .i64)⟩, ⟨13, false, (.int .i64)⟩, ⟨26, false, (.int .i64)⟩], [⟨12, false, (.int .i64)⟩], 0, none⟩)], [], [], []⟩
theorem balance_Choose.eq (x) : fnEval balance_Choose.env balance_Choose.sp.args balance_Choose.sp.res Go.Proofs.Try.f16 x = balance_Choose.sp.f x := by kernel_rfl
theorem balance_Choose.sound : Sound Try.prog 16 balance_Choose.sp := Lift.sound (E := balance_Choose.env) Try.func16 (by kernel_rfl) (env_okN TYS.ok mixed ⟨admission_Free.sound, admission_Admit.sound, balance_valid.sound, balance_guests.sound, slices_Contains_int_int.sound, trivial⟩ trivial trivial) (by kernel_rfl) balance_Choose.eq

/-! vmfleet/balance.Evacuate -/
noncomputable def balance_Evacuate.f (hosts : List (Int × Int × Bool)) (l : List (Int × Int × Int × Int)) (on : List Int) (host : Int) : Option ((List (Int × Int × Int)) × List Int × Bool) :=
  (balance_valid.f hosts l on).bind fun r1 =>
  bif !r1 then
    some ([], [], false)
  else
    bif decide (host < 0) then
      some ([], [], false)
    else
      bif decide (host ≥ (hosts.length : Int)) then
        some ([], [], false)
      else
        (slices_Clone_int_int.f on).bind fun r2 =>
        (loop (Y := (List Int × List (Int × Int × Int)) ⊕ ((List (Int × Int × Int)) × List Int × Bool)) (fun (x1 : List Int × (List (Int × Int × Int)) × Int) =>
          bif decide (x1.2.2 < (l.length : Int)) then
            if 0 ≤ x1.2.2 ∧ x1.2.2 < (l.length : Int) then
              if 0 ≤ x1.2.2 ∧ x1.2.2 < (x1.1.length : Int) then
                bif !decide ((nth (0 : Int) x1.1 x1.2.2) = host) then
                  some (.inl (x1.1, x1.2.1, IntKind.wrap .i64 (x1.2.2 + 1)))
                else
                  if 0 ≤ x1.2.2 ∧ x1.2.2 ≤ (l.length : Int) then
                    if 0 ≤ (IntKind.wrap .i64 (x1.2.2 + 1)) ∧ (IntKind.wrap .i64 (x1.2.2 + 1)) ≤ (l.length : Int) then
                      (slices_Concat_api_Demand_api_Demand.f ([slc l (0 : Int) x1.2.2, slc l (IntKind.wrap .i64 (x1.2.2 + 1)) (l.length : Int)] : List (List (Int × Int × Int × Int)))).bind fun r3 =>
                      if 0 ≤ x1.2.2 ∧ x1.2.2 ≤ (x1.1.length : Int) then
                        if 0 ≤ (IntKind.wrap .i64 (x1.2.2 + 1)) ∧ (IntKind.wrap .i64 (x1.2.2 + 1)) ≤ (x1.1.length : Int) then
                          (slices_Concat_int_int.f ([slc x1.1 (0 : Int) x1.2.2, slc x1.1 (IntKind.wrap .i64 (x1.2.2 + 1)) (x1.1.length : Int)] : List (List Int))).bind fun r4 =>
                          (balance_Choose.f hosts r3 r4 ((nth ((0 : Int), (0 : Int), (0 : Int), (0 : Int)) l x1.2.2).1, ((nth ((0 : Int), (0 : Int), (0 : Int), (0 : Int)) l x1.2.2).2).1, (((nth ((0 : Int), (0 : Int), (0 : Int), (0 : Int)) l x1.2.2).2).2)) ([host] : List Int)).bind fun r5 =>
                          bif !r5.2 then
                            some (.inr (.inr ([], [], false)))
                          else
                            if 0 ≤ x1.2.2 ∧ x1.2.2 < (x1.1.length : Int) then
                              if (x1.2.1.length + ([(x1.2.2, host, r5.1)] : List (Int × Int × Int)).length) * 24 ≤ 70368744177664 then
                                some (.inl (put x1.1 x1.2.2 r5.1, (x1.2.1 ++ ([(x1.2.2, host, r5.1)] : List (Int × Int × Int))), IntKind.wrap .i64 (x1.2.2 + 1)))
                              else none
                            else none
                        else none
                      else none
                    else none
                  else none
              else none
            else none
          else
            some (.inr (.inl (x1.1, x1.2.1)))) (r2, [], (0 : Int))).bind fun o => match o with
        | .inl y2 =>
          some (y2.2, y2.1, true)
        | .inr r => some r
noncomputable def balance_Evacuate.sp : FSpec := ⟨[(.sl (.st (.pair (.int .i64) (.pair (.int .i64) .bool)))), (.sl (.st (.pair (.int .i64) (.pair (.int .i64) (.pair (.int .i64) (.int .i64)))))), (.sl (.int .i64)), (.int .i64)], [(.own (.st (.pair (.int .i64) (.pair (.int .i64) (.int .i64))))), (.own (.int .i64)), .bool], fun x => balance_Evacuate.f x.1 x.2.1 x.2.2.1 x.2.2.2⟩
noncomputable def balance_Evacuate.env : Env := ⟨TYS, [(16, balance_Choose.sp), (29, balance_valid.sp), (30, slices_Clone_int_int.sp), (31, slices_Concat_api_Demand_api_Demand.sp), (32, slices_Concat_int_int.sp)], [], [(6, ⟨[0, 1, 3, 35, 36], [⟨2, false, (.own (.int .i64))⟩, ⟨11, false, (.own (.st (.pair (.int .i64) (.pair (.int .i64) (.int .i64)))))⟩, ⟨37, false, (.int .i64)⟩], [⟨2, false, (.own (.int .i64))⟩, ⟨11, false, (.own (.st (.pair (.int .i64) (.pair (.int .i64) (.int .i64)))))⟩], 0, none⟩)], [], [], []⟩
theorem balance_Evacuate.eq (x) : fnEval balance_Evacuate.env balance_Evacuate.sp.args balance_Evacuate.sp.res Go.Proofs.Try.f14 x = balance_Evacuate.sp.f x := by kernel_rfl
theorem balance_Evacuate.sound : Sound Try.prog 14 balance_Evacuate.sp := Lift.sound (E := balance_Evacuate.env) Try.func14 (by kernel_rfl) (env_okN TYS.ok mixed ⟨balance_Choose.sound, balance_valid.sound, slices_Clone_int_int.sound, slices_Concat_api_Demand_api_Demand.sound, slices_Concat_int_int.sound, trivial⟩ trivial trivial) (by kernel_rfl) balance_Evacuate.eq

/-! vmfleet/vmfleetref1.SameInts -/
noncomputable def vmfleetref1_SameInts.f (a : List Int) (b : List Int) : Option Bool :=
  bif !decide ((a.length : Int) = (b.length : Int)) then
    some false
  else
    (loop (Y := (Unit) ⊕ (Bool)) (fun (x1 : Int) =>
      bif decide (x1 < (a.length : Int)) then
        if 0 ≤ x1 ∧ x1 < (a.length : Int) then
          if 0 ≤ x1 ∧ x1 < (b.length : Int) then
            bif !decide ((nth (0 : Int) a x1) = (nth (0 : Int) b x1)) then
              some (.inr (.inr false))
            else
              some (.inl (IntKind.wrap .i64 (x1 + 1)))
          else none
        else none
      else
        some (.inr (.inl ()))) (0 : Int)).bind fun o => match o with
    | .inl y2 =>
      some true
    | .inr r => some r
noncomputable def vmfleetref1_SameInts.sp : FSpec := ⟨[(.sl (.int .i64)), (.sl (.int .i64))], [.bool], fun x => vmfleetref1_SameInts.f x.1 x.2⟩
noncomputable def vmfleetref1_SameInts.env : Env := ⟨TYS, [], [], [(4, ⟨[0, 1], [⟨5, false, (.int .i64)⟩], [], 0, none⟩)], [], [], []⟩
theorem vmfleetref1_SameInts.eq (x) : fnEval vmfleetref1_SameInts.env vmfleetref1_SameInts.sp.args vmfleetref1_SameInts.sp.res Go.Proofs.Try.f15 x = vmfleetref1_SameInts.sp.f x := by kernel_rfl
theorem vmfleetref1_SameInts.sound : Sound Try.prog 15 vmfleetref1_SameInts.sp := Lift.sound (E := vmfleetref1_SameInts.env) Try.func15 (by kernel_rfl) (env_okN TYS.ok mixed trivial trivial trivial) (by kernel_rfl) vmfleetref1_SameInts.eq

/-! vmfleet/vmfleetlaw40.awake -/
noncomputable def vmfleetlaw40_awake.f  : Option Bool :=
  (balance_Assign.f ([((10 : Int), (100 : Int), true), ((10 : Int), (100 : Int), true)] : List (Int × Int × Bool)) ([((4 : Int), (4 : Int), (0 : Int), (0 : Int)), ((4 : Int), (4 : Int), (0 : Int), (0 : Int)), ((4 : Int), (4 : Int), (0 : Int), (0 : Int))] : List (Int × Int × Int × Int))).bind fun r1 =>
  (balance_Spread.f ([((10 : Int), (100 : Int), true), ((10 : Int), (100 : Int), true)] : List (Int × Int × Bool)) ([((4 : Int), (4 : Int), (0 : Int), (0 : Int)), ((4 : Int), (4 : Int), (0 : Int), (0 : Int)), ((4 : Int), (4 : Int), (0 : Int), (0 : Int))] : List (Int × Int × Int × Int)) ([(0 : Int), (0 : Int), (1 : Int)] : List Int)).bind fun r2 =>
  (balance_Improve.f ([((10 : Int), (100 : Int), true), ((10 : Int), (100 : Int), true)] : List (Int × Int × Bool)) ([((4 : Int), (4 : Int), (0 : Int), (0 : Int)), ((4 : Int), (4 : Int), (0 : Int), (0 : Int)), ((4 : Int), (4 : Int), (0 : Int), (0 : Int))] : List (Int × Int × Int × Int)) ([(0 : Int), (0 : Int), (1 : Int)] : List Int)).bind fun r3 =>
  if 0 ≤ (1 : Int) ∧ (1 : Int) ≤ (([((4 : Int), (4 : Int), (0 : Int), (0 : Int)), ((4 : Int), (4 : Int), (0 : Int), (0 : Int)), ((4 : Int), (4 : Int), (0 : Int), (0 : Int))] : List (Int × Int × Int × Int)).length : Int) then
    (balance_Evacuate.f ([((10 : Int), (100 : Int), true), ((10 : Int), (100 : Int), true)] : List (Int × Int × Bool)) (slc ([((4 : Int), (4 : Int), (0 : Int), (0 : Int)), ((4 : Int), (4 : Int), (0 : Int), (0 : Int)), ((4 : Int), (4 : Int), (0 : Int), (0 : Int))] : List (Int × Int × Int × Int)) (0 : Int) (1 : Int)) ([(0 : Int)] : List Int) (0 : Int)).bind fun r4 =>
    bif r1.2 then
      (vmfleetref1_SameInts.f r1.1 ([(0 : Int), (0 : Int), (1 : Int)] : List Int)).bind fun r5 =>
      bif r5 then
        bif r2.2 then
          bif decide (r2.1 = 400) then
            bif !r3.2 then
              bif (decide (r3.1 = ((0 : Int), (0 : Int), (0 : Int)))) then
                bif r4.2.2 then
                  (vmfleetref1_SameInts.f r4.2.1 ([(1 : Int)] : List Int)).bind fun r6 =>
                  bif r6 then
                    if 0 ≤ (1 : Int) ∧ (1 : Int) ≤ (([((4 : Int), (4 : Int), (0 : Int), (0 : Int)), ((4 : Int), (4 : Int), (0 : Int), (0 : Int)), ((4 : Int), (4 : Int), (0 : Int), (0 : Int))] : List (Int × Int × Int × Int)).length : Int) then
                      (balance_Load.f ((10 : Int), (100 : Int), true) (slc ([((4 : Int), (4 : Int), (0 : Int), (0 : Int)), ((4 : Int), (4 : Int), (0 : Int), (0 : Int)), ((4 : Int), (4 : Int), (0 : Int), (0 : Int))] : List (Int × Int × Int × Int)) (0 : Int) (1 : Int))).bind fun r7 =>
                      some (decide (r7 = 400))
                    else none
                  else
                    some false
                else
                  some false
              else
                some false
            else
              some false
          else
            some false
        else
          some false
      else
        some false
    else
      some false
  else none
noncomputable def vmfleetlaw40_awake.sp : FSpec := ⟨[], [.bool], fun _ => vmfleetlaw40_awake.f⟩
noncomputable def vmfleetlaw40_awake.env : Env := ⟨TYS, [(11, balance_Assign.sp), (14, balance_Evacuate.sp), (15, vmfleetref1_SameInts.sp), (23, balance_Spread.sp), (24, balance_Improve.sp), (25, balance_Load.sp)], [], [], [], [], []⟩
theorem vmfleetlaw40_awake.eq (x) : fnEval vmfleetlaw40_awake.env vmfleetlaw40_awake.sp.args vmfleetlaw40_awake.sp.res Go.Proofs.Try.f9 x = vmfleetlaw40_awake.sp.f x := by kernel_rfl
theorem vmfleetlaw40_awake.sound : Sound Try.prog 9 vmfleetlaw40_awake.sp := Lift.sound (E := vmfleetlaw40_awake.env) Try.func9 (by kernel_rfl) (env_okN TYS.ok mixed ⟨balance_Assign.sound, balance_Evacuate.sound, vmfleetref1_SameInts.sound, balance_Spread.sound, balance_Improve.sound, balance_Load.sound, trivial⟩ trivial trivial) (by kernel_rfl) vmfleetlaw40_awake.eq

/-! vmfleet/vmfleetref1.Next -/
noncomputable def vmfleetref1_Next.f (seed : Int) : Option (Int × Int) :=
  let v1 := IntKind.wrap .u64 (seed + 11400714819323198485)
  let v2 := IntKind.wrap .u64 ((xorI .u64 v1 (shrI .u64 v1 (30 : Int))) * 13787848793156543929)
  let v3 := IntKind.wrap .u64 ((xorI .u64 v2 (shrI .u64 v2 (27 : Int))) * 10723151780598845931)
  some (xorI .u64 v3 (shrI .u64 v3 (31 : Int)), v1)
noncomputable def vmfleetref1_Next.sp : FSpec := ⟨[(.int .u64)], [(.int .u64), (.int .u64)], fun x => vmfleetref1_Next.f x⟩
noncomputable def vmfleetref1_Next.env : Env := ⟨TYS, [], [], [], [], [], []⟩
theorem vmfleetref1_Next.eq (x) : fnEval vmfleetref1_Next.env vmfleetref1_Next.sp.args vmfleetref1_Next.sp.res Go.Proofs.Try.f48 x = vmfleetref1_Next.sp.f x := by kernel_rfl
theorem vmfleetref1_Next.sound : Sound Try.prog 48 vmfleetref1_Next.sp := Lift.sound (E := vmfleetref1_Next.env) Try.func48 (by kernel_rfl) (env_okN TYS.ok mixed trivial trivial trivial) (by kernel_rfl) vmfleetref1_Next.eq

/-! vmfleet/vmfleetmake.Mix -/
noncomputable def vmfleetmake_Mix.f (n : Int) (k : Int) : Option Int :=
  (vmfleetref1_Next.f (xorI .u64 (IntKind.wrap .u64 n) (IntKind.wrap .u64 ((IntKind.wrap .u64 k) * 11400714819323198485)))).bind fun r1 =>
  some (IntKind.wrap .i64 (shrI .u64 r1.1 (1 : Int)))
noncomputable def vmfleetmake_Mix.sp : FSpec := ⟨[(.int .i64), (.int .i64)], [(.int .i64)], fun x => vmfleetmake_Mix.f x.1 x.2⟩
noncomputable def vmfleetmake_Mix.env : Env := ⟨TYS, [(48, vmfleetref1_Next.sp)], [], [], [], [], []⟩
theorem vmfleetmake_Mix.eq (x) : fnEval vmfleetmake_Mix.env vmfleetmake_Mix.sp.args vmfleetmake_Mix.sp.res Go.Proofs.Try.f26 x = vmfleetmake_Mix.sp.f x := by kernel_rfl
theorem vmfleetmake_Mix.sound : Sound Try.prog 26 vmfleetmake_Mix.sp := Lift.sound (E := vmfleetmake_Mix.env) Try.func26 (by kernel_rfl) (env_okN TYS.ok mixed ⟨vmfleetref1_Next.sound, trivial⟩ trivial trivial) (by kernel_rfl) vmfleetmake_Mix.eq

/-! vmfleet/vmfleetlaw40.problem -/
noncomputable def vmfleetlaw40_problem.f (hosts : List Int) (l : List Int) : Option ((List (Int × Int × Bool)) × List (Int × Int × Int × Int)) :=
  (loop (Y := (List (Int × Int × Bool)) ⊕ ((List (Int × Int × Bool)) × List (Int × Int × Int × Int))) (fun (x1 : (List (Int × Int × Bool)) × Int) =>
    bif decide (x1.2 < (hosts.length : Int)) then
      if 0 ≤ x1.2 ∧ x1.2 < (hosts.length : Int) then
        (vmfleetmake_Mix.f (nth (0 : Int) hosts x1.2) (61 : Int)).bind fun r1 =>
        let v1 := IntKind.wrap .i64 (6 + (andI .i64 r1 (15 : Int)))
        let v2 := andI .i64 (shrI .i64 r1 (4 : Int)) (15 : Int)
        let v3 := andI .i64 (shrI .i64 r1 (8 : Int)) (7 : Int)
        if (x1.1.length + ([(v1, IntKind.wrap .i64 (6 + v2), !decide (v3 = 0))] : List (Int × Int × Bool)).length) * 24 ≤ 70368744177664 then
          some (.inl ((x1.1 ++ ([(v1, IntKind.wrap .i64 (6 + v2), !decide (v3 = 0))] : List (Int × Int × Bool))), IntKind.wrap .i64 (x1.2 + 1)))
        else none
      else none
    else
      some (.inr (.inl x1.1))) ([], (0 : Int))).bind fun o => match o with
  | .inl y2 =>
    (loop (Y := (List (Int × Int × Int × Int)) ⊕ ((List (Int × Int × Bool)) × List (Int × Int × Int × Int))) (fun (x3 : (List (Int × Int × Int × Int)) × Int) =>
      bif decide (x3.2 < (l.length : Int)) then
        if 0 ≤ x3.2 ∧ x3.2 < (l.length : Int) then
          (vmfleetmake_Mix.f (nth (0 : Int) l x3.2) (62 : Int)).bind fun r2 =>
          let v5 := IntKind.wrap .i64 (1 + (andI .i64 r2 (3 : Int)))
          let v6 := andI .i64 (shrI .i64 r2 (2 : Int)) (3 : Int)
          let v8 := max (0 : Int) (IntKind.wrap .i64 ((andI .i64 (shrI .i64 r2 (4 : Int)) (7 : Int)) - 4))
          let v9 := andI .i64 (shrI .i64 r2 (7 : Int)) (3 : Int)
          if (x3.1.length + ([(v5, IntKind.wrap .i64 (v5 + v9), v6, v8)] : List (Int × Int × Int × Int)).length) * 32 ≤ 70368744177664 then
            some (.inl ((x3.1 ++ ([(v5, IntKind.wrap .i64 (v5 + v9), v6, v8)] : List (Int × Int × Int × Int))), IntKind.wrap .i64 (x3.2 + 1)))
          else none
        else none
      else
        some (.inr (.inl x3.1))) ([], (0 : Int))).bind fun o => match o with
    | .inl y4 =>
      some (y2, y4)
    | .inr r => some r
  | .inr r => some r
noncomputable def vmfleetlaw40_problem.sp : FSpec := ⟨[(.sl (.int .i64)), (.sl (.int .i64))], [(.own (.st (.pair (.int .i64) (.pair (.int .i64) .bool)))), (.own (.st (.pair (.int .i64) (.pair (.int .i64) (.pair (.int .i64) (.int .i64))))))], fun x => vmfleetlaw40_problem.f x.1 x.2⟩
noncomputable def vmfleetlaw40_problem.env : Env := ⟨TYS, [(26, vmfleetmake_Mix.sp)], [], [(4, ⟨[0, 1, 4, 5, 7], [⟨6, false, (.own (.st (.pair (.int .i64) (.pair (.int .i64) .bool))))⟩, ⟨8, false, (.int .i64)⟩], [⟨6, false, (.own (.st (.pair (.int .i64) (.pair (.int .i64) .bool))))⟩], 0, none⟩), (9, ⟨[1, 4, 5, 6], [⟨7, false, (.own (.st (.pair (.int .i64) (.pair (.int .i64) (.pair (.int .i64) (.int .i64))))))⟩, ⟨10, false, (.int .i64)⟩], [⟨7, false, (.own (.st (.pair (.int .i64) (.pair (.int .i64) (.pair (.int .i64) (.int .i64))))))⟩], 2, none⟩)], [], [], []⟩
theorem vmfleetlaw40_problem.eq (x) : fnEval vmfleetlaw40_problem.env vmfleetlaw40_problem.sp.args vmfleetlaw40_problem.sp.res Go.Proofs.Try.f10 x = vmfleetlaw40_problem.sp.f x := by kernel_rfl
theorem vmfleetlaw40_problem.sound : Sound Try.prog 10 vmfleetlaw40_problem.sp := Lift.sound (E := vmfleetlaw40_problem.env) Try.func10 (by kernel_rfl) (env_okN TYS.ok mixed ⟨vmfleetmake_Mix.sound, trivial⟩ trivial trivial) (by kernel_rfl) vmfleetlaw40_problem.eq

/-! vmfleet/vmfleetlaw40.valid -/
noncomputable def vmfleetlaw40_valid.f (hosts : List (Int × Int × Bool)) (l : List (Int × Int × Int × Int)) (on : List Int) : Option Bool :=
  bif !decide ((on.length : Int) = (l.length : Int)) then
    some false
  else
    (loop (Y := (Unit) ⊕ (Bool)) (fun (x1 : Int) =>
      bif decide (x1 < (hosts.length : Int)) then
        (loop (Y := (List (Int × Int × Int × Int)) ⊕ ((Int) ⊕ ((Unit) ⊕ (Bool)))) (fun (x2 : (List (Int × Int × Int × Int)) × Int) =>
          bif decide (x2.2 < (l.length : Int)) then
            if 0 ≤ x2.2 ∧ x2.2 < (on.length : Int) then
              bif decide ((nth (0 : Int) on x2.2) < 0) then
                some (.inr (.inr (.inr (.inr false))))
              else
                if 0 ≤ x2.2 ∧ x2.2 < (on.length : Int) then
                  bif (decide ((nth (0 : Int) on x2.2) ≥ (hosts.length : Int))) then
                    some (.inr (.inr (.inr (.inr false))))
                  else
                    if 0 ≤ x2.2 ∧ x2.2 < (on.length : Int) then
                      bif decide ((nth (0 : Int) on x2.2) = x1) then
                        if 0 ≤ x2.2 ∧ x2.2 < (l.length : Int) then
                          if (x2.1.length + ([((nth ((0 : Int), (0 : Int), (0 : Int), (0 : Int)) l x2.2).1, ((nth ((0 : Int), (0 : Int), (0 : Int), (0 : Int)) l x2.2).2).1, (((nth ((0 : Int), (0 : Int), (0 : Int), (0 : Int)) l x2.2).2).2))] : List (Int × Int × Int × Int)).length) * 32 ≤ 70368744177664 then
                            some (.inl ((x2.1 ++ ([((nth ((0 : Int), (0 : Int), (0 : Int), (0 : Int)) l x2.2).1, ((nth ((0 : Int), (0 : Int), (0 : Int), (0 : Int)) l x2.2).2).1, (((nth ((0 : Int), (0 : Int), (0 : Int), (0 : Int)) l x2.2).2).2))] : List (Int × Int × Int × Int))), IntKind.wrap .i64 (x2.2 + 1)))
                          else none
                        else none
                      else
                        some (.inl (x2.1, IntKind.wrap .i64 (x2.2 + 1)))
                    else none
                else none
            else none
          else
            some (.inr (.inl x2.1))) ([], (0 : Int))).bind fun o => match o with
        | .inl y3 =>
          if 0 ≤ x1 ∧ x1 < (hosts.length : Int) then
            (admission_Fits.f ((nth ((0 : Int), (0 : Int), false) hosts x1).1, ((nth ((0 : Int), (0 : Int), false) hosts x1).2)) y3).bind fun r1 =>
            bif !r1 then
              some (.inr (.inr false))
            else
              some (.inl (IntKind.wrap .i64 (x1 + 1)))
          else none
        | .inr r => some r
      else
        some (.inr (.inl ()))) (0 : Int)).bind fun o => match o with
    | .inl y4 =>
      some true
    | .inr r => some r
noncomputable def vmfleetlaw40_valid.sp : FSpec := ⟨[(.sl (.st (.pair (.int .i64) (.pair (.int .i64) .bool)))), (.sl (.st (.pair (.int .i64) (.pair (.int .i64) (.pair (.int .i64) (.int .i64)))))), (.sl (.int .i64))], [.bool], fun x => vmfleetlaw40_valid.f x.1 x.2.1 x.2.2⟩
noncomputable def vmfleetlaw40_valid.env : Env := ⟨TYS, [(28, admission_Fits.sp)], [], [(8, ⟨[0, 1, 2, 7], [⟨8, false, (.own (.st (.pair (.int .i64) (.pair (.int .i64) (.pair (.int .i64) (.int .i64))))))⟩, ⟨9, false, (.int .i64)⟩], [⟨8, false, (.own (.st (.pair (.int .i64) (.pair (.int .i64) (.pair (.int .i64) (.int .i64))))))⟩], 2, none⟩), (4, ⟨[0, 1, 2], [⟨7, false, (.int .i64)⟩], [], 0, none⟩)], [], [], []⟩
theorem vmfleetlaw40_valid.eq (x) : fnEval vmfleetlaw40_valid.env vmfleetlaw40_valid.sp.args vmfleetlaw40_valid.sp.res Go.Proofs.Try.f12 x = vmfleetlaw40_valid.sp.f x := by kernel_rfl
theorem vmfleetlaw40_valid.sound : Sound Try.prog 12 vmfleetlaw40_valid.sp := Lift.sound (E := vmfleetlaw40_valid.env) Try.func12 (by kernel_rfl) (env_okN TYS.ok mixed ⟨admission_Fits.sound, trivial⟩ trivial trivial) (by kernel_rfl) vmfleetlaw40_valid.eq

/-! vmfleet/vmfleetmake.Round -/
noncomputable def vmfleetmake_Round.f (n : Int) (k : Int) : Option Int :=
  if k = 0 then none else
  bif decide ((Int.tmod n k) < 0) then
    some (IntKind.wrap .i64 ((Int.tmod n k) + k))
  else
    some (Int.tmod n k)
noncomputable def vmfleetmake_Round.sp : FSpec := ⟨[(.int .i64), (.int .i64)], [(.int .i64)], fun x => vmfleetmake_Round.f x.1 x.2⟩
noncomputable def vmfleetmake_Round.env : Env := ⟨TYS, [], [], [], [], [], []⟩
theorem vmfleetmake_Round.eq (x) : fnEval vmfleetmake_Round.env vmfleetmake_Round.sp.args vmfleetmake_Round.sp.res Go.Proofs.Try.f13 x = vmfleetmake_Round.sp.f x := by kernel_rfl
theorem vmfleetmake_Round.sound : Sound Try.prog 13 vmfleetmake_Round.sp := Lift.sound (E := vmfleetmake_Round.env) Try.func13 (by kernel_rfl) (env_okN TYS.ok mixed trivial trivial trivial) (by kernel_rfl) vmfleetmake_Round.eq

/-! vmfleet/vmfleetlaw40.BalanceAssigns -/
noncomputable def vmfleetlaw40_BalanceAssigns.f (hosts : List Int) (l : List Int) (try_ : List Int) : Option Bool :=
  bif decide ((hosts.length : Int) < 1) then
    (vmfleetlaw40_awake.f).bind fun r1 =>
    some r1
  else
    bif decide ((hosts.length : Int) > 4) then
      (vmfleetlaw40_awake.f).bind fun r2 =>
      some r2
    else
      bif decide ((l.length : Int) > 6) then
        (vmfleetlaw40_awake.f).bind fun r3 =>
        some r3
      else
        bif (decide ((try_.length : Int) < (l.length : Int))) then
          (vmfleetlaw40_awake.f).bind fun r4 =>
          some r4
        else
          (vmfleetlaw40_problem.f hosts l).bind fun r5 =>
          (balance_Assign.f r5.1 r5.2).bind fun r6 =>
          (bif r6.2 then
            (vmfleetlaw40_valid.f r5.1 r5.2 r6.1).bind fun r7 =>
            bif !r7 then
              some (.inr false)
            else
              bif !r6.2 then
                bif !decide ((r6.1.length : Int) = 0) then
                  some (.inr false)
                else
                  some (.inl ())
              else
                some (.inl ())
          else
            bif !r6.2 then
              bif !decide ((r6.1.length : Int) = 0) then
                some (.inr false)
              else
                some (.inl ())
            else
              some (.inl ()) : Option ((Unit) ⊕ (Bool))).bind fun o => match o with
          | .inl y1 =>
            (loop (Y := (List Int) ⊕ (Bool)) (fun (x2 : List Int × Int) =>
              bif decide (x2.2 < (r5.2.length : Int)) then
                if 0 ≤ x2.2 ∧ x2.2 < (try_.length : Int) then
                  (vmfleetmake_Round.f (nth (0 : Int) try_ x2.2) (r5.1.length : Int)).bind fun r8 =>
                  if (x2.1.length + ([r8] : List Int).length) * 8 ≤ 70368744177664 then
                    some (.inl (x2.1 ++ ([r8] : List Int), IntKind.wrap .i64 (x2.2 + 1)))
                  else none
                else none
              else
                some (.inr (.inl x2.1))) ([], (0 : Int))).bind fun o => match o with
            | .inl y3 =>
              (vmfleetlaw40_valid.f r5.1 r5.2 y3).bind fun r9 =>
              bif !r9 then
                (vmfleetlaw40_awake.f).bind fun r10 =>
                some r10
              else
                bif !r6.2 then
                  some false
                else
                  (loop (Y := (Unit) ⊕ (Bool)) (fun (x4 : Int) =>
                    bif decide (x4 < (r6.1.length : Int)) then
                      if 0 ≤ x4 ∧ x4 < (r6.1.length : Int) then
                        if 0 ≤ x4 ∧ x4 < (y3.length : Int) then
                          bif !decide ((nth (0 : Int) r6.1 x4) = (nth (0 : Int) y3 x4)) then
                            if 0 ≤ x4 ∧ x4 < (r6.1.length : Int) then
                              if 0 ≤ x4 ∧ x4 < (y3.length : Int) then
                                bif decide ((nth (0 : Int) r6.1 x4) < (nth (0 : Int) y3 x4)) then
                                  (vmfleetlaw40_awake.f).bind fun r11 =>
                                  some (.inr (.inr r11))
                                else
                                  some (.inr (.inr false))
                              else none
                            else none
                          else
                            some (.inl (IntKind.wrap .i64 (x4 + 1)))
                        else none
                      else none
                    else
                      some (.inr (.inl ()))) (0 : Int)).bind fun o => match o with
                  | .inl y5 =>
                    (vmfleetlaw40_awake.f).bind fun r12 =>
                    some r12
                  | .inr r => some r
            | .inr r => some r
          | .inr r => some r
noncomputable def vmfleetlaw40_BalanceAssigns.sp : FSpec := ⟨[(.sl (.int .i64)), (.sl (.int .i64)), (.sl (.int .i64))], [.bool], fun x => vmfleetlaw40_BalanceAssigns.f x.1 x.2.1 x.2.2⟩
noncomputable def vmfleetlaw40_BalanceAssigns.env : Env := ⟨TYS, [(9, vmfleetlaw40_awake.sp), (10, vmfleetlaw40_problem.sp), (11, balance_Assign.sp), (12, vmfleetlaw40_valid.sp), (13, vmfleetmake_Round.sp)], [], [(9, ⟨[2, 7, 8, 9, 10], [⟨11, false, (.own (.int .i64))⟩, ⟨12, false, (.int .i64)⟩], [⟨11, false, (.own (.int .i64))⟩], 0, none⟩), (17, ⟨[9, 11], [⟨13, false, (.int .i64)⟩], [], 2, none⟩)], [(7, ⟨[2, 7, 8, 9, 10], [], [], 0, none⟩)], [], []⟩
theorem vmfleetlaw40_BalanceAssigns.eq (x) : fnEval vmfleetlaw40_BalanceAssigns.env vmfleetlaw40_BalanceAssigns.sp.args vmfleetlaw40_BalanceAssigns.sp.res Go.Proofs.Try.f3 x = vmfleetlaw40_BalanceAssigns.sp.f x := by kernel_rfl
theorem vmfleetlaw40_BalanceAssigns.sound : Sound Try.prog 3 vmfleetlaw40_BalanceAssigns.sp := Lift.sound (E := vmfleetlaw40_BalanceAssigns.env) Try.func3 (by kernel_rfl) (env_okN TYS.ok mixed ⟨vmfleetlaw40_awake.sound, vmfleetlaw40_problem.sound, balance_Assign.sound, vmfleetlaw40_valid.sound, vmfleetmake_Round.sound, trivial⟩ trivial trivial) (by kernel_rfl) vmfleetlaw40_BalanceAssigns.eq

/-! vmfleet/vmfleetlaw40.BalanceEvacuates -/
noncomputable def vmfleetlaw40_BalanceEvacuates.f (hosts : List Int) (l : List Int) (host : Int) : Option Bool :=
  bif decide ((hosts.length : Int) < 1) then
    (vmfleetlaw40_awake.f).bind fun r1 =>
    some r1
  else
    bif decide ((hosts.length : Int) > 4) then
      (vmfleetlaw40_awake.f).bind fun r2 =>
      some r2
    else
      bif decide ((l.length : Int) > 6) then
        (vmfleetlaw40_awake.f).bind fun r3 =>
        some r3
      else
        (vmfleetlaw40_problem.f hosts l).bind fun r4 =>
        (balance_Assign.f r4.1 r4.2).bind fun r5 =>
        (vmfleetmake_Round.f host (r4.1.length : Int)).bind fun r6 =>
        (balance_Evacuate.f r4.1 r4.2 r5.1 r6).bind fun r7 =>
        (bif !r5.2 then
          some (.inl true)
        else
          some (.inl (!r7.2.2)) : Option ((Bool) ⊕ (Bool))).bind fun o => match o with
        | .inl y1 =>
          bif y1 then
            bif !r7.2.2 then
              bif decide ((r7.1.length : Int) = 0) then
                bif decide ((r7.2.1.length : Int) = 0) then
                  (vmfleetlaw40_awake.f).bind fun r8 =>
                  some r8
                else
                  some false
              else
                some false
            else
              some false
          else
            if (([] : List Int).length + r5.1.length) * 8 ≤ 70368744177664 then
              (loop (Y := (List Int) ⊕ (Bool)) (fun (x2 : List Int × Int) =>
                bif decide (x2.2 < (r7.1.length : Int)) then
                  if 0 ≤ x2.2 ∧ x2.2 < (r7.1.length : Int) then
                    bif decide (((nth ((0 : Int), (0 : Int), (0 : Int)) r7.1 x2.2).1) < 0) then
                      some (.inr (.inr false))
                    else
                      bif (decide (((nth ((0 : Int), (0 : Int), (0 : Int)) r7.1 x2.2).1) ≥ (x2.1.length : Int))) then
                        some (.inr (.inr false))
                      else
                        bif (!decide ((((nth ((0 : Int), (0 : Int), (0 : Int)) r7.1 x2.2).2).1) = r6)) then
                          some (.inr (.inr false))
                        else
                          if 0 ≤ ((nth ((0 : Int), (0 : Int), (0 : Int)) r7.1 x2.2).1) ∧ ((nth ((0 : Int), (0 : Int), (0 : Int)) r7.1 x2.2).1) < (x2.1.length : Int) then
                            bif (!decide ((nth (0 : Int) x2.1 ((nth ((0 : Int), (0 : Int), (0 : Int)) r7.1 x2.2).1)) = r6)) then
                              some (.inr (.inr false))
                            else
                              bif (decide ((((nth ((0 : Int), (0 : Int), (0 : Int)) r7.1 x2.2).2).2) = r6)) then
                                some (.inr (.inr false))
                              else
                                if 0 ≤ ((nth ((0 : Int), (0 : Int), (0 : Int)) r7.1 x2.2).1) ∧ ((nth ((0 : Int), (0 : Int), (0 : Int)) r7.1 x2.2).1) < (x2.1.length : Int) then
                                  let v5 := put x2.1 ((nth ((0 : Int), (0 : Int), (0 : Int)) r7.1 x2.2).1) (((nth ((0 : Int), (0 : Int), (0 : Int)) r7.1 x2.2).2).2)
                                  (vmfleetlaw40_valid.f r4.1 r4.2 v5).bind fun r9 =>
                                  bif !r9 then
                                    some (.inr (.inr false))
                                  else
                                    some (.inl (v5, IntKind.wrap .i64 (x2.2 + 1)))
                                else none
                          else none
                  else none
                else
                  some (.inr (.inl x2.1))) (([] : List Int) ++ r5.1, (0 : Int))).bind fun o => match o with
              | .inl y3 =>
                (loop (Y := (Unit) ⊕ (Bool)) (fun (x4 : Int) =>
                  bif decide (x4 < (y3.length : Int)) then
                    if 0 ≤ x4 ∧ x4 < (y3.length : Int) then
                      bif decide ((nth (0 : Int) y3 x4) = r6) then
                        some (.inr (.inr false))
                      else
                        if 0 ≤ x4 ∧ x4 < (r5.1.length : Int) then
                          bif !decide ((nth (0 : Int) r5.1 x4) = r6) then
                            if 0 ≤ x4 ∧ x4 < (y3.length : Int) then
                              if 0 ≤ x4 ∧ x4 < (r5.1.length : Int) then
                                bif (!decide ((nth (0 : Int) y3 x4) = (nth (0 : Int) r5.1 x4))) then
                                  some (.inr (.inr false))
                                else
                                  some (.inl (IntKind.wrap .i64 (x4 + 1)))
                              else none
                            else none
                          else
                            some (.inl (IntKind.wrap .i64 (x4 + 1)))
                        else none
                    else none
                  else
                    some (.inr (.inl ()))) (0 : Int)).bind fun o => match o with
                | .inl y5 =>
                  (vmfleetref1_SameInts.f y3 r7.2.1).bind fun r10 =>
                  bif r10 then
                    (vmfleetlaw40_awake.f).bind fun r11 =>
                    some r11
                  else
                    some false
                | .inr r => some r
              | .inr r => some r
            else none
        | .inr r => some r
noncomputable def vmfleetlaw40_BalanceEvacuates.sp : FSpec := ⟨[(.sl (.int .i64)), (.sl (.int .i64)), (.int .i64)], [.bool], fun x => vmfleetlaw40_BalanceEvacuates.f x.1 x.2.1 x.2.2⟩
noncomputable def vmfleetlaw40_BalanceEvacuates.env : Env := ⟨TYS, [(9, vmfleetlaw40_awake.sp), (10, vmfleetlaw40_problem.sp), (11, balance_Assign.sp), (12, vmfleetlaw40_valid.sp), (13, vmfleetmake_Round.sp), (14, balance_Evacuate.sp), (15, vmfleetref1_SameInts.sp)], [], [(11, ⟨[7, 8, 9, 11, 12, 13], [⟨15, false, (.own (.int .i64))⟩, ⟨16, false, (.int .i64)⟩], [⟨15, false, (.own (.int .i64))⟩], 0, none⟩), (20, ⟨[9, 11, 13, 15], [⟨18, false, (.int .i64)⟩], [], 2, none⟩)], [(8, ⟨[6, 7, 8, 9, 11, 12, 13, 14], [], [⟨63, false, .bool⟩], 0, none⟩)], [], []⟩
theorem vmfleetlaw40_BalanceEvacuates.eq (x) : fnEval vmfleetlaw40_BalanceEvacuates.env vmfleetlaw40_BalanceEvacuates.sp.args vmfleetlaw40_BalanceEvacuates.sp.res Go.Proofs.Try.f4 x = vmfleetlaw40_BalanceEvacuates.sp.f x := by kernel_rfl
theorem vmfleetlaw40_BalanceEvacuates.sound : Sound Try.prog 4 vmfleetlaw40_BalanceEvacuates.sp := Lift.sound (E := vmfleetlaw40_BalanceEvacuates.env) Try.func4 (by kernel_rfl) (env_okN TYS.ok mixed ⟨vmfleetlaw40_awake.sound, vmfleetlaw40_problem.sound, balance_Assign.sound, vmfleetlaw40_valid.sound, vmfleetmake_Round.sound, balance_Evacuate.sound, vmfleetref1_SameInts.sound, trivial⟩ trivial trivial) (by kernel_rfl) vmfleetlaw40_BalanceEvacuates.eq

/-! vmfleet/vmfleetlaw40.BalanceChooses -/
noncomputable def vmfleetlaw40_BalanceChooses.f (hosts : List Int) (l : List Int) (n : Int) (not_ : Int) : Option Bool :=
  bif decide ((hosts.length : Int) < 1) then
    (vmfleetlaw40_awake.f).bind fun r1 =>
    some r1
  else
    bif decide ((hosts.length : Int) > 4) then
      (vmfleetlaw40_awake.f).bind fun r2 =>
      some r2
    else
      bif decide ((l.length : Int) > 6) then
        (vmfleetlaw40_awake.f).bind fun r3 =>
        some r3
      else
        (vmfleetlaw40_problem.f hosts l).bind fun r4 =>
        (vmfleetlaw40_problem.f [] ([n] : List Int)).bind fun r5 =>
        (balance_Assign.f r4.1 r4.2).bind fun r6 =>
        bif !r6.2 then
          (vmfleetlaw40_awake.f).bind fun r7 =>
          some r7
        else
          (vmfleetmake_Round.f not_ (IntKind.wrap .i64 ((r4.1.length : Int) + 1))).bind fun r8 =>
          if 0 ≤ (0 : Int) ∧ (0 : Int) < (r5.2.length : Int) then
            (balance_Choose.f r4.1 r4.2 r6.1 ((nth ((0 : Int), (0 : Int), (0 : Int), (0 : Int)) r5.2 (0 : Int)).1, ((nth ((0 : Int), (0 : Int), (0 : Int), (0 : Int)) r5.2 (0 : Int)).2).1, (((nth ((0 : Int), (0 : Int), (0 : Int), (0 : Int)) r5.2 (0 : Int)).2).2)) ([r8] : List Int)).bind fun r9 =>
            (loop (Y := (Bool × Int) ⊕ (Bool)) (fun (x1 : Bool × Int × Int) =>
              bif decide (x1.2.2 < (r4.1.length : Int)) then
                (loop (Y := (List (Int × Int × Int × Int)) ⊕ ((Bool × Int × Int) ⊕ ((Bool × Int) ⊕ (Bool)))) (fun (x2 : (List (Int × Int × Int × Int)) × Int) =>
                  bif decide (x2.2 < (r4.2.length : Int)) then
                    bif decide (x2.2 < (r6.1.length : Int)) then
                      if 0 ≤ x2.2 ∧ x2.2 < (r6.1.length : Int) then
                        bif decide ((nth (0 : Int) r6.1 x2.2) = x1.2.2) then
                          if 0 ≤ x2.2 ∧ x2.2 < (r4.2.length : Int) then
                            if (x2.1.length + ([((nth ((0 : Int), (0 : Int), (0 : Int), (0 : Int)) r4.2 x2.2).1, ((nth ((0 : Int), (0 : Int), (0 : Int), (0 : Int)) r4.2 x2.2).2).1, (((nth ((0 : Int), (0 : Int), (0 : Int), (0 : Int)) r4.2 x2.2).2).2))] : List (Int × Int × Int × Int)).length) * 32 ≤ 70368744177664 then
                              some (.inl ((x2.1 ++ ([((nth ((0 : Int), (0 : Int), (0 : Int), (0 : Int)) r4.2 x2.2).1, ((nth ((0 : Int), (0 : Int), (0 : Int), (0 : Int)) r4.2 x2.2).2).1, (((nth ((0 : Int), (0 : Int), (0 : Int), (0 : Int)) r4.2 x2.2).2).2))] : List (Int × Int × Int × Int))), IntKind.wrap .i64 (x2.2 + 1)))
                            else none
                          else none
                        else
                          some (.inl (x2.1, IntKind.wrap .i64 (x2.2 + 1)))
                      else none
                    else
                      some (.inr (.inl x2.1))
                  else
                    some (.inr (.inl x2.1))) ([], (0 : Int))).bind fun o => match o with
                | .inl y3 =>
                  if 0 ≤ x1.2.2 ∧ x1.2.2 < (r4.1.length : Int) then
                    (admission_Free.f ((nth ((0 : Int), (0 : Int), false) r4.1 x1.2.2).1, ((nth ((0 : Int), (0 : Int), false) r4.1 x1.2.2).2)) y3).bind fun r10 =>
                    (bif !decide (x1.2.2 = r8) then
                      if 0 ≤ x1.2.2 ∧ x1.2.2 < (r4.1.length : Int) then
                        if 0 ≤ (0 : Int) ∧ (0 : Int) < (r5.2.length : Int) then
                          (admission_Admit.f ((nth ((0 : Int), (0 : Int), false) r4.1 x1.2.2).1, ((nth ((0 : Int), (0 : Int), false) r4.1 x1.2.2).2)) y3 ((nth ((0 : Int), (0 : Int), (0 : Int), (0 : Int)) r5.2 (0 : Int)).1, ((nth ((0 : Int), (0 : Int), (0 : Int), (0 : Int)) r5.2 (0 : Int)).2).1, (((nth ((0 : Int), (0 : Int), (0 : Int), (0 : Int)) r5.2 (0 : Int)).2).2))).bind fun r11 =>
                          some (.inl (decide (r11 = 0)))
                        else none
                      else none
                    else
                      some (.inl false) : Option ((Bool) ⊕ ((Bool × Int × Int) ⊕ ((Bool × Int) ⊕ (Bool))))).bind fun o => match o with
                    | .inl y4 =>
                      (bif y4 then
                        bif !x1.1 then
                          some (.inl (true, r10.1))
                        else
                          bif decide (r10.1 > x1.2.1) then
                            some (.inl (true, r10.1))
                          else
                            some (.inl (x1.1, x1.2.1))
                      else
                        some (.inl (x1.1, x1.2.1)) : Option ((Bool × Int) ⊕ ((Bool × Int × Int) ⊕ ((Bool × Int) ⊕ (Bool))))).bind fun o => match o with
                      | .inl y5 =>
                        bif r9.2 then
                          bif decide (x1.2.2 = r9.1) then
                            bif !y4 then
                              some (.inr (.inr false))
                            else
                              some (.inl (y5.1, y5.2, IntKind.wrap .i64 (x1.2.2 + 1)))
                          else
                            some (.inl (y5.1, y5.2, IntKind.wrap .i64 (x1.2.2 + 1)))
                        else
                          some (.inl (y5.1, y5.2, IntKind.wrap .i64 (x1.2.2 + 1)))
                      | .inr r => some r
                    | .inr r => some r
                  else none
                | .inr r => some r
              else
                some (.inr (.inl (x1.1, x1.2.1)))) (false, (0 : Int), (0 : Int))).bind fun o => match o with
            | .inl y6 =>
              bif !r9.2 then
                bif !y6.1 then
                  bif decide (r9.1 = 0) then
                    (vmfleetlaw40_awake.f).bind fun r12 =>
                    some r12
                  else
                    some false
                else
                  some false
              else
                bif decide (r9.1 < 0) then
                  some false
                else
                  bif decide (r9.1 ≥ (r4.1.length : Int)) then
                    some false
                  else
                    (loop (Y := (List (Int × Int × Int × Int)) ⊕ (Bool)) (fun (x7 : (List (Int × Int × Int × Int)) × Int) =>
                      bif decide (x7.2 < (r4.2.length : Int)) then
                        bif decide (x7.2 < (r6.1.length : Int)) then
                          if 0 ≤ x7.2 ∧ x7.2 < (r6.1.length : Int) then
                            bif decide ((nth (0 : Int) r6.1 x7.2) = r9.1) then
                              if 0 ≤ x7.2 ∧ x7.2 < (r4.2.length : Int) then
                                if (x7.1.length + ([((nth ((0 : Int), (0 : Int), (0 : Int), (0 : Int)) r4.2 x7.2).1, ((nth ((0 : Int), (0 : Int), (0 : Int), (0 : Int)) r4.2 x7.2).2).1, (((nth ((0 : Int), (0 : Int), (0 : Int), (0 : Int)) r4.2 x7.2).2).2))] : List (Int × Int × Int × Int)).length) * 32 ≤ 70368744177664 then
                                  some (.inl ((x7.1 ++ ([((nth ((0 : Int), (0 : Int), (0 : Int), (0 : Int)) r4.2 x7.2).1, ((nth ((0 : Int), (0 : Int), (0 : Int), (0 : Int)) r4.2 x7.2).2).1, (((nth ((0 : Int), (0 : Int), (0 : Int), (0 : Int)) r4.2 x7.2).2).2))] : List (Int × Int × Int × Int))), IntKind.wrap .i64 (x7.2 + 1)))
                                else none
                              else none
                            else
                              some (.inl (x7.1, IntKind.wrap .i64 (x7.2 + 1)))
                          else none
                        else
                          some (.inr (.inl x7.1))
                      else
                        some (.inr (.inl x7.1))) ([], (0 : Int))).bind fun o => match o with
                    | .inl y8 =>
                      if 0 ≤ r9.1 ∧ r9.1 < (r4.1.length : Int) then
                        (admission_Free.f ((nth ((0 : Int), (0 : Int), false) r4.1 r9.1).1, ((nth ((0 : Int), (0 : Int), false) r4.1 r9.1).2)) y8).bind fun r13 =>
                        bif y6.1 then
                          bif decide (r13.1 = y6.2) then
                            (vmfleetlaw40_awake.f).bind fun r14 =>
                            some r14
                          else
                            some false
                        else
                          some false
                      else none
                    | .inr r => some r
            | .inr r => some r
          else none
noncomputable def vmfleetlaw40_BalanceChooses.sp : FSpec := ⟨[(.sl (.int .i64)), (.sl (.int .i64)), (.int .i64), (.int .i64)], [.bool], fun x => vmfleetlaw40_BalanceChooses.f x.1 x.2.1 x.2.2.1 x.2.2.2⟩
noncomputable def vmfleetlaw40_BalanceChooses.env : Env := ⟨TYS, [(9, vmfleetlaw40_awake.sp), (10, vmfleetlaw40_problem.sp), (11, balance_Assign.sp), (13, vmfleetmake_Round.sp), (16, balance_Choose.sp), (17, admission_Free.sp), (18, admission_Admit.sp)], [], [(17, ⟨[9, 10, 12, 13, 15, 16, 17, 18, 19, 20], [⟨21, false, (.own (.st (.pair (.int .i64) (.pair (.int .i64) (.pair (.int .i64) (.int .i64))))))⟩, ⟨22, false, (.int .i64)⟩], [⟨21, false, (.own (.st (.pair (.int .i64) (.pair (.int .i64) (.pair (.int .i64) (.int .i64))))))⟩], 2, none⟩), (13, ⟨[9, 10, 12, 13, 15, 16, 17], [⟨18, false, .bool⟩, ⟨19, false, (.int .i64)⟩, ⟨20, false, (.int .i64)⟩], [⟨18, false, .bool⟩, ⟨19, false, (.int .i64)⟩], 0, none⟩), (33, ⟨[9, 10, 13, 16, 18, 19], [⟨26, false, (.own (.st (.pair (.int .i64) (.pair (.int .i64) (.pair (.int .i64) (.int .i64))))))⟩, ⟨27, false, (.int .i64)⟩], [⟨26, false, (.own (.st (.pair (.int .i64) (.pair (.int .i64) (.pair (.int .i64) (.int .i64))))))⟩], 4, none⟩)], [(23, ⟨[18, 19, 20, 23], [], [⟨25, false, .bool⟩], 0, none⟩), (25, ⟨[20, 25], [], [⟨18, false, .bool⟩, ⟨19, false, (.int .i64)⟩], 0, none⟩)], [], []⟩
theorem vmfleetlaw40_BalanceChooses.eq (x) : fnEval vmfleetlaw40_BalanceChooses.env vmfleetlaw40_BalanceChooses.sp.args vmfleetlaw40_BalanceChooses.sp.res Go.Proofs.Try.f5 x = vmfleetlaw40_BalanceChooses.sp.f x := by kernel_rfl
theorem vmfleetlaw40_BalanceChooses.sound : Sound Try.prog 5 vmfleetlaw40_BalanceChooses.sp := Lift.sound (E := vmfleetlaw40_BalanceChooses.env) Try.func5 (by kernel_rfl) (env_okN TYS.ok mixed ⟨vmfleetlaw40_awake.sound, vmfleetlaw40_problem.sound, balance_Assign.sound, vmfleetmake_Round.sound, balance_Choose.sound, admission_Free.sound, admission_Admit.sound, trivial⟩ trivial trivial) (by kernel_rfl) vmfleetlaw40_BalanceChooses.eq

/-! vmfleet/vmfleetlaw40.small -/
noncomputable def vmfleetlaw40_small.f (hosts : List (Int × Int × Bool)) (l : List (Int × Int × Int × Int)) : Option Bool :=
  bif decide ((hosts.length : Int) ≤ 4) then
    some (decide ((l.length : Int) ≤ 6))
  else
    some false
noncomputable def vmfleetlaw40_small.sp : FSpec := ⟨[(.sl (.st (.pair (.int .i64) (.pair (.int .i64) .bool)))), (.sl (.st (.pair (.int .i64) (.pair (.int .i64) (.pair (.int .i64) (.int .i64))))))], [.bool], fun x => vmfleetlaw40_small.f x.1 x.2⟩
noncomputable def vmfleetlaw40_small.env : Env := ⟨TYS, [], [], [], [], [], []⟩
theorem vmfleetlaw40_small.eq (x) : fnEval vmfleetlaw40_small.env vmfleetlaw40_small.sp.args vmfleetlaw40_small.sp.res Go.Proofs.Try.f19 x = vmfleetlaw40_small.sp.f x := by kernel_rfl
theorem vmfleetlaw40_small.sound : Sound Try.prog 19 vmfleetlaw40_small.sp := Lift.sound (E := vmfleetlaw40_small.env) Try.func19 (by kernel_rfl) (env_okN TYS.ok mixed trivial trivial trivial) (by kernel_rfl) vmfleetlaw40_small.eq

/-! vmfleet/vmfleetref39.there -/
noncomputable def vmfleetref39_there.f (hosts : List (Int × Int × Bool)) (h : Int) : Option Bool :=
  bif decide (h ≥ 0) then
    some (decide (h < (hosts.length : Int)))
  else
    some false
noncomputable def vmfleetref39_there.sp : FSpec := ⟨[(.sl (.st (.pair (.int .i64) (.pair (.int .i64) .bool)))), (.int .i64)], [.bool], fun x => vmfleetref39_there.f x.1 x.2⟩
noncomputable def vmfleetref39_there.env : Env := ⟨TYS, [], [], [], [], [], []⟩
theorem vmfleetref39_there.eq (x) : fnEval vmfleetref39_there.env vmfleetref39_there.sp.args vmfleetref39_there.sp.res Go.Proofs.Try.f57 x = vmfleetref39_there.sp.f x := by kernel_rfl
theorem vmfleetref39_there.sound : Sound Try.prog 57 vmfleetref39_there.sp := Lift.sound (E := vmfleetref39_there.env) Try.func57 (by kernel_rfl) (env_okN TYS.ok mixed trivial trivial trivial) (by kernel_rfl) vmfleetref39_there.eq

/-! vmfleet/vmfleetref39.at -/
noncomputable def vmfleetref39_at.f (l : List (Int × Int × Int × Int)) (on : List Int) (host : Int) (but : Int) : Option (List (Int × Int × Int × Int)) :=
  (loop (Y := (List (Int × Int × Int × Int)) ⊕ (List (Int × Int × Int × Int))) (fun (x1 : (List (Int × Int × Int × Int)) × Int) =>
    bif decide (x1.2 < (l.length : Int)) then
      (if 0 ≤ x1.2 ∧ x1.2 < (on.length : Int) then
        bif decide ((nth (0 : Int) on x1.2) = host) then
          some (.inl (!decide (x1.2 = but)))
        else
          some (.inl false)
      else none : Option ((Bool) ⊕ (((List (Int × Int × Int × Int)) × Int) ⊕ ((List (Int × Int × Int × Int)) ⊕ (List (Int × Int × Int × Int)))))).bind fun o => match o with
      | .inl y2 =>
        bif y2 then
          if 0 ≤ x1.2 ∧ x1.2 < (l.length : Int) then
            if (x1.1.length + ([((nth ((0 : Int), (0 : Int), (0 : Int), (0 : Int)) l x1.2).1, ((nth ((0 : Int), (0 : Int), (0 : Int), (0 : Int)) l x1.2).2).1, (((nth ((0 : Int), (0 : Int), (0 : Int), (0 : Int)) l x1.2).2).2))] : List (Int × Int × Int × Int)).length) * 32 ≤ 70368744177664 then
              some (.inl ((x1.1 ++ ([((nth ((0 : Int), (0 : Int), (0 : Int), (0 : Int)) l x1.2).1, ((nth ((0 : Int), (0 : Int), (0 : Int), (0 : Int)) l x1.2).2).1, (((nth ((0 : Int), (0 : Int), (0 : Int), (0 : Int)) l x1.2).2).2))] : List (Int × Int × Int × Int))), IntKind.wrap .i64 (x1.2 + 1)))
            else none
          else none
        else
          some (.inl (x1.1, IntKind.wrap .i64 (x1.2 + 1)))
      | .inr r => some r
    else
      some (.inr (.inl x1.1))) ([], (0 : Int))).bind fun o => match o with
  | .inl y3 =>
    some y3
  | .inr r => some r
noncomputable def vmfleetref39_at.sp : FSpec := ⟨[(.sl (.st (.pair (.int .i64) (.pair (.int .i64) (.pair (.int .i64) (.int .i64)))))), (.sl (.int .i64)), (.int .i64), (.int .i64)], [(.own (.st (.pair (.int .i64) (.pair (.int .i64) (.pair (.int .i64) (.int .i64))))))], fun x => vmfleetref39_at.f x.1 x.2.1 x.2.2.1 x.2.2.2⟩
noncomputable def vmfleetref39_at.env : Env := ⟨TYS, [], [], [(3, ⟨[0, 1, 2, 3, 8], [⟨9, false, (.own (.st (.pair (.int .i64) (.pair (.int .i64) (.pair (.int .i64) (.int .i64))))))⟩, ⟨10, false, (.int .i64)⟩], [⟨9, false, (.own (.st (.pair (.int .i64) (.pair (.int .i64) (.pair (.int .i64) (.int .i64))))))⟩], 0, none⟩)], [(6, ⟨[9, 10], [], [⟨27, false, .bool⟩], 0, none⟩)], [], []⟩
theorem vmfleetref39_at.eq (x) : fnEval vmfleetref39_at.env vmfleetref39_at.sp.args vmfleetref39_at.sp.res Go.Proofs.Try.f54 x = vmfleetref39_at.sp.f x := by kernel_rfl
theorem vmfleetref39_at.sound : Sound Try.prog 54 vmfleetref39_at.sp := Lift.sound (E := vmfleetref39_at.env) Try.func54 (by kernel_rfl) (env_okN TYS.ok mixed trivial trivial trivial) (by kernel_rfl) vmfleetref39_at.eq

/-! vmfleet/vmfleetref39.unit -/
noncomputable def vmfleetref39_unit.f (n : Int) : Option Bool :=
  bif decide (n ≥ 0) then
    some (decide (n ≤ 1000000))
  else
    some false
noncomputable def vmfleetref39_unit.sp : FSpec := ⟨[(.int .i64)], [.bool], fun x => vmfleetref39_unit.f x⟩
noncomputable def vmfleetref39_unit.env : Env := ⟨TYS, [], [], [], [], [], []⟩
theorem vmfleetref39_unit.eq (x) : fnEval vmfleetref39_unit.env vmfleetref39_unit.sp.args vmfleetref39_unit.sp.res Go.Proofs.Try.f63 x = vmfleetref39_unit.sp.f x := by kernel_rfl
theorem vmfleetref39_unit.sound : Sound Try.prog 63 vmfleetref39_unit.sp := Lift.sound (E := vmfleetref39_unit.env) Try.func63 (by kernel_rfl) (env_okN TYS.ok mixed trivial trivial trivial) (by kernel_rfl) vmfleetref39_unit.eq

/-! vmfleet/vmfleetref39.ValidCapacity -/
noncomputable def vmfleetref39_ValidCapacity.f (c : Int × Int × Bool) : Option Bool :=
  (vmfleetref39_unit.f c.1).bind fun r1 =>
  bif r1 then
    (vmfleetref39_unit.f c.2.1).bind fun r2 =>
    some r2
  else
    some false
noncomputable def vmfleetref39_ValidCapacity.sp : FSpec := ⟨[(.st (.pair (.int .i64) (.pair (.int .i64) .bool)))], [.bool], fun x => vmfleetref39_ValidCapacity.f x⟩
noncomputable def vmfleetref39_ValidCapacity.env : Env := ⟨TYS, [(63, vmfleetref39_unit.sp)], [], [], [], [], []⟩
theorem vmfleetref39_ValidCapacity.eq (x) : fnEval vmfleetref39_ValidCapacity.env vmfleetref39_ValidCapacity.sp.args vmfleetref39_ValidCapacity.sp.res Go.Proofs.Try.f58 x = vmfleetref39_ValidCapacity.sp.f x := by kernel_rfl
theorem vmfleetref39_ValidCapacity.sound : Sound Try.prog 58 vmfleetref39_ValidCapacity.sp := Lift.sound (E := vmfleetref39_ValidCapacity.env) Try.func58 (by kernel_rfl) (env_okN TYS.ok mixed ⟨vmfleetref39_unit.sound, trivial⟩ trivial trivial) (by kernel_rfl) vmfleetref39_ValidCapacity.eq

/-! vmfleet/vmfleetref39.ValidDemand -/
noncomputable def vmfleetref39_ValidDemand.f (d : Int × Int × Int × Int) : Option Bool :=
  (vmfleetref39_unit.f d.2.1).bind fun r1 =>
  bif r1 then
    (vmfleetref39_unit.f d.2.2.1).bind fun r2 =>
    bif r2 then
      bif decide (d.1 ≥ 0) then
        bif decide (d.1 ≤ d.2.1) then
          some (decide (d.2.2.2 ≥ 0))
        else
          some false
      else
        some false
    else
      some false
  else
    some false
noncomputable def vmfleetref39_ValidDemand.sp : FSpec := ⟨[(.st (.pair (.int .i64) (.pair (.int .i64) (.pair (.int .i64) (.int .i64)))))], [.bool], fun x => vmfleetref39_ValidDemand.f x⟩
noncomputable def vmfleetref39_ValidDemand.env : Env := ⟨TYS, [(63, vmfleetref39_unit.sp)], [], [], [], [], []⟩
theorem vmfleetref39_ValidDemand.eq (x) : fnEval vmfleetref39_ValidDemand.env vmfleetref39_ValidDemand.sp.args vmfleetref39_ValidDemand.sp.res Go.Proofs.Try.f64 x = vmfleetref39_ValidDemand.sp.f x := by kernel_rfl
theorem vmfleetref39_ValidDemand.sound : Sound Try.prog 64 vmfleetref39_ValidDemand.sp := Lift.sound (E := vmfleetref39_ValidDemand.env) Try.func64 (by kernel_rfl) (env_okN TYS.ok mixed ⟨vmfleetref39_unit.sound, trivial⟩ trivial trivial) (by kernel_rfl) vmfleetref39_ValidDemand.eq

/-! vmfleet/vmfleetref39.demands -/
noncomputable def vmfleetref39_demands.f (l : List (Int × Int × Int × Int)) : Option Bool :=
  bif decide ((l.length : Int) > 16) then
    some false
  else
    (loop (Y := (Unit) ⊕ (Bool)) (fun (x1 : Int) =>
      bif decide (x1 < (l.length : Int)) then
        if 0 ≤ x1 ∧ x1 < (l.length : Int) then
          (vmfleetref39_ValidDemand.f ((nth ((0 : Int), (0 : Int), (0 : Int), (0 : Int)) l x1).1, ((nth ((0 : Int), (0 : Int), (0 : Int), (0 : Int)) l x1).2).1, (((nth ((0 : Int), (0 : Int), (0 : Int), (0 : Int)) l x1).2).2))).bind fun r1 =>
          bif !r1 then
            some (.inr (.inr false))
          else
            some (.inl (IntKind.wrap .i64 (x1 + 1)))
        else none
      else
        some (.inr (.inl ()))) (0 : Int)).bind fun o => match o with
    | .inl y2 =>
      some true
    | .inr r => some r
noncomputable def vmfleetref39_demands.sp : FSpec := ⟨[(.sl (.st (.pair (.int .i64) (.pair (.int .i64) (.pair (.int .i64) (.int .i64))))))], [.bool], fun x => vmfleetref39_demands.f x⟩
noncomputable def vmfleetref39_demands.env : Env := ⟨TYS, [(64, vmfleetref39_ValidDemand.sp)], [], [(4, ⟨[0], [⟨3, false, (.int .i64)⟩], [], 0, none⟩)], [], [], []⟩
theorem vmfleetref39_demands.eq (x) : fnEval vmfleetref39_demands.env vmfleetref39_demands.sp.args vmfleetref39_demands.sp.res Go.Proofs.Try.f59 x = vmfleetref39_demands.sp.f x := by kernel_rfl
theorem vmfleetref39_demands.sound : Sound Try.prog 59 vmfleetref39_demands.sp := Lift.sound (E := vmfleetref39_demands.env) Try.func59 (by kernel_rfl) (env_okN TYS.ok mixed ⟨vmfleetref39_ValidDemand.sound, trivial⟩ trivial trivial) (by kernel_rfl) vmfleetref39_demands.eq

/-! vmfleet/vmfleetref39.Free -/
noncomputable def vmfleetref39_Free.f (c : Int × Int × Bool) (l : List (Int × Int × Int × Int)) : Option (Int × Int) :=
  (vmfleetref39_ValidCapacity.f c).bind fun r1 =>
  bif !r1 then
    some ((0 : Int), (0 : Int))
  else
    (vmfleetref39_demands.f l).bind fun r2 =>
    bif !r2 then
      some ((0 : Int), (0 : Int))
    else
      (loop (Y := (Int × Int) ⊕ (Int × Int)) (fun (x1 : Int × Int × Int) =>
        bif decide (x1.2.2 < (l.length : Int)) then
          if 0 ≤ x1.2.2 ∧ x1.2.2 < (l.length : Int) then
            if 0 ≤ x1.2.2 ∧ x1.2.2 < (l.length : Int) then
              some (.inl ((IntKind.wrap .i64 (x1.1 - ((nth ((0 : Int), (0 : Int), (0 : Int), (0 : Int)) l x1.2.2).1))), (IntKind.wrap .i64 (x1.2.1 - ((((nth ((0 : Int), (0 : Int), (0 : Int), (0 : Int)) l x1.2.2).2).2).1))), IntKind.wrap .i64 (x1.2.2 + 1)))
            else none
          else none
        else
          some (.inr (.inl (x1.1, x1.2.1)))) (c.1, c.2.1, (0 : Int))).bind fun o => match o with
      | .inl y2 =>
        some y2
      | .inr r => some r
noncomputable def vmfleetref39_Free.sp : FSpec := ⟨[(.st (.pair (.int .i64) (.pair (.int .i64) .bool))), (.sl (.st (.pair (.int .i64) (.pair (.int .i64) (.pair (.int .i64) (.int .i64))))))], [(.int .i64), (.int .i64)], fun x => vmfleetref39_Free.f x.1 x.2⟩
noncomputable def vmfleetref39_Free.env : Env := ⟨TYS, [(58, vmfleetref39_ValidCapacity.sp), (59, vmfleetref39_demands.sp)], [], [(5, ⟨[1, 4, 5], [⟨6, false, (.int .i64)⟩, ⟨7, false, (.int .i64)⟩, ⟨8, false, (.int .i64)⟩], [⟨6, false, (.int .i64)⟩, ⟨7, false, (.int .i64)⟩], 0, none⟩)], [], [], []⟩
theorem vmfleetref39_Free.eq (x) : fnEval vmfleetref39_Free.env vmfleetref39_Free.sp.args vmfleetref39_Free.sp.res Go.Proofs.Try.f60 x = vmfleetref39_Free.sp.f x := by kernel_rfl
theorem vmfleetref39_Free.sound : Sound Try.prog 60 vmfleetref39_Free.sp := Lift.sound (E := vmfleetref39_Free.env) Try.func60 (by kernel_rfl) (env_okN TYS.ok mixed ⟨vmfleetref39_ValidCapacity.sound, vmfleetref39_demands.sound, trivial⟩ trivial trivial) (by kernel_rfl) vmfleetref39_Free.eq

/-! vmfleet/vmfleetref39.Admit -/
noncomputable def vmfleetref39_Admit.f (c : Int × Int × Bool) (l : List (Int × Int × Int × Int)) (d : Int × Int × Int × Int) : Option Int :=
  (vmfleetref39_ValidCapacity.f c).bind fun r1 =>
  bif !r1 then
    some (3900 : Int)
  else
    (vmfleetref39_ValidDemand.f d).bind fun r2 =>
    bif !r2 then
      some (3900 : Int)
    else
      (vmfleetref39_demands.f l).bind fun r3 =>
      bif !r3 then
        some (3900 : Int)
      else
        bif !c.2.2 then
          some (3904 : Int)
        else
          (vmfleetref39_Free.f c l).bind fun r4 =>
          bif decide (r4.1 < d.1) then
            some (3901 : Int)
          else
            bif decide (r4.2 < d.2.2.1) then
              some (3902 : Int)
            else
              (loop (Y := (Unit) ⊕ (Int)) (fun (x1 : Int) =>
                bif decide (x1 < (l.length : Int)) then
                  bif !decide (d.2.2.2 = 0) then
                    if 0 ≤ x1 ∧ x1 < (l.length : Int) then
                      bif (decide (((((nth ((0 : Int), (0 : Int), (0 : Int), (0 : Int)) l x1).2).2).2) = d.2.2.2)) then
                        some (.inr (.inr (3903 : Int)))
                      else
                        some (.inl (IntKind.wrap .i64 (x1 + 1)))
                    else none
                  else
                    some (.inl (IntKind.wrap .i64 (x1 + 1)))
                else
                  some (.inr (.inl ()))) (0 : Int)).bind fun o => match o with
              | .inl y2 =>
                some (0 : Int)
              | .inr r => some r
noncomputable def vmfleetref39_Admit.sp : FSpec := ⟨[(.st (.pair (.int .i64) (.pair (.int .i64) .bool))), (.sl (.st (.pair (.int .i64) (.pair (.int .i64) (.pair (.int .i64) (.int .i64)))))), (.st (.pair (.int .i64) (.pair (.int .i64) (.pair (.int .i64) (.int .i64)))))], [(.int .i64)], fun x => vmfleetref39_Admit.f x.1 x.2.1 x.2.2⟩
noncomputable def vmfleetref39_Admit.env : Env := ⟨TYS, [(58, vmfleetref39_ValidCapacity.sp), (59, vmfleetref39_demands.sp), (60, vmfleetref39_Free.sp), (64, vmfleetref39_ValidDemand.sp)], [], [(11, ⟨[1, 5], [⟨9, false, (.int .i64)⟩], [], 0, none⟩)], [], [], []⟩
theorem vmfleetref39_Admit.eq (x) : fnEval vmfleetref39_Admit.env vmfleetref39_Admit.sp.args vmfleetref39_Admit.sp.res Go.Proofs.Try.f61 x = vmfleetref39_Admit.sp.f x := by kernel_rfl
theorem vmfleetref39_Admit.sound : Sound Try.prog 61 vmfleetref39_Admit.sp := Lift.sound (E := vmfleetref39_Admit.env) Try.func61 (by kernel_rfl) (env_okN TYS.ok mixed ⟨vmfleetref39_ValidCapacity.sound, vmfleetref39_demands.sound, vmfleetref39_Free.sound, vmfleetref39_ValidDemand.sound, trivial⟩ trivial trivial) (by kernel_rfl) vmfleetref39_Admit.eq

/-! vmfleet/vmfleetref39.Fits -/
noncomputable def vmfleetref39_Fits.f (c : Int × Int × Bool) (l : List (Int × Int × Int × Int)) : Option Bool :=
  (loop (Y := (Unit) ⊕ (Bool)) (fun (x1 : Int) =>
    bif decide (x1 < (l.length : Int)) then
      bif decide (x1 ≤ 17) then
        if 0 ≤ x1 ∧ x1 ≤ (l.length : Int) then
          if 0 ≤ x1 ∧ x1 < (l.length : Int) then
            (vmfleetref39_Admit.f c (slc l (0 : Int) x1) ((nth ((0 : Int), (0 : Int), (0 : Int), (0 : Int)) l x1).1, ((nth ((0 : Int), (0 : Int), (0 : Int), (0 : Int)) l x1).2).1, (((nth ((0 : Int), (0 : Int), (0 : Int), (0 : Int)) l x1).2).2))).bind fun r1 =>
            bif !decide (r1 = 0) then
              some (.inr (.inr false))
            else
              some (.inl (IntKind.wrap .i64 (x1 + 1)))
          else none
        else none
      else
        some (.inr (.inl ()))
    else
      some (.inr (.inl ()))) (0 : Int)).bind fun o => match o with
  | .inl y2 =>
    some true
  | .inr r => some r
noncomputable def vmfleetref39_Fits.sp : FSpec := ⟨[(.st (.pair (.int .i64) (.pair (.int .i64) .bool))), (.sl (.st (.pair (.int .i64) (.pair (.int .i64) (.pair (.int .i64) (.int .i64))))))], [.bool], fun x => vmfleetref39_Fits.f x.1 x.2⟩
noncomputable def vmfleetref39_Fits.env : Env := ⟨TYS, [(61, vmfleetref39_Admit.sp)], [], [(2, ⟨[1, 2], [⟨5, false, (.int .i64)⟩], [], 0, none⟩)], [], [], []⟩
theorem vmfleetref39_Fits.eq (x) : fnEval vmfleetref39_Fits.env vmfleetref39_Fits.sp.args vmfleetref39_Fits.sp.res Go.Proofs.Try.f62 x = vmfleetref39_Fits.sp.f x := by kernel_rfl
theorem vmfleetref39_Fits.sound : Sound Try.prog 62 vmfleetref39_Fits.sp := Lift.sound (E := vmfleetref39_Fits.env) Try.func62 (by kernel_rfl) (env_okN TYS.ok mixed ⟨vmfleetref39_Admit.sound, trivial⟩ trivial trivial) (by kernel_rfl) vmfleetref39_Fits.eq

/-! vmfleet/vmfleetref39.Placement -/
noncomputable def vmfleetref39_Placement.f (hosts : List (Int × Int × Bool)) (l : List (Int × Int × Int × Int)) (on : List Int) : Option Bool :=
  bif decide ((hosts.length : Int) < 1) then
    some false
  else
    bif decide ((hosts.length : Int) > 6) then
      some false
    else
      bif decide ((l.length : Int) > 16) then
        some false
      else
        bif (!decide ((on.length : Int) = (l.length : Int))) then
          some false
        else
          (loop (Y := (Unit) ⊕ (Bool)) (fun (x1 : Int) =>
            bif decide (x1 < (on.length : Int)) then
              if 0 ≤ x1 ∧ x1 < (on.length : Int) then
                (vmfleetref39_there.f hosts (nth (0 : Int) on x1)).bind fun r1 =>
                bif !r1 then
                  some (.inr (.inr false))
                else
                  some (.inl (IntKind.wrap .i64 (x1 + 1)))
              else none
            else
              some (.inr (.inl ()))) (0 : Int)).bind fun o => match o with
          | .inl y2 =>
            (loop (Y := (Unit) ⊕ (Bool)) (fun (x3 : Int) =>
              bif decide (x3 < (hosts.length : Int)) then
                if 0 ≤ x3 ∧ x3 < (hosts.length : Int) then
                  (vmfleetref39_at.f l on x3 (-1 : Int)).bind fun r2 =>
                  (vmfleetref39_Fits.f ((nth ((0 : Int), (0 : Int), false) hosts x3).1, ((nth ((0 : Int), (0 : Int), false) hosts x3).2)) r2).bind fun r3 =>
                  bif !r3 then
                    some (.inr (.inr false))
                  else
                    some (.inl (IntKind.wrap .i64 (x3 + 1)))
                else none
              else
                some (.inr (.inl ()))) (0 : Int)).bind fun o => match o with
            | .inl y4 =>
              some true
            | .inr r => some r
          | .inr r => some r
noncomputable def vmfleetref39_Placement.sp : FSpec := ⟨[(.sl (.st (.pair (.int .i64) (.pair (.int .i64) .bool)))), (.sl (.st (.pair (.int .i64) (.pair (.int .i64) (.pair (.int .i64) (.int .i64)))))), (.sl (.int .i64))], [.bool], fun x => vmfleetref39_Placement.f x.1 x.2.1 x.2.2⟩
noncomputable def vmfleetref39_Placement.env : Env := ⟨TYS, [(54, vmfleetref39_at.sp), (57, vmfleetref39_there.sp), (62, vmfleetref39_Fits.sp)], [], [(4, ⟨[0, 1, 2], [⟨7, false, (.int .i64)⟩], [], 0, none⟩), (9, ⟨[0, 1, 2], [⟨8, false, (.int .i64)⟩], [], 2, none⟩)], [], [], []⟩
theorem vmfleetref39_Placement.eq (x) : fnEval vmfleetref39_Placement.env vmfleetref39_Placement.sp.args vmfleetref39_Placement.sp.res Go.Proofs.Try.f53 x = vmfleetref39_Placement.sp.f x := by kernel_rfl
theorem vmfleetref39_Placement.sound : Sound Try.prog 53 vmfleetref39_Placement.sp := Lift.sound (E := vmfleetref39_Placement.env) Try.func53 (by kernel_rfl) (env_okN TYS.ok mixed ⟨vmfleetref39_at.sound, vmfleetref39_there.sound, vmfleetref39_Fits.sound, trivial⟩ trivial trivial) (by kernel_rfl) vmfleetref39_Placement.eq

/-! vmfleet/vmfleetref39.Load -/
noncomputable def vmfleetref39_Load.f (c : Int × Int × Bool) (l : List (Int × Int × Int × Int)) : Option Int :=
  (vmfleetref39_ValidCapacity.f c).bind fun r1 =>
  bif !r1 then
    some (0 : Int)
  else
    (vmfleetref39_demands.f l).bind fun r2 =>
    bif !r2 then
      some (0 : Int)
    else
      bif decide (c.1 = 0) then
        some (0 : Int)
      else
        (vmfleetref39_Free.f c l).bind fun r3 =>
        if c.1 = 0 then none else
        some (IntKind.wrap .i64 (Int.tdiv (IntKind.wrap .i64 ((IntKind.wrap .i64 (c.1 - r3.1)) * 1000)) c.1))
noncomputable def vmfleetref39_Load.sp : FSpec := ⟨[(.st (.pair (.int .i64) (.pair (.int .i64) .bool))), (.sl (.st (.pair (.int .i64) (.pair (.int .i64) (.pair (.int .i64) (.int .i64))))))], [(.int .i64)], fun x => vmfleetref39_Load.f x.1 x.2⟩
noncomputable def vmfleetref39_Load.env : Env := ⟨TYS, [(58, vmfleetref39_ValidCapacity.sp), (59, vmfleetref39_demands.sp), (60, vmfleetref39_Free.sp)], [], [], [], [], []⟩
theorem vmfleetref39_Load.eq (x) : fnEval vmfleetref39_Load.env vmfleetref39_Load.sp.args vmfleetref39_Load.sp.res Go.Proofs.Try.f42 x = vmfleetref39_Load.sp.f x := by kernel_rfl
theorem vmfleetref39_Load.sound : Sound Try.prog 42 vmfleetref39_Load.sp := Lift.sound (E := vmfleetref39_Load.env) Try.func42 (by kernel_rfl) (env_okN TYS.ok mixed ⟨vmfleetref39_ValidCapacity.sound, vmfleetref39_demands.sound, vmfleetref39_Free.sound, trivial⟩ trivial trivial) (by kernel_rfl) vmfleetref39_Load.eq

/-! vmfleet/vmfleetref39.Spread -/
noncomputable def vmfleetref39_Spread.f (hosts : List (Int × Int × Bool)) (l : List (Int × Int × Int × Int)) (on : List Int) : Option (Int × Bool) :=
  (vmfleetref39_Placement.f hosts l on).bind fun r1 =>
  bif !r1 then
    some ((0 : Int), false)
  else
    (loop (Y := (Int × Int × Int) ⊕ (Int × Bool)) (fun (x1 : Int × Int × Int × Int) =>
      bif decide (x1.2.2.2 < (hosts.length : Int)) then
        if 0 ≤ x1.2.2.2 ∧ x1.2.2.2 < (hosts.length : Int) then
          bif !(((nth ((0 : Int), (0 : Int), false) hosts x1.2.2.2).2).2) then
            some (.inl (x1.1, x1.2.1, x1.2.2.1, IntKind.wrap .i64 (x1.2.2.2 + 1)))
          else
            if 0 ≤ x1.2.2.2 ∧ x1.2.2.2 < (hosts.length : Int) then
              (vmfleetref39_at.f l on x1.2.2.2 (-1 : Int)).bind fun r2 =>
              (vmfleetref39_Load.f ((nth ((0 : Int), (0 : Int), false) hosts x1.2.2.2).1, ((nth ((0 : Int), (0 : Int), false) hosts x1.2.2.2).2)) r2).bind fun r3 =>
              (bif decide (x1.2.2.1 = 0) then
                some (.inl r3)
              else
                bif decide (r3 < x1.1) then
                  some (.inl r3)
                else
                  some (.inl x1.1) : Option ((Int) ⊕ ((Int × Int × Int × Int) ⊕ ((Int × Int × Int) ⊕ (Int × Bool))))).bind fun o => match o with
              | .inl y2 =>
                bif decide (x1.2.2.1 = 0) then
                  some (.inl (y2, r3, IntKind.wrap .i64 (x1.2.2.1 + 1), IntKind.wrap .i64 (x1.2.2.2 + 1)))
                else
                  bif decide (r3 > x1.2.1) then
                    some (.inl (y2, r3, IntKind.wrap .i64 (x1.2.2.1 + 1), IntKind.wrap .i64 (x1.2.2.2 + 1)))
                  else
                    some (.inl (y2, x1.2.1, IntKind.wrap .i64 (x1.2.2.1 + 1), IntKind.wrap .i64 (x1.2.2.2 + 1)))
              | .inr r => some r
            else none
        else none
      else
        some (.inr (.inl (x1.1, x1.2.1, x1.2.2.1)))) ((0 : Int), (0 : Int), (0 : Int), (0 : Int))).bind fun o => match o with
    | .inl y3 =>
      some (IntKind.wrap .i64 (y3.2.1 - y3.1), decide (y3.2.2 > 0))
    | .inr r => some r
noncomputable def vmfleetref39_Spread.sp : FSpec := ⟨[(.sl (.st (.pair (.int .i64) (.pair (.int .i64) .bool)))), (.sl (.st (.pair (.int .i64) (.pair (.int .i64) (.pair (.int .i64) (.int .i64)))))), (.sl (.int .i64))], [(.int .i64), .bool], fun x => vmfleetref39_Spread.f x.1 x.2.1 x.2.2⟩
noncomputable def vmfleetref39_Spread.env : Env := ⟨TYS, [(42, vmfleetref39_Load.sp), (53, vmfleetref39_Placement.sp), (54, vmfleetref39_at.sp)], [], [(5, ⟨[0, 1, 2, 6, 7], [⟨8, false, (.int .i64)⟩, ⟨9, false, (.int .i64)⟩, ⟨10, false, (.int .i64)⟩, ⟨11, false, (.int .i64)⟩], [⟨8, false, (.int .i64)⟩, ⟨9, false, (.int .i64)⟩, ⟨10, false, (.int .i64)⟩], 0, none⟩)], [(11, ⟨[9, 10, 11, 12], [], [⟨8, false, (.int .i64)⟩], 0, none⟩)], [], []⟩
theorem vmfleetref39_Spread.eq (x) : fnEval vmfleetref39_Spread.env vmfleetref39_Spread.sp.args vmfleetref39_Spread.sp.res Go.Proofs.Try.f37 x = vmfleetref39_Spread.sp.f x := by kernel_rfl
theorem vmfleetref39_Spread.sound : Sound Try.prog 37 vmfleetref39_Spread.sp := Lift.sound (E := vmfleetref39_Spread.env) Try.func37 (by kernel_rfl) (env_okN TYS.ok mixed ⟨vmfleetref39_Load.sound, vmfleetref39_Placement.sound, vmfleetref39_at.sound, trivial⟩ trivial trivial) (by kernel_rfl) vmfleetref39_Spread.eq

/-! vmfleet/vmfleetref39.choose -/
noncomputable def vmfleetref39_choose.f (hosts : List (Int × Int × Bool)) (l : List (Int × Int × Int × Int)) (on : List Int) (but : Int) (d : Int × Int × Int × Int) (not_ : List Int) : Option (Int × Bool) :=
  (loop (Y := (Int) ⊕ (Int × Bool)) (fun (x1 : Int × Int × Int) =>
    bif decide (x1.2.2 < (hosts.length : Int)) then
      (loop (Y := (Bool) ⊕ ((Int × Int × Int) ⊕ ((Int) ⊕ (Int × Bool)))) (fun (x2 : Bool × Int) =>
        bif decide (x2.2 < (not_.length : Int)) then
          bif x2.1 then
            some (.inl (true, IntKind.wrap .i64 (x2.2 + 1)))
          else
            if 0 ≤ x2.2 ∧ x2.2 < (not_.length : Int) then
              some (.inl ((decide ((nth (0 : Int) not_ x2.2) = x1.2.2)), IntKind.wrap .i64 (x2.2 + 1)))
            else none
        else
          some (.inr (.inl x2.1))) (false, (0 : Int))).bind fun o => match o with
      | .inl y3 =>
        (vmfleetref39_at.f l on x1.2.2 but).bind fun r1 =>
        if 0 ≤ x1.2.2 ∧ x1.2.2 < (hosts.length : Int) then
          (vmfleetref39_Free.f ((nth ((0 : Int), (0 : Int), false) hosts x1.2.2).1, ((nth ((0 : Int), (0 : Int), false) hosts x1.2.2).2)) r1).bind fun r2 =>
          bif !y3 then
            if 0 ≤ x1.2.2 ∧ x1.2.2 < (hosts.length : Int) then
              (vmfleetref39_Admit.f ((nth ((0 : Int), (0 : Int), false) hosts x1.2.2).1, ((nth ((0 : Int), (0 : Int), false) hosts x1.2.2).2)) r1 d).bind fun r3 =>
              bif decide (r3 = 0) then
                bif decide (x1.1 < 0) then
                  some (.inl (x1.2.2, r2.1, IntKind.wrap .i64 (x1.2.2 + 1)))
                else
                  bif decide (r2.1 > x1.2.1) then
                    some (.inl (x1.2.2, r2.1, IntKind.wrap .i64 (x1.2.2 + 1)))
                  else
                    some (.inl (x1.1, x1.2.1, IntKind.wrap .i64 (x1.2.2 + 1)))
              else
                some (.inl (x1.1, x1.2.1, IntKind.wrap .i64 (x1.2.2 + 1)))
            else none
          else
            some (.inl (x1.1, x1.2.1, IntKind.wrap .i64 (x1.2.2 + 1)))
        else none
      | .inr r => some r
    else
      some (.inr (.inl x1.1))) ((-1 : Int), (0 : Int), (0 : Int))).bind fun o => match o with
  | .inl y4 =>
    some (max y4 (0 : Int), decide (y4 ≥ 0))
  | .inr r => some r
noncomputable def vmfleetref39_choose.sp : FSpec := ⟨[(.sl (.st (.pair (.int .i64) (.pair (.int .i64) .bool)))), (.sl (.st (.pair (.int .i64) (.pair (.int .i64) (.pair (.int .i64) (.int .i64)))))), (.sl (.int .i64)), (.int .i64), (.st (.pair (.int .i64) (.pair (.int .i64) (.pair (.int .i64) (.int .i64))))), (.sl (.int .i64))], [(.int .i64), .bool], fun x => vmfleetref39_choose.f x.1 x.2.1 x.2.2.1 x.2.2.2.1 x.2.2.2.2.1 x.2.2.2.2.2⟩
noncomputable def vmfleetref39_choose.env : Env := ⟨TYS, [(54, vmfleetref39_at.sp), (60, vmfleetref39_Free.sp), (61, vmfleetref39_Admit.sp)], [], [(7, ⟨[0, 1, 2, 3, 5, 10, 12, 13, 14, 15, 16], [⟨17, false, .bool⟩, ⟨18, false, (.int .i64)⟩], [⟨17, false, .bool⟩], 2, none⟩), (3, ⟨[0, 1, 2, 3, 5, 10, 12, 13], [⟨14, false, (.int .i64)⟩, ⟨15, false, (.int .i64)⟩, ⟨16, false, (.int .i64)⟩], [⟨14, false, (.int .i64)⟩], 0, none⟩)], [], [], []⟩
theorem vmfleetref39_choose.eq (x) : fnEval vmfleetref39_choose.env vmfleetref39_choose.sp.args vmfleetref39_choose.sp.res Go.Proofs.Try.f55 x = vmfleetref39_choose.sp.f x := by kernel_rfl
theorem vmfleetref39_choose.sound : Sound Try.prog 55 vmfleetref39_choose.sp := Lift.sound (E := vmfleetref39_choose.env) Try.func55 (by kernel_rfl) (env_okN TYS.ok mixed ⟨vmfleetref39_at.sound, vmfleetref39_Free.sound, vmfleetref39_Admit.sound, trivial⟩ trivial trivial) (by kernel_rfl) vmfleetref39_choose.eq

/-! vmfleet/vmfleetref39.Choose -/
noncomputable def vmfleetref39_Choose.f (hosts : List (Int × Int × Bool)) (l : List (Int × Int × Int × Int)) (on : List Int) (d : Int × Int × Int × Int) (not_ : List Int) : Option (Int × Bool) :=
  (vmfleetref39_Placement.f hosts l on).bind fun r1 =>
  bif !r1 then
    some ((0 : Int), false)
  else
    (vmfleetref39_choose.f hosts l on (-1 : Int) d not_).bind fun r2 =>
    some r2
noncomputable def vmfleetref39_Choose.sp : FSpec := ⟨[(.sl (.st (.pair (.int .i64) (.pair (.int .i64) .bool)))), (.sl (.st (.pair (.int .i64) (.pair (.int .i64) (.pair (.int .i64) (.int .i64)))))), (.sl (.int .i64)), (.st (.pair (.int .i64) (.pair (.int .i64) (.pair (.int .i64) (.int .i64))))), (.sl (.int .i64))], [(.int .i64), .bool], fun x => vmfleetref39_Choose.f x.1 x.2.1 x.2.2.1 x.2.2.2.1 x.2.2.2.2⟩
noncomputable def vmfleetref39_Choose.env : Env := ⟨TYS, [(53, vmfleetref39_Placement.sp), (55, vmfleetref39_choose.sp)], [], [], [], [], []⟩
theorem vmfleetref39_Choose.eq (x) : fnEval vmfleetref39_Choose.env vmfleetref39_Choose.sp.args vmfleetref39_Choose.sp.res Go.Proofs.Try.f38 x = vmfleetref39_Choose.sp.f x := by kernel_rfl
theorem vmfleetref39_Choose.sound : Sound Try.prog 38 vmfleetref39_Choose.sp := Lift.sound (E := vmfleetref39_Choose.env) Try.func38 (by kernel_rfl) (env_okN TYS.ok mixed ⟨vmfleetref39_Placement.sound, vmfleetref39_choose.sound, trivial⟩ trivial trivial) (by kernel_rfl) vmfleetref39_Choose.eq

/-! vmfleet/vmfleetref39.assign -/
noncomputable def vmfleetref39_assign.rc : Nat → ((List (Int × Int × Bool)) → (List (Int × Int × Int × Int)) → List Int → Option (List Int × Bool)) := Nat.rec (fun _ _ _ => none) (fun _ self_ => fun hosts l on =>
  bif decide ((on.length : Int) = (l.length : Int)) then
    some (on, true)
  else
    (loop (Y := (Unit) ⊕ (List Int × Bool)) (fun (x1 : Int) =>
      bif decide (x1 < (hosts.length : Int)) then
        if 0 ≤ x1 ∧ x1 < (hosts.length : Int) then
          if 0 ≤ (on.length : Int) ∧ (on.length : Int) ≤ (l.length : Int) then
            (vmfleetref39_at.f (slc l (0 : Int) (on.length : Int)) on x1 (-1 : Int)).bind fun r1 =>
            if 0 ≤ (on.length : Int) ∧ (on.length : Int) < (l.length : Int) then
              (vmfleetref39_Admit.f ((nth ((0 : Int), (0 : Int), false) hosts x1).1, ((nth ((0 : Int), (0 : Int), false) hosts x1).2)) r1 ((nth ((0 : Int), (0 : Int), (0 : Int), (0 : Int)) l (on.length : Int)).1, ((nth ((0 : Int), (0 : Int), (0 : Int), (0 : Int)) l (on.length : Int)).2).1, (((nth ((0 : Int), (0 : Int), (0 : Int), (0 : Int)) l (on.length : Int)).2).2))).bind fun r2 =>
              bif !decide (r2 = 0) then
                some (.inl (IntKind.wrap .i64 (x1 + 1)))
              else
                if (([] : List Int).length + on.length) * 8 ≤ 70368744177664 then
                  if ((([] : List Int) ++ on).length + ([x1] : List Int).length) * 8 ≤ 70368744177664 then
                    (self_ hosts l ((([] : List Int) ++ on) ++ ([x1] : List Int))).bind fun r3 =>
                    bif r3.2 then
                      some (.inr (.inr (r3.1, true)))
                    else
                      some (.inl (IntKind.wrap .i64 (x1 + 1)))
                  else none
                else none
            else none
          else none
        else none
      else
        some (.inr (.inl ()))) (0 : Int)).bind fun o => match o with
    | .inl y2 =>
      some ([], false)
    | .inr r => some r)
noncomputable def vmfleetref39_assign.f (hosts : List (Int × Int × Bool)) (l : List (Int × Int × Int × Int)) (on : List Int) : Option (List Int × Bool) := vmfleetref39_assign.rc 12 hosts l on
noncomputable def vmfleetref39_assign.spN (n_ : Nat) : FSpec := ⟨[(.sl (.st (.pair (.int .i64) (.pair (.int .i64) .bool)))), (.sl (.st (.pair (.int .i64) (.pair (.int .i64) (.pair (.int .i64) (.int .i64)))))), (.sl (.int .i64))], [(.sl (.int .i64)), .bool], fun x => vmfleetref39_assign.rc n_ x.1 x.2.1 x.2.2⟩
noncomputable def vmfleetref39_assign.sp : FSpec := ⟨[(.sl (.st (.pair (.int .i64) (.pair (.int .i64) .bool)))), (.sl (.st (.pair (.int .i64) (.pair (.int .i64) (.pair (.int .i64) (.int .i64)))))), (.sl (.int .i64))], [(.sl (.int .i64)), .bool], fun x => vmfleetref39_assign.f x.1 x.2.1 x.2.2⟩
noncomputable def vmfleetref39_assign.env (n_ : Nat) : Env := ⟨TYS, [(44, vmfleetref39_assign.spN n_), (54, vmfleetref39_at.sp), (61, vmfleetref39_Admit.sp)], [], [(5, ⟨[0, 1, 2, 8], [⟨9, false, (.int .i64)⟩], [], 0, none⟩)], [], [], []⟩
theorem vmfleetref39_assign.eq (n_ : Nat) (x) : fnEval (vmfleetref39_assign.env n_) (vmfleetref39_assign.spN 0).args (vmfleetref39_assign.spN 0).res Go.Proofs.Try.f44 x = (vmfleetref39_assign.spN (n_ + 1)).f x := by kernel_rfl
theorem vmfleetref39_assign.soundN : ∀ n_, Sound Try.prog 44 (vmfleetref39_assign.spN n_)
  | 0 => Lift.sound_none Try.func44 (by kernel_rfl) (by kernel_rfl) (fun _ => rfl)
  | n_ + 1 =>
    have ih := vmfleetref39_assign.soundN n_
    Lift.sound (s := vmfleetref39_assign.spN (n_ + 1)) (E := vmfleetref39_assign.env n_) Try.func44 (by kernel_rfl) (env_ok TYS.ok mixed ⟨ih, vmfleetref39_at.sound, vmfleetref39_Admit.sound, trivial⟩ trivial) (by kernel_rfl) (vmfleetref39_assign.eq n_)
theorem vmfleetref39_assign.sound : Sound Try.prog 44 vmfleetref39_assign.sp := vmfleetref39_assign.soundN 12

/-! vmfleet/vmfleetref39.Assign -/
noncomputable def vmfleetref39_Assign.f (hosts : List (Int × Int × Bool)) (l : List (Int × Int × Int × Int)) : Option (List Int × Bool) :=
  bif decide ((hosts.length : Int) < 1) then
    some ([], false)
  else
    bif decide ((hosts.length : Int) > 6) then
      some ([], false)
    else
      bif decide ((l.length : Int) > 8) then
        some ([], false)
      else
        (vmfleetref39_assign.f hosts l []).bind fun r1 =>
        some r1
noncomputable def vmfleetref39_Assign.sp : FSpec := ⟨[(.sl (.st (.pair (.int .i64) (.pair (.int .i64) .bool)))), (.sl (.st (.pair (.int .i64) (.pair (.int .i64) (.pair (.int .i64) (.int .i64))))))], [(.sl (.int .i64)), .bool], fun x => vmfleetref39_Assign.f x.1 x.2⟩
noncomputable def vmfleetref39_Assign.env : Env := ⟨TYS, [(44, vmfleetref39_assign.sp)], [], [], [], [], []⟩
theorem vmfleetref39_Assign.eq (x) : fnEval vmfleetref39_Assign.env vmfleetref39_Assign.sp.args vmfleetref39_Assign.sp.res Go.Proofs.Try.f21 x = vmfleetref39_Assign.sp.f x := by kernel_rfl
theorem vmfleetref39_Assign.sound : Sound Try.prog 21 vmfleetref39_Assign.sp := Lift.sound (E := vmfleetref39_Assign.env) Try.func21 (by kernel_rfl) (env_okN TYS.ok mixed ⟨vmfleetref39_assign.sound, trivial⟩ trivial trivial) (by kernel_rfl) vmfleetref39_Assign.eq

/-! vmfleet/vmfleetref39.moved -/
noncomputable def vmfleetref39_moved.f (on : List Int) (guest : Int) (to_ : Int) : Option (List Int) :=
  if (([] : List Int).length + on.length) * 8 ≤ 70368744177664 then
    if 0 ≤ guest ∧ guest < ((([] : List Int) ++ on).length : Int) then
      some (put (([] : List Int) ++ on) guest to_)
    else none
  else none
noncomputable def vmfleetref39_moved.sp : FSpec := ⟨[(.sl (.int .i64)), (.int .i64), (.int .i64)], [(.own (.int .i64))], fun x => vmfleetref39_moved.f x.1 x.2.1 x.2.2⟩
noncomputable def vmfleetref39_moved.env : Env := ⟨TYS, [], [], [], [], [], []⟩
theorem vmfleetref39_moved.eq (x) : fnEval vmfleetref39_moved.env vmfleetref39_moved.sp.args vmfleetref39_moved.sp.res Go.Proofs.Try.f56 x = vmfleetref39_moved.sp.f x := by kernel_rfl
theorem vmfleetref39_moved.sound : Sound Try.prog 56 vmfleetref39_moved.sp := Lift.sound (E := vmfleetref39_moved.env) Try.func56 (by kernel_rfl) (env_okN TYS.ok mixed trivial trivial trivial) (by kernel_rfl) vmfleetref39_moved.eq

/-! vmfleet/vmfleetref39.Improve -/
noncomputable def vmfleetref39_Improve.f (hosts : List (Int × Int × Bool)) (l : List (Int × Int × Int × Int)) (on : List Int) : Option ((Int × Int × Int) × Bool) :=
  (vmfleetref39_Spread.f hosts l on).bind fun r1 =>
  (loop (Y := ((Int × Int × Int) × Bool) ⊕ ((Int × Int × Int) × Bool)) (fun (x1 : Int × (Int × Int × Int) × Bool × Int) =>
    bif decide (x1.2.2.2 < (l.length : Int)) then
      bif r1.2 then
        (loop (Y := (Int × (Int × Int × Int) × Bool) ⊕ ((Int × (Int × Int × Int) × Bool × Int) ⊕ (((Int × Int × Int) × Bool) ⊕ ((Int × Int × Int) × Bool)))) (fun (x2 : Int × (Int × Int × Int) × Bool × Int) =>
          bif decide (x2.2.2.2 < (hosts.length : Int)) then
            if 0 ≤ x1.2.2.2 ∧ x1.2.2.2 < (on.length : Int) then
              bif decide (x2.2.2.2 = (nth (0 : Int) on x1.2.2.2)) then
                some (.inl (x2.1, x2.2.1, x2.2.2.1, IntKind.wrap .i64 (x2.2.2.2 + 1)))
              else
                (vmfleetref39_moved.f on x1.2.2.2 x2.2.2.2).bind fun r2 =>
                (vmfleetref39_Spread.f hosts l r2).bind fun r3 =>
                (bif r3.2 then
                  some (.inl (decide (r3.1 < x2.1)))
                else
                  some (.inl false) : Option ((Bool) ⊕ ((Int × (Int × Int × Int) × Bool × Int) ⊕ ((Int × (Int × Int × Int) × Bool) ⊕ ((Int × (Int × Int × Int) × Bool × Int) ⊕ (((Int × Int × Int) × Bool) ⊕ ((Int × Int × Int) × Bool))))))).bind fun o => match o with
                | .inl y3 =>
                  bif y3 then
                    if 0 ≤ x1.2.2.2 ∧ x1.2.2.2 < (on.length : Int) then
                      some (.inl (r3.1, (x1.2.2.2, nth (0 : Int) on x1.2.2.2, x2.2.2.2), true, IntKind.wrap .i64 (x2.2.2.2 + 1)))
                    else none
                  else
                    some (.inl (x2.1, x2.2.1, x2.2.2.1, IntKind.wrap .i64 (x2.2.2.2 + 1)))
                | .inr r => some r
            else none
          else
            some (.inr (.inl (x2.1, x2.2.1, x2.2.2.1)))) (x1.1, x1.2.1, x1.2.2.1, (0 : Int))).bind fun o => match o with
        | .inl y4 =>
          some (.inl (y4.1, y4.2.1, y4.2.2, IntKind.wrap .i64 (x1.2.2.2 + 1)))
        | .inr r => some r
      else
        some (.inr (.inl (x1.2.1, x1.2.2.1)))
    else
      some (.inr (.inl (x1.2.1, x1.2.2.1)))) (r1.1, ((0 : Int), (0 : Int), (0 : Int)), false, (0 : Int))).bind fun o => match o with
  | .inl y5 =>
    some y5
  | .inr r => some r
noncomputable def vmfleetref39_Improve.sp : FSpec := ⟨[(.sl (.st (.pair (.int .i64) (.pair (.int .i64) .bool)))), (.sl (.st (.pair (.int .i64) (.pair (.int .i64) (.pair (.int .i64) (.int .i64)))))), (.sl (.int .i64))], [(.st (.pair (.int .i64) (.pair (.int .i64) (.int .i64)))), .bool], fun x => vmfleetref39_Improve.f x.1 x.2.1 x.2.2⟩
noncomputable def vmfleetref39_Improve.env : Env := ⟨TYS, [(37, vmfleetref39_Spread.sp), (56, vmfleetref39_moved.sp)], [], [(8, ⟨[0, 1, 2, 6, 7, 9, 12], [⟨8, false, (.int .i64)⟩, ⟨10, true, (.st (.pair (.int .i64) (.pair (.int .i64) (.int .i64))))⟩, ⟨11, false, .bool⟩, ⟨13, false, (.int .i64)⟩], [⟨8, false, (.int .i64)⟩, ⟨10, true, (.st (.pair (.int .i64) (.pair (.int .i64) (.int .i64))))⟩, ⟨11, false, .bool⟩], 2, none⟩), (5, ⟨[0, 1, 2, 6, 7, 9], [⟨8, false, (.int .i64)⟩, ⟨10, true, (.st (.pair (.int .i64) (.pair (.int .i64) (.int .i64))))⟩, ⟨11, false, .bool⟩, ⟨12, false, (.int .i64)⟩], [⟨10, true, (.st (.pair (.int .i64) (.pair (.int .i64) (.int .i64))))⟩, ⟨11, false, .bool⟩], 0, none⟩)], [(13, ⟨[8, 10, 11, 13, 14], [], [⟨59, false, .bool⟩], 0, none⟩)], [], []⟩
theorem vmfleetref39_Improve.eq (x) : fnEval vmfleetref39_Improve.env vmfleetref39_Improve.sp.args vmfleetref39_Improve.sp.res Go.Proofs.Try.f39 x = vmfleetref39_Improve.sp.f x := by kernel_rfl
theorem vmfleetref39_Improve.sound : Sound Try.prog 39 vmfleetref39_Improve.sp := Lift.sound (E := vmfleetref39_Improve.env) Try.func39 (by kernel_rfl) (env_okN TYS.ok mixed ⟨vmfleetref39_Spread.sound, vmfleetref39_moved.sound, trivial⟩ trivial trivial) (by kernel_rfl) vmfleetref39_Improve.eq

/-! vmfleet/balance.Rebalance -/
noncomputable def balance_Rebalance.f (hosts : List (Int × Int × Bool)) (l : List (Int × Int × Int × Int)) (on : List Int) (most : Int) : Option ((List (Int × Int × Int)) × List Int) :=
  (balance_valid.f hosts l on).bind fun r1 =>
  bif !r1 then
    some ([], [])
  else
    (slices_Clone_int_int.f on).bind fun r2 =>
    (loop (Y := (List Int × List (Int × Int × Int)) ⊕ ((List (Int × Int × Int)) × List Int)) (fun (x1 : List Int × List (Int × Int × Int)) =>
      bif decide ((x1.2.length : Int) < (min most (10 : Int))) then
        (balance_Improve.f hosts l x1.1).bind fun r3 =>
        bif !r3.2 then
          some (.inr (.inl x1))
        else
          if 0 ≤ r3.1.1 ∧ r3.1.1 < (x1.1.length : Int) then
            if (x1.2.length + ([r3.1] : List (Int × Int × Int)).length) * 24 ≤ 70368744177664 then
              some (.inl (put x1.1 r3.1.1 r3.1.2.2, (x1.2 ++ ([r3.1] : List (Int × Int × Int)))))
            else none
          else none
      else
        some (.inr (.inl x1))) (r2, [])).bind fun o => match o with
    | .inl y2 =>
      some (y2.2, y2.1)
    | .inr r => some r
noncomputable def balance_Rebalance.sp : FSpec := ⟨[(.sl (.st (.pair (.int .i64) (.pair (.int .i64) .bool)))), (.sl (.st (.pair (.int .i64) (.pair (.int .i64) (.pair (.int .i64) (.int .i64)))))), (.sl (.int .i64)), (.int .i64)], [(.own (.st (.pair (.int .i64) (.pair (.int .i64) (.int .i64))))), (.own (.int .i64))], fun x => balance_Rebalance.f x.1 x.2.1 x.2.2.1 x.2.2.2⟩
noncomputable def balance_Rebalance.env : Env := ⟨TYS, [(24, balance_Improve.sp), (29, balance_valid.sp), (30, slices_Clone_int_int.sp)], [], [(5, ⟨[0, 1, 3, 8, 9], [⟨2, false, (.own (.int .i64))⟩, ⟨10, false, (.own (.st (.pair (.int .i64) (.pair (.int .i64) (.int .i64)))))⟩], [⟨2, false, (.own (.int .i64))⟩, ⟨10, false, (.own (.st (.pair (.int .i64) (.pair (.int .i64) (.int .i64)))))⟩], 0, none⟩)], [], [], []⟩
theorem balance_Rebalance.eq (x) : fnEval balance_Rebalance.env balance_Rebalance.sp.args balance_Rebalance.sp.res Go.Proofs.Try.f22 x = balance_Rebalance.sp.f x := by kernel_rfl
theorem balance_Rebalance.sound : Sound Try.prog 22 balance_Rebalance.sp := Lift.sound (E := balance_Rebalance.env) Try.func22 (by kernel_rfl) (env_okN TYS.ok mixed ⟨balance_Improve.sound, balance_valid.sound, slices_Clone_int_int.sound, trivial⟩ trivial trivial) (by kernel_rfl) balance_Rebalance.eq

/-! vmfleet/vmfleetref39.Rebalance -/
noncomputable def vmfleetref39_Rebalance.f (hosts : List (Int × Int × Bool)) (l : List (Int × Int × Int × Int)) (on : List Int) (most : Int) : Option ((List (Int × Int × Int)) × List Int) :=
  (vmfleetref39_Placement.f hosts l on).bind fun r1 =>
  bif !r1 then
    some ([], [])
  else
    if (([] : List Int).length + on.length) * 8 ≤ 70368744177664 then
      (loop (Y := ((List (Int × Int × Int)) × List Int) ⊕ ((List (Int × Int × Int)) × List Int)) (fun (x1 : (List (Int × Int × Int)) × List Int) =>
        bif decide ((x1.1.length : Int) < most) then
          bif decide ((x1.1.length : Int) < 10) then
            (vmfleetref39_Improve.f hosts l x1.2).bind fun r2 =>
            bif !r2.2 then
              some (.inr (.inl x1))
            else
              if (x1.1.length + ([r2.1] : List (Int × Int × Int)).length) * 24 ≤ 70368744177664 then
                (vmfleetref39_moved.f x1.2 r2.1.1 r2.1.2.2).bind fun r3 =>
                some (.inl ((x1.1 ++ ([r2.1] : List (Int × Int × Int))), r3))
              else none
          else
            some (.inr (.inl x1))
        else
          some (.inr (.inl x1))) ([], ([] : List Int) ++ on)).bind fun o => match o with
      | .inl y2 =>
        some y2
      | .inr r => some r
    else none
noncomputable def vmfleetref39_Rebalance.sp : FSpec := ⟨[(.sl (.st (.pair (.int .i64) (.pair (.int .i64) .bool)))), (.sl (.st (.pair (.int .i64) (.pair (.int .i64) (.pair (.int .i64) (.int .i64)))))), (.sl (.int .i64)), (.int .i64)], [(.own (.st (.pair (.int .i64) (.pair (.int .i64) (.int .i64))))), (.own (.int .i64))], fun x => vmfleetref39_Rebalance.f x.1 x.2.1 x.2.2.1 x.2.2.2⟩
noncomputable def vmfleetref39_Rebalance.env : Env := ⟨TYS, [(39, vmfleetref39_Improve.sp), (53, vmfleetref39_Placement.sp), (56, vmfleetref39_moved.sp)], [], [(5, ⟨[0, 1, 3, 8, 9], [⟨10, false, (.own (.st (.pair (.int .i64) (.pair (.int .i64) (.int .i64)))))⟩, ⟨11, false, (.own (.int .i64))⟩], [⟨10, false, (.own (.st (.pair (.int .i64) (.pair (.int .i64) (.int .i64)))))⟩, ⟨11, false, (.own (.int .i64))⟩], 0, none⟩)], [], [], []⟩
theorem vmfleetref39_Rebalance.eq (x) : fnEval vmfleetref39_Rebalance.env vmfleetref39_Rebalance.sp.args vmfleetref39_Rebalance.sp.res Go.Proofs.Try.f40 x = vmfleetref39_Rebalance.sp.f x := by kernel_rfl
theorem vmfleetref39_Rebalance.sound : Sound Try.prog 40 vmfleetref39_Rebalance.sp := Lift.sound (E := vmfleetref39_Rebalance.env) Try.func40 (by kernel_rfl) (env_okN TYS.ok mixed ⟨vmfleetref39_Improve.sound, vmfleetref39_Placement.sound, vmfleetref39_moved.sound, trivial⟩ trivial trivial) (by kernel_rfl) vmfleetref39_Rebalance.eq

/-! vmfleet/vmfleetref39.Evacuate -/
noncomputable def vmfleetref39_Evacuate.f (hosts : List (Int × Int × Bool)) (l : List (Int × Int × Int × Int)) (on : List Int) (host : Int) : Option ((List (Int × Int × Int)) × List Int × Bool) :=
  (vmfleetref39_Placement.f hosts l on).bind fun r1 =>
  bif !r1 then
    some ([], [], false)
  else
    (vmfleetref39_there.f hosts host).bind fun r2 =>
    bif !r2 then
      some ([], [], false)
    else
      if (([] : List Int).length + on.length) * 8 ≤ 70368744177664 then
        (loop (Y := ((List (Int × Int × Int)) × List Int) ⊕ ((List (Int × Int × Int)) × List Int × Bool)) (fun (x1 : (List (Int × Int × Int)) × List Int × Int) =>
          bif decide (x1.2.2 < (l.length : Int)) then
            if 0 ≤ x1.2.2 ∧ x1.2.2 < (on.length : Int) then
              bif !decide ((nth (0 : Int) on x1.2.2) = host) then
                some (.inl (x1.1, x1.2.1, IntKind.wrap .i64 (x1.2.2 + 1)))
              else
                if 0 ≤ x1.2.2 ∧ x1.2.2 < (l.length : Int) then
                  (vmfleetref39_choose.f hosts l x1.2.1 x1.2.2 ((nth ((0 : Int), (0 : Int), (0 : Int), (0 : Int)) l x1.2.2).1, ((nth ((0 : Int), (0 : Int), (0 : Int), (0 : Int)) l x1.2.2).2).1, (((nth ((0 : Int), (0 : Int), (0 : Int), (0 : Int)) l x1.2.2).2).2)) ([host] : List Int)).bind fun r3 =>
                  bif !r3.2 then
                    some (.inr (.inr ([], [], false)))
                  else
                    if (x1.1.length + ([(x1.2.2, host, r3.1)] : List (Int × Int × Int)).length) * 24 ≤ 70368744177664 then
                      (vmfleetref39_moved.f x1.2.1 x1.2.2 r3.1).bind fun r4 =>
                      some (.inl ((x1.1 ++ ([(x1.2.2, host, r3.1)] : List (Int × Int × Int))), r4, IntKind.wrap .i64 (x1.2.2 + 1)))
                    else none
                else none
            else none
          else
            some (.inr (.inl (x1.1, x1.2.1)))) ([], ([] : List Int) ++ on, (0 : Int))).bind fun o => match o with
        | .inl y2 =>
          some (y2.1, y2.2, true)
        | .inr r => some r
      else none
noncomputable def vmfleetref39_Evacuate.sp : FSpec := ⟨[(.sl (.st (.pair (.int .i64) (.pair (.int .i64) .bool)))), (.sl (.st (.pair (.int .i64) (.pair (.int .i64) (.pair (.int .i64) (.int .i64)))))), (.sl (.int .i64)), (.int .i64)], [(.own (.st (.pair (.int .i64) (.pair (.int .i64) (.int .i64))))), (.own (.int .i64)), .bool], fun x => vmfleetref39_Evacuate.f x.1 x.2.1 x.2.2.1 x.2.2.2⟩
noncomputable def vmfleetref39_Evacuate.env : Env := ⟨TYS, [(53, vmfleetref39_Placement.sp), (55, vmfleetref39_choose.sp), (56, vmfleetref39_moved.sp), (57, vmfleetref39_there.sp)], [], [(6, ⟨[0, 1, 2, 3], [⟨11, false, (.own (.st (.pair (.int .i64) (.pair (.int .i64) (.int .i64)))))⟩, ⟨12, false, (.own (.int .i64))⟩, ⟨13, false, (.int .i64)⟩], [⟨11, false, (.own (.st (.pair (.int .i64) (.pair (.int .i64) (.int .i64)))))⟩, ⟨12, false, (.own (.int .i64))⟩], 0, none⟩)], [], [], []⟩
theorem vmfleetref39_Evacuate.eq (x) : fnEval vmfleetref39_Evacuate.env vmfleetref39_Evacuate.sp.args vmfleetref39_Evacuate.sp.res Go.Proofs.Try.f41 x = vmfleetref39_Evacuate.sp.f x := by kernel_rfl
theorem vmfleetref39_Evacuate.sound : Sound Try.prog 41 vmfleetref39_Evacuate.sp := Lift.sound (E := vmfleetref39_Evacuate.env) Try.func41 (by kernel_rfl) (env_okN TYS.ok mixed ⟨vmfleetref39_Placement.sound, vmfleetref39_choose.sound, vmfleetref39_moved.sound, vmfleetref39_there.sound, trivial⟩ trivial trivial) (by kernel_rfl) vmfleetref39_Evacuate.eq

/-! vmfleet/vmfleetref39.SameMoves -/
noncomputable def vmfleetref39_SameMoves.f (a : List (Int × Int × Int)) (b : List (Int × Int × Int)) : Option Bool :=
  bif !decide ((a.length : Int) = (b.length : Int)) then
    some false
  else
    (loop (Y := (Unit) ⊕ (Bool)) (fun (x1 : Int) =>
      bif decide (x1 < (a.length : Int)) then
        if 0 ≤ x1 ∧ x1 < (a.length : Int) then
          if 0 ≤ x1 ∧ x1 < (b.length : Int) then
            bif (!decide (((nth ((0 : Int), (0 : Int), (0 : Int)) a x1).1, ((nth ((0 : Int), (0 : Int), (0 : Int)) a x1).2)) = ((nth ((0 : Int), (0 : Int), (0 : Int)) b x1).1, ((nth ((0 : Int), (0 : Int), (0 : Int)) b x1).2)))) then
              some (.inr (.inr false))
            else
              some (.inl (IntKind.wrap .i64 (x1 + 1)))
          else none
        else none
      else
        some (.inr (.inl ()))) (0 : Int)).bind fun o => match o with
    | .inl y2 =>
      some true
    | .inr r => some r
noncomputable def vmfleetref39_SameMoves.sp : FSpec := ⟨[(.sl (.st (.pair (.int .i64) (.pair (.int .i64) (.int .i64))))), (.sl (.st (.pair (.int .i64) (.pair (.int .i64) (.int .i64)))))], [.bool], fun x => vmfleetref39_SameMoves.f x.1 x.2⟩
noncomputable def vmfleetref39_SameMoves.env : Env := ⟨TYS, [], [], [(4, ⟨[0, 1], [⟨5, false, (.int .i64)⟩], [], 0, none⟩)], [], [], []⟩
theorem vmfleetref39_SameMoves.eq (x) : fnEval vmfleetref39_SameMoves.env vmfleetref39_SameMoves.sp.args vmfleetref39_SameMoves.sp.res Go.Proofs.Try.f43 x = vmfleetref39_SameMoves.sp.f x := by kernel_rfl
theorem vmfleetref39_SameMoves.sound : Sound Try.prog 43 vmfleetref39_SameMoves.sp := Lift.sound (E := vmfleetref39_SameMoves.env) Try.func43 (by kernel_rfl) (env_okN TYS.ok mixed trivial trivial trivial) (by kernel_rfl) vmfleetref39_SameMoves.eq

/-! vmfleet/vmfleetlaw40.tells -/
noncomputable def vmfleetlaw40_tells.f (hosts : List (Int × Int × Bool)) (l : List (Int × Int × Int × Int)) (on : List Int) (d : Int × Int × Int × Int) (not_ : List Int) (most : Int) (host : Int) : Option Bool :=
  (bif decide ((hosts.length : Int) > 0) then
    if 0 ≤ (0 : Int) ∧ (0 : Int) < (hosts.length : Int) then
      some (.inl ((nth ((0 : Int), (0 : Int), false) hosts (0 : Int)).1, ((nth ((0 : Int), (0 : Int), false) hosts (0 : Int)).2)))
    else none
  else
    some (.inl ((0 : Int), (0 : Int), false)) : Option ((Int × Int × Bool) ⊕ (Bool))).bind fun o => match o with
  | .inl y1 =>
    (balance_Spread.f hosts l on).bind fun r1 =>
    (vmfleetref39_Spread.f hosts l on).bind fun r2 =>
    (balance_Choose.f hosts l on d not_).bind fun r3 =>
    (vmfleetref39_Choose.f hosts l on d not_).bind fun r4 =>
    (balance_Assign.f hosts l).bind fun r5 =>
    (vmfleetref39_Assign.f hosts l).bind fun r6 =>
    (balance_Improve.f hosts l on).bind fun r7 =>
    (vmfleetref39_Improve.f hosts l on).bind fun r8 =>
    (balance_Rebalance.f hosts l on most).bind fun r9 =>
    (vmfleetref39_Rebalance.f hosts l on most).bind fun r10 =>
    (balance_Evacuate.f hosts l on host).bind fun r11 =>
    (vmfleetref39_Evacuate.f hosts l on host).bind fun r12 =>
    (balance_Load.f y1 l).bind fun r13 =>
    (vmfleetref39_Load.f y1 l).bind fun r14 =>
    bif !decide (r13 = r14) then
      some false
    else
      bif !decide (r1.1 = r2.1) then
        some false
      else
        bif !(r1.2 == r2.2) then
          some false
        else
          bif !decide (r3.1 = r4.1) then
            some false
          else
            bif !(r3.2 == r4.2) then
              some false
            else
              (vmfleetref1_SameInts.f r5.1 r6.1).bind fun r15 =>
              bif !r15 then
                some false
              else
                bif !(r5.2 == r6.2) then
                  some false
                else
                  bif !decide (r7.1 = r8.1) then
                    some false
                  else
                    bif !(r7.2 == r8.2) then
                      some false
                    else
                      (vmfleetref39_SameMoves.f r9.1 r10.1).bind fun r16 =>
                      bif r16 then
                        (vmfleetref1_SameInts.f r9.2 r10.2).bind fun r17 =>
                        bif r17 then
                          (vmfleetref39_SameMoves.f r11.1 r12.1).bind fun r18 =>
                          bif r18 then
                            (vmfleetref1_SameInts.f r11.2.1 r12.2.1).bind fun r19 =>
                            bif r19 then
                              some (r11.2.2 == r12.2.2)
                            else
                              some false
                          else
                            some false
                        else
                          some false
                      else
                        some false
  | .inr r => some r
noncomputable def vmfleetlaw40_tells.sp : FSpec := ⟨[(.sl (.st (.pair (.int .i64) (.pair (.int .i64) .bool)))), (.sl (.st (.pair (.int .i64) (.pair (.int .i64) (.pair (.int .i64) (.int .i64)))))), (.sl (.int .i64)), (.st (.pair (.int .i64) (.pair (.int .i64) (.pair (.int .i64) (.int .i64))))), (.sl (.int .i64)), (.int .i64), (.int .i64)], [.bool], fun x => vmfleetlaw40_tells.f x.1 x.2.1 x.2.2.1 x.2.2.2.1 x.2.2.2.2.1 x.2.2.2.2.2.1 x.2.2.2.2.2.2⟩
noncomputable def vmfleetlaw40_tells.env : Env := ⟨TYS, [(11, balance_Assign.sp), (14, balance_Evacuate.sp), (15, vmfleetref1_SameInts.sp), (16, balance_Choose.sp), (21, vmfleetref39_Assign.sp), (22, balance_Rebalance.sp), (23, balance_Spread.sp), (24, balance_Improve.sp), (25, balance_Load.sp), (37, vmfleetref39_Spread.sp), (38, vmfleetref39_Choose.sp), (39, vmfleetref39_Improve.sp), (40, vmfleetref39_Rebalance.sp), (41, vmfleetref39_Evacuate.sp), (42, vmfleetref39_Load.sp), (43, vmfleetref39_SameMoves.sp)], [], [], [(4, ⟨[0, 1, 2, 4, 5, 6, 10, 14], [⟨15, true, (.st (.pair (.int .i64) (.pair (.int .i64) .bool)))⟩], [⟨15, true, (.st (.pair (.int .i64) (.pair (.int .i64) .bool)))⟩], 0, none⟩)], [], []⟩
theorem vmfleetlaw40_tells.eq (x) : fnEval vmfleetlaw40_tells.env vmfleetlaw40_tells.sp.args vmfleetlaw40_tells.sp.res Go.Proofs.Try.f20 x = vmfleetlaw40_tells.sp.f x := by kernel_rfl
theorem vmfleetlaw40_tells.sound : Sound Try.prog 20 vmfleetlaw40_tells.sp := Lift.sound (E := vmfleetlaw40_tells.env) Try.func20 (by kernel_rfl) (env_okN TYS.ok mixed ⟨balance_Assign.sound, balance_Evacuate.sound, vmfleetref1_SameInts.sound, balance_Choose.sound, vmfleetref39_Assign.sound, balance_Rebalance.sound, balance_Spread.sound, balance_Improve.sound, balance_Load.sound, vmfleetref39_Spread.sound, vmfleetref39_Choose.sound, vmfleetref39_Improve.sound, vmfleetref39_Rebalance.sound, vmfleetref39_Evacuate.sound, vmfleetref39_Load.sound, vmfleetref39_SameMoves.sound, trivial⟩ trivial trivial) (by kernel_rfl) vmfleetlaw40_tells.eq

/-! vmfleet/vmfleetlaw40.BalanceTells -/
noncomputable def vmfleetlaw40_BalanceTells.f (hosts : List (Int × Int × Bool)) (l : List (Int × Int × Int × Int)) (on : List Int) (d : Int × Int × Int × Int) (not_ : List Int) (most : Int) (host : Int) : Option Bool :=
  (vmfleetlaw40_small.f hosts l).bind fun r1 =>
  bif !r1 then
    (vmfleetlaw40_awake.f).bind fun r2 =>
    some r2
  else
    bif decide ((on.length : Int) > 20) then
      (vmfleetlaw40_awake.f).bind fun r3 =>
      some r3
    else
      bif decide ((not_.length : Int) > 20) then
        (vmfleetlaw40_awake.f).bind fun r4 =>
        some r4
      else
        (vmfleetlaw40_tells.f hosts l on d not_ most host).bind fun r5 =>
        bif r5 then
          (vmfleetlaw40_awake.f).bind fun r6 =>
          some r6
        else
          some false
noncomputable def vmfleetlaw40_BalanceTells.sp : FSpec := ⟨[(.sl (.st (.pair (.int .i64) (.pair (.int .i64) .bool)))), (.sl (.st (.pair (.int .i64) (.pair (.int .i64) (.pair (.int .i64) (.int .i64)))))), (.sl (.int .i64)), (.st (.pair (.int .i64) (.pair (.int .i64) (.pair (.int .i64) (.int .i64))))), (.sl (.int .i64)), (.int .i64), (.int .i64)], [.bool], fun x => vmfleetlaw40_BalanceTells.f x.1 x.2.1 x.2.2.1 x.2.2.2.1 x.2.2.2.2.1 x.2.2.2.2.2.1 x.2.2.2.2.2.2⟩
noncomputable def vmfleetlaw40_BalanceTells.env : Env := ⟨TYS, [(9, vmfleetlaw40_awake.sp), (19, vmfleetlaw40_small.sp), (20, vmfleetlaw40_tells.sp)], [], [], [], [], []⟩
theorem vmfleetlaw40_BalanceTells.eq (x) : fnEval vmfleetlaw40_BalanceTells.env vmfleetlaw40_BalanceTells.sp.args vmfleetlaw40_BalanceTells.sp.res Go.Proofs.Try.f6 x = vmfleetlaw40_BalanceTells.sp.f x := by kernel_rfl
theorem vmfleetlaw40_BalanceTells.sound : Sound Try.prog 6 vmfleetlaw40_BalanceTells.sp := Lift.sound (E := vmfleetlaw40_BalanceTells.env) Try.func6 (by kernel_rfl) (env_okN TYS.ok mixed ⟨vmfleetlaw40_awake.sound, vmfleetlaw40_small.sound, vmfleetlaw40_tells.sound, trivial⟩ trivial trivial) (by kernel_rfl) vmfleetlaw40_BalanceTells.eq

/-! vmfleet/vmfleetlaw40.BalanceMade -/
noncomputable def vmfleetlaw40_BalanceMade.f (hosts : List Int) (l : List Int) (n : Int) (most : Int) (host : Int) : Option Bool :=
  bif decide ((hosts.length : Int) < 1) then
    (vmfleetlaw40_awake.f).bind fun r1 =>
    some r1
  else
    bif decide ((hosts.length : Int) > 4) then
      (vmfleetlaw40_awake.f).bind fun r2 =>
      some r2
    else
      bif decide ((l.length : Int) > 6) then
        (vmfleetlaw40_awake.f).bind fun r3 =>
        some r3
      else
        (vmfleetlaw40_problem.f hosts l).bind fun r4 =>
        (vmfleetref39_Assign.f r4.1 r4.2).bind fun r5 =>
        (vmfleetlaw40_problem.f [] ([n] : List Int)).bind fun r6 =>
        if 0 ≤ (0 : Int) ∧ (0 : Int) < (r6.2.length : Int) then
          (vmfleetmake_Round.f n (5 : Int)).bind fun r7 =>
          (vmfleetmake_Round.f most (12 : Int)).bind fun r8 =>
          (vmfleetmake_Round.f host (5 : Int)).bind fun r9 =>
          (vmfleetlaw40_tells.f r4.1 r4.2 r5.1 ((nth ((0 : Int), (0 : Int), (0 : Int), (0 : Int)) r6.2 (0 : Int)).1, ((nth ((0 : Int), (0 : Int), (0 : Int), (0 : Int)) r6.2 (0 : Int)).2).1, (((nth ((0 : Int), (0 : Int), (0 : Int), (0 : Int)) r6.2 (0 : Int)).2).2)) ([r7] : List Int) r8 r9).bind fun r10 =>
          bif r10 then
            (vmfleetlaw40_awake.f).bind fun r11 =>
            some r11
          else
            some false
        else none
noncomputable def vmfleetlaw40_BalanceMade.sp : FSpec := ⟨[(.sl (.int .i64)), (.sl (.int .i64)), (.int .i64), (.int .i64), (.int .i64)], [.bool], fun x => vmfleetlaw40_BalanceMade.f x.1 x.2.1 x.2.2.1 x.2.2.2.1 x.2.2.2.2⟩
noncomputable def vmfleetlaw40_BalanceMade.env : Env := ⟨TYS, [(9, vmfleetlaw40_awake.sp), (10, vmfleetlaw40_problem.sp), (13, vmfleetmake_Round.sp), (20, vmfleetlaw40_tells.sp), (21, vmfleetref39_Assign.sp)], [], [], [], [], []⟩
theorem vmfleetlaw40_BalanceMade.eq (x) : fnEval vmfleetlaw40_BalanceMade.env vmfleetlaw40_BalanceMade.sp.args vmfleetlaw40_BalanceMade.sp.res Go.Proofs.Try.f7 x = vmfleetlaw40_BalanceMade.sp.f x := by kernel_rfl
theorem vmfleetlaw40_BalanceMade.sound : Sound Try.prog 7 vmfleetlaw40_BalanceMade.sp := Lift.sound (E := vmfleetlaw40_BalanceMade.env) Try.func7 (by kernel_rfl) (env_okN TYS.ok mixed ⟨vmfleetlaw40_awake.sound, vmfleetlaw40_problem.sound, vmfleetmake_Round.sound, vmfleetlaw40_tells.sound, vmfleetref39_Assign.sound, trivial⟩ trivial trivial) (by kernel_rfl) vmfleetlaw40_BalanceMade.eq

/-! vmfleet/vmfleetlaw40.BalanceMoves -/
noncomputable def vmfleetlaw40_BalanceMoves.f (hosts : List Int) (l : List Int) : Option Bool :=
  bif decide ((hosts.length : Int) < 1) then
    (vmfleetlaw40_awake.f).bind fun r1 =>
    some r1
  else
    bif decide ((hosts.length : Int) > 4) then
      (vmfleetlaw40_awake.f).bind fun r2 =>
      some r2
    else
      bif decide ((l.length : Int) > 6) then
        (vmfleetlaw40_awake.f).bind fun r3 =>
        some r3
      else
        (vmfleetlaw40_problem.f hosts l).bind fun r4 =>
        (balance_Assign.f r4.1 r4.2).bind fun r5 =>
        bif !r5.2 then
          (vmfleetlaw40_awake.f).bind fun r6 =>
          some r6
        else
          (balance_Rebalance.f r4.1 r4.2 r5.1 (10 : Int)).bind fun r7 =>
          if (([] : List Int).length + r5.1.length) * 8 ≤ 70368744177664 then
            (balance_Spread.f r4.1 r4.2 (([] : List Int) ++ r5.1)).bind fun r8 =>
            (loop (Y := (List Int) ⊕ (Bool)) (fun (x1 : List Int × Int × Int) =>
              bif decide (x1.2.2 < (r7.1.length : Int)) then
                if 0 ≤ x1.2.2 ∧ x1.2.2 < (r7.1.length : Int) then
                  bif decide (((nth ((0 : Int), (0 : Int), (0 : Int)) r7.1 x1.2.2).1) < 0) then
                    some (.inr (.inr false))
                  else
                    bif (decide (((nth ((0 : Int), (0 : Int), (0 : Int)) r7.1 x1.2.2).1) ≥ (x1.1.length : Int))) then
                      some (.inr (.inr false))
                    else
                      if 0 ≤ ((nth ((0 : Int), (0 : Int), (0 : Int)) r7.1 x1.2.2).1) ∧ ((nth ((0 : Int), (0 : Int), (0 : Int)) r7.1 x1.2.2).1) < (x1.1.length : Int) then
                        bif (!decide ((nth (0 : Int) x1.1 ((nth ((0 : Int), (0 : Int), (0 : Int)) r7.1 x1.2.2).1)) = (((nth ((0 : Int), (0 : Int), (0 : Int)) r7.1 x1.2.2).2).1))) then
                          some (.inr (.inr false))
                        else
                          bif (decide ((((nth ((0 : Int), (0 : Int), (0 : Int)) r7.1 x1.2.2).2).2) = (((nth ((0 : Int), (0 : Int), (0 : Int)) r7.1 x1.2.2).2).1))) then
                            some (.inr (.inr false))
                          else
                            if 0 ≤ ((nth ((0 : Int), (0 : Int), (0 : Int)) r7.1 x1.2.2).1) ∧ ((nth ((0 : Int), (0 : Int), (0 : Int)) r7.1 x1.2.2).1) < (x1.1.length : Int) then
                              let v4 := put x1.1 ((nth ((0 : Int), (0 : Int), (0 : Int)) r7.1 x1.2.2).1) (((nth ((0 : Int), (0 : Int), (0 : Int)) r7.1 x1.2.2).2).2)
                              (balance_Spread.f r4.1 r4.2 v4).bind fun r9 =>
                              (vmfleetlaw40_valid.f r4.1 r4.2 v4).bind fun r10 =>
                              bif !r10 then
                                some (.inr (.inr false))
                              else
                                bif !r9.2 then
                                  some (.inr (.inr false))
                                else
                                  bif decide (r9.1 ≥ x1.2.1) then
                                    some (.inr (.inr false))
                                  else
                                    some (.inl (v4, r9.1, IntKind.wrap .i64 (x1.2.2 + 1)))
                            else none
                      else none
                else none
              else
                some (.inr (.inl x1.1))) (([] : List Int) ++ r5.1, r8.1, (0 : Int))).bind fun o => match o with
            | .inl y2 =>
              (balance_Improve.f r4.1 r4.2 y2).bind fun r11 =>
              (vmfleetref1_SameInts.f y2 r7.2).bind fun r12 =>
              bif r12 then
                bif r8.2 then
                  bif decide ((r7.1.length : Int) = 10) then
                    (vmfleetlaw40_awake.f).bind fun r13 =>
                    some r13
                  else
                    bif !r11.2 then
                      (vmfleetlaw40_awake.f).bind fun r14 =>
                      some r14
                    else
                      some false
                else
                  bif decide ((r7.1.length : Int) = 0) then
                    bif decide ((r7.1.length : Int) = 10) then
                      (vmfleetlaw40_awake.f).bind fun r15 =>
                      some r15
                    else
                      bif !r11.2 then
                        (vmfleetlaw40_awake.f).bind fun r16 =>
                        some r16
                      else
                        some false
                  else
                    some false
              else
                some false
            | .inr r => some r
          else none
noncomputable def vmfleetlaw40_BalanceMoves.sp : FSpec := ⟨[(.sl (.int .i64)), (.sl (.int .i64))], [.bool], fun x => vmfleetlaw40_BalanceMoves.f x.1 x.2⟩
noncomputable def vmfleetlaw40_BalanceMoves.env : Env := ⟨TYS, [(9, vmfleetlaw40_awake.sp), (10, vmfleetlaw40_problem.sp), (11, balance_Assign.sp), (12, vmfleetlaw40_valid.sp), (15, vmfleetref1_SameInts.sp), (22, balance_Rebalance.sp), (23, balance_Spread.sp), (24, balance_Improve.sp)], [], [(11, ⟨[5, 6, 9, 10, 13], [⟨11, false, (.own (.int .i64))⟩, ⟨12, false, (.int .i64)⟩, ⟨14, false, (.int .i64)⟩], [⟨11, false, (.own (.int .i64))⟩], 0, none⟩)], [], [], []⟩
theorem vmfleetlaw40_BalanceMoves.eq (x) : fnEval vmfleetlaw40_BalanceMoves.env vmfleetlaw40_BalanceMoves.sp.args vmfleetlaw40_BalanceMoves.sp.res Go.Proofs.Try.f8 x = vmfleetlaw40_BalanceMoves.sp.f x := by kernel_rfl
theorem vmfleetlaw40_BalanceMoves.sound : Sound Try.prog 8 vmfleetlaw40_BalanceMoves.sp := Lift.sound (E := vmfleetlaw40_BalanceMoves.env) Try.func8 (by kernel_rfl) (env_okN TYS.ok mixed ⟨vmfleetlaw40_awake.sound, vmfleetlaw40_problem.sound, balance_Assign.sound, vmfleetlaw40_valid.sound, vmfleetref1_SameInts.sound, balance_Rebalance.sound, balance_Spread.sound, balance_Improve.sound, trivial⟩ trivial trivial) (by kernel_rfl) vmfleetlaw40_BalanceMoves.eq

noncomputable def balance_guests.g (fuel_ : Nat) (l : List (Int × Int × Int × Int)) (on : List Int) (host : Int) : Option (List (Int × Int × Int × Int)) :=
  (loopF fuel_ (Y := (List (Int × Int × Int × Int)) ⊕ (List (Int × Int × Int × Int))) (fun (x1 : (List (Int × Int × Int × Int)) × Int) =>
    bif decide (x1.2 < (l.length : Int)) then
      if 0 ≤ x1.2 ∧ x1.2 < (l.length : Int) then
        if 0 ≤ x1.2 ∧ x1.2 < (on.length : Int) then
          bif decide ((nth (0 : Int) on x1.2) = host) then
            if (x1.1.length + ([((nth ((0 : Int), (0 : Int), (0 : Int), (0 : Int)) l x1.2).1, ((nth ((0 : Int), (0 : Int), (0 : Int), (0 : Int)) l x1.2).2).1, (((nth ((0 : Int), (0 : Int), (0 : Int), (0 : Int)) l x1.2).2).2))] : List (Int × Int × Int × Int)).length) * 32 ≤ 70368744177664 then
              some (.inl ((x1.1 ++ ([((nth ((0 : Int), (0 : Int), (0 : Int), (0 : Int)) l x1.2).1, ((nth ((0 : Int), (0 : Int), (0 : Int), (0 : Int)) l x1.2).2).1, (((nth ((0 : Int), (0 : Int), (0 : Int), (0 : Int)) l x1.2).2).2))] : List (Int × Int × Int × Int))), IntKind.wrap .i64 (x1.2 + 1)))
            else none
          else
            some (.inl (x1.1, IntKind.wrap .i64 (x1.2 + 1)))
        else none
      else none
    else
      some (.inr (.inl x1.1))) ([], (0 : Int))).bind fun o => match o with
  | .inl y2 =>
    some y2
  | .inr r => some r
theorem balance_guests.mono (fuel_ : Nat) (l : List (Int × Int × Int × Int)) (on : List Int) (host : Int) : Le (balance_guests.g fuel_ l on host) (balance_guests.f l on host) := by
  unfold balance_guests.g balance_guests.f
  repeat' (first | with_reducible exact Le.refl _ | with_reducible refine Le.bind ?_ ?_ | with_reducible refine Le.cond ?_ ?_ | with_reducible refine Le.ite ?_ ?_ | with_reducible refine Le.bothD ?_ ?_ | with_reducible refine Le.loop ?_ _ | (intro o; rcases o with y | r <;> try dsimp only) | (intro _; show Le _ _) | dsimp only)
noncomputable def admission_valid.g (fuel_ : Nat) (c : Int × Int × Bool) (l : List (Int × Int × Int × Int)) : Option Bool :=
  (admission_ValidHost.f c).bind fun r1 =>
  bif !r1 then
    some false
  else
    bif decide ((l.length : Int) > 16) then
      some false
    else
      (loopF fuel_ (Y := (Unit) ⊕ (Bool)) (fun (x1 : Int) =>
        bif decide (x1 < (l.length : Int)) then
          if 0 ≤ x1 ∧ x1 < (l.length : Int) then
            (admission_ValidDemand.f ((nth ((0 : Int), (0 : Int), (0 : Int), (0 : Int)) l x1).1, ((nth ((0 : Int), (0 : Int), (0 : Int), (0 : Int)) l x1).2).1, (((nth ((0 : Int), (0 : Int), (0 : Int), (0 : Int)) l x1).2).2))).bind fun r2 =>
            bif !r2 then
              some (.inr (.inr false))
            else
              some (.inl (IntKind.wrap .i64 (x1 + 1)))
          else none
        else
          some (.inr (.inl ()))) (0 : Int)).bind fun o => match o with
      | .inl y2 =>
        some true
      | .inr r => some r
theorem admission_valid.mono (fuel_ : Nat) (c : Int × Int × Bool) (l : List (Int × Int × Int × Int)) : Le (admission_valid.g fuel_ c l) (admission_valid.f c l) := by
  unfold admission_valid.g admission_valid.f
  repeat' (first | with_reducible exact Le.refl _ | with_reducible refine Le.bind ?_ ?_ | with_reducible refine Le.cond ?_ ?_ | with_reducible refine Le.ite ?_ ?_ | with_reducible refine Le.bothD ?_ ?_ | with_reducible refine Le.loop ?_ _ | (intro o; rcases o with y | r <;> try dsimp only) | (intro _; show Le _ _) | dsimp only)
noncomputable def admission_Free.g (fuel_ : Nat) (c : Int × Int × Bool) (l : List (Int × Int × Int × Int)) : Option (Int × Int) :=
  (admission_valid.g fuel_ c l).bind fun r1 =>
  bif !r1 then
    some ((0 : Int), (0 : Int))
  else
    (loopF fuel_ (Y := (Int × Int) ⊕ (Int × Int)) (fun (x1 : Int × Int × Int) =>
      bif decide (x1.2.2 < (l.length : Int)) then
        if 0 ≤ x1.2.2 ∧ x1.2.2 < (l.length : Int) then
          some (.inl ((IntKind.wrap .i64 (x1.1 - ((nth ((0 : Int), (0 : Int), (0 : Int), (0 : Int)) l x1.2.2).1))), (IntKind.wrap .i64 (x1.2.1 - ((((nth ((0 : Int), (0 : Int), (0 : Int), (0 : Int)) l x1.2.2).2).2).1))), IntKind.wrap .i64 (x1.2.2 + 1)))
        else none
      else
        some (.inr (.inl (x1.1, x1.2.1)))) (c.1, c.2.1, (0 : Int))).bind fun o => match o with
    | .inl y2 =>
      some y2
    | .inr r => some r
theorem admission_Free.mono (fuel_ : Nat) (c : Int × Int × Bool) (l : List (Int × Int × Int × Int)) : Le (admission_Free.g fuel_ c l) (admission_Free.f c l) := by
  unfold admission_Free.g admission_Free.f
  repeat' (first | with_reducible exact Le.refl _ | with_reducible exact admission_valid.mono _ _ _ | with_reducible refine Le.bind ?_ ?_ | with_reducible refine Le.cond ?_ ?_ | with_reducible refine Le.ite ?_ ?_ | with_reducible refine Le.bothD ?_ ?_ | with_reducible refine Le.loop ?_ _ | (intro o; rcases o with y | r <;> try dsimp only) | (intro _; show Le _ _) | dsimp only)
noncomputable def admission_Admit.g (fuel_ : Nat) (c : Int × Int × Bool) (l : List (Int × Int × Int × Int)) (d : Int × Int × Int × Int) : Option Int :=
  (admission_valid.g fuel_ c l).bind fun r1 =>
  bif !r1 then
    some (3900 : Int)
  else
    (admission_ValidDemand.f d).bind fun r2 =>
    bif !r2 then
      some (3900 : Int)
    else
      (admission_Free.g fuel_ c l).bind fun r3 =>
      bif !c.2.2 then
        some (3904 : Int)
      else
        bif decide (r3.1 < d.1) then
          some (3901 : Int)
        else
          bif decide (r3.2 < d.2.2.1) then
            some (3902 : Int)
          else
            (loopF fuel_ (Y := (Unit) ⊕ (Int)) (fun (x1 : Int) =>
              bif decide (x1 < (l.length : Int)) then
                if 0 ≤ x1 ∧ x1 < (l.length : Int) then
                  bif !decide (d.2.2.2 = 0) then
                    bif (decide (((((nth ((0 : Int), (0 : Int), (0 : Int), (0 : Int)) l x1).2).2).2) = d.2.2.2)) then
                      some (.inr (.inr (3903 : Int)))
                    else
                      some (.inl (IntKind.wrap .i64 (x1 + 1)))
                  else
                    some (.inl (IntKind.wrap .i64 (x1 + 1)))
                else none
              else
                some (.inr (.inl ()))) (0 : Int)).bind fun o => match o with
            | .inl y2 =>
              some (0 : Int)
            | .inr r => some r
theorem admission_Admit.mono (fuel_ : Nat) (c : Int × Int × Bool) (l : List (Int × Int × Int × Int)) (d : Int × Int × Int × Int) : Le (admission_Admit.g fuel_ c l d) (admission_Admit.f c l d) := by
  unfold admission_Admit.g admission_Admit.f
  repeat' (first | with_reducible exact Le.refl _ | with_reducible exact admission_Free.mono _ _ _ | with_reducible exact admission_valid.mono _ _ _ | with_reducible refine Le.bind ?_ ?_ | with_reducible refine Le.cond ?_ ?_ | with_reducible refine Le.ite ?_ ?_ | with_reducible refine Le.bothD ?_ ?_ | with_reducible refine Le.loop ?_ _ | (intro o; rcases o with y | r <;> try dsimp only) | (intro _; show Le _ _) | dsimp only)
noncomputable def slices_Clone_int_int.g (fuel_ : Nat) (s : List Int) : Option (List Int) :=
  bif s.isEmpty then
    bothD
      (some [])
      (if (([] : List Int).length + s.length) * 8 ≤ 70368744177664 then
        some (([] : List Int) ++ s)
      else none)
  else
    if (([] : List Int).length + s.length) * 8 ≤ 70368744177664 then
      some (([] : List Int) ++ s)
    else none
theorem slices_Clone_int_int.mono (fuel_ : Nat) (s : List Int) : Le (slices_Clone_int_int.g fuel_ s) (slices_Clone_int_int.f s) := by
  unfold slices_Clone_int_int.g slices_Clone_int_int.f
  repeat' (first | with_reducible exact Le.refl _ | with_reducible refine Le.bind ?_ ?_ | with_reducible refine Le.cond ?_ ?_ | with_reducible refine Le.ite ?_ ?_ | with_reducible refine Le.bothD ?_ ?_ | with_reducible refine Le.loop ?_ _ | (intro o; rcases o with y | r <;> try dsimp only) | (intro _; show Le _ _) | dsimp only)
noncomputable def balance_extend.rg (fuel_ : Nat) : Nat → ((List (Int × Int × Bool)) → (List (Int × Int × Int × Int)) → List Int → Option (List Int × Bool)) := Nat.rec (fun _ _ _ => none) (fun _ self_ => fun hosts l on =>
  bif decide ((on.length : Int) = (l.length : Int)) then
    some (on, true)
  else
    (loopF fuel_ (Y := (Unit) ⊕ (List Int × Bool)) (fun (x1 : Int) =>
      bif decide (x1 < (hosts.length : Int)) then
        if 0 ≤ x1 ∧ x1 < (hosts.length : Int) then
          if 0 ≤ (on.length : Int) ∧ (on.length : Int) ≤ (l.length : Int) then
            (balance_guests.g fuel_ (slc l (0 : Int) (on.length : Int)) on x1).bind fun r1 =>
            if 0 ≤ (on.length : Int) ∧ (on.length : Int) < (l.length : Int) then
              (admission_Admit.g fuel_ ((nth ((0 : Int), (0 : Int), false) hosts x1).1, ((nth ((0 : Int), (0 : Int), false) hosts x1).2)) r1 ((nth ((0 : Int), (0 : Int), (0 : Int), (0 : Int)) l (on.length : Int)).1, ((nth ((0 : Int), (0 : Int), (0 : Int), (0 : Int)) l (on.length : Int)).2).1, (((nth ((0 : Int), (0 : Int), (0 : Int), (0 : Int)) l (on.length : Int)).2).2))).bind fun r2 =>
              bif !decide (r2 = 0) then
                some (.inl (IntKind.wrap .i64 (x1 + 1)))
              else
                (slices_Clone_int_int.g fuel_ on).bind fun r3 =>
                if (r3.length + ([x1] : List Int).length) * 8 ≤ 70368744177664 then
                  (self_ hosts l (r3 ++ ([x1] : List Int))).bind fun r4 =>
                  bif r4.2 then
                    some (.inr (.inr (r4.1, true)))
                  else
                    some (.inl (IntKind.wrap .i64 (x1 + 1)))
                else none
            else none
          else none
        else none
      else
        some (.inr (.inl ()))) (0 : Int)).bind fun o => match o with
    | .inl y2 =>
      some ([], false)
    | .inr r => some r)
noncomputable def balance_extend.g (fuel_ : Nat) (hosts : List (Int × Int × Bool)) (l : List (Int × Int × Int × Int)) (on : List Int) : Option (List Int × Bool) := balance_extend.rg fuel_ 12 hosts l on
theorem balance_extend.monoN (fuel_ : Nat) : ∀ n_ (hosts : List (Int × Int × Bool)) (l : List (Int × Int × Int × Int)) (on : List Int), Le (balance_extend.rg fuel_ n_ hosts l on) (balance_extend.rc n_ hosts l on) := by
  intro n_
  induction n_ with
  | zero => intro hosts l on; exact Le.none _
  | succ n_ ih =>
    intro hosts l on
    show Le (bif decide ((on.length : Int) = (l.length : Int)) then
        some (on, true)
      else
        (loopF fuel_ (Y := (Unit) ⊕ (List Int × Bool)) (fun (x1 : Int) =>
          bif decide (x1 < (hosts.length : Int)) then
            if 0 ≤ x1 ∧ x1 < (hosts.length : Int) then
              if 0 ≤ (on.length : Int) ∧ (on.length : Int) ≤ (l.length : Int) then
                (balance_guests.g fuel_ (slc l (0 : Int) (on.length : Int)) on x1).bind fun r1 =>
                if 0 ≤ (on.length : Int) ∧ (on.length : Int) < (l.length : Int) then
                  (admission_Admit.g fuel_ ((nth ((0 : Int), (0 : Int), false) hosts x1).1, ((nth ((0 : Int), (0 : Int), false) hosts x1).2)) r1 ((nth ((0 : Int), (0 : Int), (0 : Int), (0 : Int)) l (on.length : Int)).1, ((nth ((0 : Int), (0 : Int), (0 : Int), (0 : Int)) l (on.length : Int)).2).1, (((nth ((0 : Int), (0 : Int), (0 : Int), (0 : Int)) l (on.length : Int)).2).2))).bind fun r2 =>
                  bif !decide (r2 = 0) then
                    some (.inl (IntKind.wrap .i64 (x1 + 1)))
                  else
                    (slices_Clone_int_int.g fuel_ on).bind fun r3 =>
                    if (r3.length + ([x1] : List Int).length) * 8 ≤ 70368744177664 then
                      (balance_extend.rg fuel_ n_ hosts l (r3 ++ ([x1] : List Int))).bind fun r4 =>
                      bif r4.2 then
                        some (.inr (.inr (r4.1, true)))
                      else
                        some (.inl (IntKind.wrap .i64 (x1 + 1)))
                    else none
                else none
              else none
            else none
          else
            some (.inr (.inl ()))) (0 : Int)).bind fun o => match o with
        | .inl y2 =>
          some ([], false)
        | .inr r => some r) (bif decide ((on.length : Int) = (l.length : Int)) then
        some (on, true)
      else
        (loop (Y := (Unit) ⊕ (List Int × Bool)) (fun (x1 : Int) =>
          bif decide (x1 < (hosts.length : Int)) then
            if 0 ≤ x1 ∧ x1 < (hosts.length : Int) then
              if 0 ≤ (on.length : Int) ∧ (on.length : Int) ≤ (l.length : Int) then
                (balance_guests.f (slc l (0 : Int) (on.length : Int)) on x1).bind fun r1 =>
                if 0 ≤ (on.length : Int) ∧ (on.length : Int) < (l.length : Int) then
                  (admission_Admit.f ((nth ((0 : Int), (0 : Int), false) hosts x1).1, ((nth ((0 : Int), (0 : Int), false) hosts x1).2)) r1 ((nth ((0 : Int), (0 : Int), (0 : Int), (0 : Int)) l (on.length : Int)).1, ((nth ((0 : Int), (0 : Int), (0 : Int), (0 : Int)) l (on.length : Int)).2).1, (((nth ((0 : Int), (0 : Int), (0 : Int), (0 : Int)) l (on.length : Int)).2).2))).bind fun r2 =>
                  bif !decide (r2 = 0) then
                    some (.inl (IntKind.wrap .i64 (x1 + 1)))
                  else
                    (slices_Clone_int_int.f on).bind fun r3 =>
                    if (r3.length + ([x1] : List Int).length) * 8 ≤ 70368744177664 then
                      (balance_extend.rc n_ hosts l (r3 ++ ([x1] : List Int))).bind fun r4 =>
                      bif r4.2 then
                        some (.inr (.inr (r4.1, true)))
                      else
                        some (.inl (IntKind.wrap .i64 (x1 + 1)))
                    else none
                else none
              else none
            else none
          else
            some (.inr (.inl ()))) (0 : Int)).bind fun o => match o with
        | .inl y2 =>
          some ([], false)
        | .inr r => some r)
    repeat' (first | with_reducible exact ih _ _ _ | with_reducible exact Le.refl _ | with_reducible exact admission_Admit.mono _ _ _ _ | with_reducible exact slices_Clone_int_int.mono _ _ | with_reducible exact balance_guests.mono _ _ _ _ | with_reducible refine Le.bind ?_ ?_ | with_reducible refine Le.cond ?_ ?_ | with_reducible refine Le.ite ?_ ?_ | with_reducible refine Le.bothD ?_ ?_ | with_reducible refine Le.loop ?_ _ | (intro o; rcases o with y | r <;> try dsimp only) | (intro _; show Le _ _) | dsimp only)
theorem balance_extend.mono (fuel_ : Nat) (hosts : List (Int × Int × Bool)) (l : List (Int × Int × Int × Int)) (on : List Int) : Le (balance_extend.g fuel_ hosts l on) (balance_extend.f hosts l on) := balance_extend.monoN fuel_ 12 hosts l on
noncomputable def balance_Assign.g (fuel_ : Nat) (hosts : List (Int × Int × Bool)) (l : List (Int × Int × Int × Int)) : Option (List Int × Bool) :=
  bif decide ((hosts.length : Int) < 1) then
    some ([], false)
  else
    bif decide ((hosts.length : Int) > 6) then
      some ([], false)
    else
      bif decide ((l.length : Int) > 8) then
        some ([], false)
      else
        (balance_extend.g fuel_ hosts l []).bind fun r1 =>
        some r1
theorem balance_Assign.mono (fuel_ : Nat) (hosts : List (Int × Int × Bool)) (l : List (Int × Int × Int × Int)) : Le (balance_Assign.g fuel_ hosts l) (balance_Assign.f hosts l) := by
  unfold balance_Assign.g balance_Assign.f
  repeat' (first | with_reducible exact Le.refl _ | with_reducible exact balance_extend.mono _ _ _ _ | with_reducible refine Le.bind ?_ ?_ | with_reducible refine Le.cond ?_ ?_ | with_reducible refine Le.ite ?_ ?_ | with_reducible refine Le.bothD ?_ ?_ | with_reducible refine Le.loop ?_ _ | (intro o; rcases o with y | r <;> try dsimp only) | (intro _; show Le _ _) | dsimp only)
noncomputable def admission_Fits.g (fuel_ : Nat) (c : Int × Int × Bool) (l : List (Int × Int × Int × Int)) : Option Bool :=
  (loopF fuel_ (Y := (Unit) ⊕ (Bool)) (fun (x1 : Int) =>
    bif decide (x1 < (l.length : Int)) then
      if 0 ≤ x1 ∧ x1 < (l.length : Int) then
        if 0 ≤ x1 ∧ x1 ≤ (l.length : Int) then
          (admission_Admit.g fuel_ c (slc l (0 : Int) x1) ((nth ((0 : Int), (0 : Int), (0 : Int), (0 : Int)) l x1).1, ((nth ((0 : Int), (0 : Int), (0 : Int), (0 : Int)) l x1).2).1, (((nth ((0 : Int), (0 : Int), (0 : Int), (0 : Int)) l x1).2).2))).bind fun r1 =>
          bif !decide (r1 = 0) then
            some (.inr (.inr false))
          else
            some (.inl (IntKind.wrap .i64 (x1 + 1)))
        else none
      else none
    else
      some (.inr (.inl ()))) (0 : Int)).bind fun o => match o with
  | .inl y2 =>
    some true
  | .inr r => some r
theorem admission_Fits.mono (fuel_ : Nat) (c : Int × Int × Bool) (l : List (Int × Int × Int × Int)) : Le (admission_Fits.g fuel_ c l) (admission_Fits.f c l) := by
  unfold admission_Fits.g admission_Fits.f
  repeat' (first | with_reducible exact Le.refl _ | with_reducible exact admission_Admit.mono _ _ _ _ | with_reducible refine Le.bind ?_ ?_ | with_reducible refine Le.cond ?_ ?_ | with_reducible refine Le.ite ?_ ?_ | with_reducible refine Le.bothD ?_ ?_ | with_reducible refine Le.loop ?_ _ | (intro o; rcases o with y | r <;> try dsimp only) | (intro _; show Le _ _) | dsimp only)
noncomputable def balance_valid.g (fuel_ : Nat) (hosts : List (Int × Int × Bool)) (l : List (Int × Int × Int × Int)) (on : List Int) : Option Bool :=
  bif decide ((hosts.length : Int) < 1) then
    some false
  else
    bif decide ((hosts.length : Int) > 6) then
      some false
    else
      bif decide ((l.length : Int) > 16) then
        some false
      else
        bif (!decide ((on.length : Int) = (l.length : Int))) then
          some false
        else
          (loopF fuel_ (Y := (Unit) ⊕ (Bool)) (fun (x1 : Int) =>
            bif decide (x1 < (on.length : Int)) then
              if 0 ≤ x1 ∧ x1 < (on.length : Int) then
                bif decide ((nth (0 : Int) on x1) < 0) then
                  some (.inr (.inr false))
                else
                  bif (decide ((nth (0 : Int) on x1) ≥ (hosts.length : Int))) then
                    some (.inr (.inr false))
                  else
                    some (.inl (IntKind.wrap .i64 (x1 + 1)))
              else none
            else
              some (.inr (.inl ()))) (0 : Int)).bind fun o => match o with
          | .inl y2 =>
            (loopF fuel_ (Y := (Unit) ⊕ (Bool)) (fun (x3 : Int) =>
              bif decide (x3 < (hosts.length : Int)) then
                if 0 ≤ x3 ∧ x3 < (hosts.length : Int) then
                  (balance_guests.g fuel_ l on x3).bind fun r1 =>
                  (admission_Fits.g fuel_ ((nth ((0 : Int), (0 : Int), false) hosts x3).1, ((nth ((0 : Int), (0 : Int), false) hosts x3).2)) r1).bind fun r2 =>
                  bif !r2 then
                    some (.inr (.inr false))
                  else
                    some (.inl (IntKind.wrap .i64 (x3 + 1)))
                else none
              else
                some (.inr (.inl ()))) (0 : Int)).bind fun o => match o with
            | .inl y4 =>
              some true
            | .inr r => some r
          | .inr r => some r
theorem balance_valid.mono (fuel_ : Nat) (hosts : List (Int × Int × Bool)) (l : List (Int × Int × Int × Int)) (on : List Int) : Le (balance_valid.g fuel_ hosts l on) (balance_valid.f hosts l on) := by
  unfold balance_valid.g balance_valid.f
  repeat' (first | with_reducible exact Le.refl _ | with_reducible exact admission_Fits.mono _ _ _ | with_reducible exact balance_guests.mono _ _ _ _ | with_reducible refine Le.bind ?_ ?_ | with_reducible refine Le.cond ?_ ?_ | with_reducible refine Le.ite ?_ ?_ | with_reducible refine Le.bothD ?_ ?_ | with_reducible refine Le.loop ?_ _ | (intro o; rcases o with y | r <;> try dsimp only) | (intro _; show Le _ _) | dsimp only)
noncomputable def balance_Load.g (fuel_ : Nat) (c : Int × Int × Bool) (l : List (Int × Int × Int × Int)) : Option Int :=
  (admission_ValidHost.f c).bind fun r1 =>
  bif !r1 then
    some (0 : Int)
  else
    bif decide (c.1 = 0) then
      some (0 : Int)
    else
      bif decide ((l.length : Int) > 16) then
        some (0 : Int)
      else
        (loopF fuel_ (Y := (Int) ⊕ (Int)) (fun (x1 : Int × Int) =>
          bif decide (x1.2 < (l.length : Int)) then
            if 0 ≤ x1.2 ∧ x1.2 < (l.length : Int) then
              (admission_ValidDemand.f ((nth ((0 : Int), (0 : Int), (0 : Int), (0 : Int)) l x1.2).1, ((nth ((0 : Int), (0 : Int), (0 : Int), (0 : Int)) l x1.2).2).1, (((nth ((0 : Int), (0 : Int), (0 : Int), (0 : Int)) l x1.2).2).2))).bind fun r2 =>
              bif !r2 then
                some (.inr (.inr (0 : Int)))
              else
                some (.inl ((IntKind.wrap .i64 (x1.1 + ((nth ((0 : Int), (0 : Int), (0 : Int), (0 : Int)) l x1.2).1))), IntKind.wrap .i64 (x1.2 + 1)))
            else none
          else
            some (.inr (.inl x1.1))) ((0 : Int), (0 : Int))).bind fun o => match o with
        | .inl y2 =>
          if c.1 = 0 then none else
          some (IntKind.wrap .i64 (Int.tdiv (IntKind.wrap .i64 (y2 * 1000)) c.1))
        | .inr r => some r
theorem balance_Load.mono (fuel_ : Nat) (c : Int × Int × Bool) (l : List (Int × Int × Int × Int)) : Le (balance_Load.g fuel_ c l) (balance_Load.f c l) := by
  unfold balance_Load.g balance_Load.f
  repeat' (first | with_reducible exact Le.refl _ | with_reducible refine Le.bind ?_ ?_ | with_reducible refine Le.cond ?_ ?_ | with_reducible refine Le.ite ?_ ?_ | with_reducible refine Le.bothD ?_ ?_ | with_reducible refine Le.loop ?_ _ | (intro o; rcases o with y | r <;> try dsimp only) | (intro _; show Le _ _) | dsimp only)
noncomputable def slices_Max_int_int.g (fuel_ : Nat) (x : List Int) : Option Int :=
  bif decide ((x.length : Int) < 1) then
    none
  else
    if 0 ≤ (0 : Int) ∧ (0 : Int) < (x.length : Int) then
      (loopF fuel_ (Y := (Int) ⊕ (Int)) (fun (x1 : Int × Int) =>
        bif decide (x1.2 < (x.length : Int)) then
          if 0 ≤ x1.2 ∧ x1.2 < (x.length : Int) then
            some (.inl (max x1.1 (nth (0 : Int) x x1.2), IntKind.wrap .i64 (x1.2 + 1)))
          else none
        else
          some (.inr (.inl x1.1))) (nth (0 : Int) x (0 : Int), (1 : Int))).bind fun o => match o with
      | .inl y2 =>
        some y2
      | .inr r => some r
    else none
theorem slices_Max_int_int.mono (fuel_ : Nat) (x : List Int) : Le (slices_Max_int_int.g fuel_ x) (slices_Max_int_int.f x) := by
  unfold slices_Max_int_int.g slices_Max_int_int.f
  repeat' (first | with_reducible exact Le.refl _ | with_reducible refine Le.bind ?_ ?_ | with_reducible refine Le.cond ?_ ?_ | with_reducible refine Le.ite ?_ ?_ | with_reducible refine Le.bothD ?_ ?_ | with_reducible refine Le.loop ?_ _ | (intro o; rcases o with y | r <;> try dsimp only) | (intro _; show Le _ _) | dsimp only)
noncomputable def slices_Min_int_int.g (fuel_ : Nat) (x : List Int) : Option Int :=
  bif decide ((x.length : Int) < 1) then
    none
  else
    if 0 ≤ (0 : Int) ∧ (0 : Int) < (x.length : Int) then
      (loopF fuel_ (Y := (Int) ⊕ (Int)) (fun (x1 : Int × Int) =>
        bif decide (x1.2 < (x.length : Int)) then
          if 0 ≤ x1.2 ∧ x1.2 < (x.length : Int) then
            some (.inl (min x1.1 (nth (0 : Int) x x1.2), IntKind.wrap .i64 (x1.2 + 1)))
          else none
        else
          some (.inr (.inl x1.1))) (nth (0 : Int) x (0 : Int), (1 : Int))).bind fun o => match o with
      | .inl y2 =>
        some y2
      | .inr r => some r
    else none
theorem slices_Min_int_int.mono (fuel_ : Nat) (x : List Int) : Le (slices_Min_int_int.g fuel_ x) (slices_Min_int_int.f x) := by
  unfold slices_Min_int_int.g slices_Min_int_int.f
  repeat' (first | with_reducible exact Le.refl _ | with_reducible refine Le.bind ?_ ?_ | with_reducible refine Le.cond ?_ ?_ | with_reducible refine Le.ite ?_ ?_ | with_reducible refine Le.bothD ?_ ?_ | with_reducible refine Le.loop ?_ _ | (intro o; rcases o with y | r <;> try dsimp only) | (intro _; show Le _ _) | dsimp only)
noncomputable def balance_Spread.g (fuel_ : Nat) (hosts : List (Int × Int × Bool)) (l : List (Int × Int × Int × Int)) (on : List Int) : Option (Int × Bool) :=
  (balance_valid.g fuel_ hosts l on).bind fun r1 =>
  bif !r1 then
    some ((0 : Int), false)
  else
    (loopF fuel_ (Y := (List Int) ⊕ (Int × Bool)) (fun (x1 : List Int × Int) =>
      bif decide (x1.2 < (hosts.length : Int)) then
        if 0 ≤ x1.2 ∧ x1.2 < (hosts.length : Int) then
          bif ((nth ((0 : Int), (0 : Int), false) hosts x1.2).2).2 then
            (balance_guests.g fuel_ l on x1.2).bind fun r2 =>
            (balance_Load.g fuel_ ((nth ((0 : Int), (0 : Int), false) hosts x1.2).1, ((nth ((0 : Int), (0 : Int), false) hosts x1.2).2)) r2).bind fun r3 =>
            if (x1.1.length + ([r3] : List Int).length) * 8 ≤ 70368744177664 then
              some (.inl (x1.1 ++ ([r3] : List Int), IntKind.wrap .i64 (x1.2 + 1)))
            else none
          else
            some (.inl (x1.1, IntKind.wrap .i64 (x1.2 + 1)))
        else none
      else
        some (.inr (.inl x1.1))) ([], (0 : Int))).bind fun o => match o with
    | .inl y2 =>
      bif decide ((y2.length : Int) = 0) then
        some ((0 : Int), false)
      else
        (slices_Max_int_int.g fuel_ y2).bind fun r4 =>
        (slices_Min_int_int.g fuel_ y2).bind fun r5 =>
        some (IntKind.wrap .i64 (r4 - r5), true)
    | .inr r => some r
theorem balance_Spread.mono (fuel_ : Nat) (hosts : List (Int × Int × Bool)) (l : List (Int × Int × Int × Int)) (on : List Int) : Le (balance_Spread.g fuel_ hosts l on) (balance_Spread.f hosts l on) := by
  unfold balance_Spread.g balance_Spread.f
  repeat' (first | with_reducible exact Le.refl _ | with_reducible exact balance_Load.mono _ _ _ | with_reducible exact balance_valid.mono _ _ _ _ | with_reducible exact balance_guests.mono _ _ _ _ | with_reducible exact slices_Max_int_int.mono _ _ | with_reducible exact slices_Min_int_int.mono _ _ | with_reducible refine Le.bind ?_ ?_ | with_reducible refine Le.cond ?_ ?_ | with_reducible refine Le.ite ?_ ?_ | with_reducible refine Le.bothD ?_ ?_ | with_reducible refine Le.loop ?_ _ | (intro o; rcases o with y | r <;> try dsimp only) | (intro _; show Le _ _) | dsimp only)
noncomputable def balance_Improve.g (fuel_ : Nat) (hosts : List (Int × Int × Bool)) (l : List (Int × Int × Int × Int)) (on : List Int) : Option ((Int × Int × Int) × Bool) :=
  (balance_Spread.g fuel_ hosts l on).bind fun r1 =>
  bif !r1.2 then
    some (((0 : Int), (0 : Int), (0 : Int)), false)
  else
    (loopF fuel_ (Y := ((Int × Int × Int) × Bool) ⊕ ((Int × Int × Int) × Bool)) (fun (x1 : Int × (Int × Int × Int) × Bool × Int) =>
      bif decide (x1.2.2.2 < (on.length : Int)) then
        if 0 ≤ x1.2.2.2 ∧ x1.2.2.2 < (on.length : Int) then
          (loopF fuel_ (Y := (Int × (Int × Int × Int) × Bool) ⊕ ((Int × (Int × Int × Int) × Bool × Int) ⊕ (((Int × Int × Int) × Bool) ⊕ ((Int × Int × Int) × Bool)))) (fun (x2 : Int × (Int × Int × Int) × Bool × Int) =>
            bif decide (x2.2.2.2 < (hosts.length : Int)) then
              (slices_Clone_int_int.g fuel_ on).bind fun r2 =>
              if 0 ≤ x1.2.2.2 ∧ x1.2.2.2 < (r2.length : Int) then
                (balance_Spread.g fuel_ hosts l (put r2 x1.2.2.2 x2.2.2.2)).bind fun r3 =>
                (bif r3.2 then
                  some (.inl (decide (r3.1 < x2.1)))
                else
                  some (.inl false) : Option ((Bool) ⊕ ((Int × (Int × Int × Int) × Bool × Int) ⊕ ((Int × (Int × Int × Int) × Bool) ⊕ ((Int × (Int × Int × Int) × Bool × Int) ⊕ (((Int × Int × Int) × Bool) ⊕ ((Int × Int × Int) × Bool))))))).bind fun o => match o with
                | .inl y3 =>
                  bif y3 then
                    some (.inl (r3.1, (x1.2.2.2, nth (0 : Int) on x1.2.2.2, x2.2.2.2), true, IntKind.wrap .i64 (x2.2.2.2 + 1)))
                  else
                    some (.inl (x2.1, x2.2.1, x2.2.2.1, IntKind.wrap .i64 (x2.2.2.2 + 1)))
                | .inr r => some r
              else none
            else
              some (.inr (.inl (x2.1, x2.2.1, x2.2.2.1)))) (x1.1, x1.2.1, x1.2.2.1, (0 : Int))).bind fun o => match o with
          | .inl y4 =>
            some (.inl (y4.1, y4.2.1, y4.2.2, IntKind.wrap .i64 (x1.2.2.2 + 1)))
          | .inr r => some r
        else none
      else
        some (.inr (.inl (x1.2.1, x1.2.2.1)))) (r1.1, ((0 : Int), (0 : Int), (0 : Int)), false, (0 : Int))).bind fun o => match o with
    | .inl y5 =>
      some y5
    | .inr r => some r
theorem balance_Improve.mono (fuel_ : Nat) (hosts : List (Int × Int × Bool)) (l : List (Int × Int × Int × Int)) (on : List Int) : Le (balance_Improve.g fuel_ hosts l on) (balance_Improve.f hosts l on) := by
  unfold balance_Improve.g balance_Improve.f
  repeat' (first | with_reducible exact Le.refl _ | with_reducible exact balance_Spread.mono _ _ _ _ | with_reducible exact slices_Clone_int_int.mono _ _ | with_reducible refine Le.bind ?_ ?_ | with_reducible refine Le.cond ?_ ?_ | with_reducible refine Le.ite ?_ ?_ | with_reducible refine Le.bothD ?_ ?_ | with_reducible refine Le.loop ?_ _ | (intro o; rcases o with y | r <;> try dsimp only) | (intro _; show Le _ _) | dsimp only)
noncomputable def slices_Concat_api_Demand_api_Demand.g (fuel_ : Nat) (slices : List (List (Int × Int × Int × Int))) : Option (List (Int × Int × Int × Int)) :=
  (loopF fuel_ (Y := (Int) ⊕ (List (Int × Int × Int × Int))) (fun (x1 : Int × Int) =>
    bif decide (x1.2 < (slices.length : Int)) then
      if 0 ≤ x1.2 ∧ x1.2 < (slices.length : Int) then
        let v1 := IntKind.wrap .i64 (x1.1 + ((nth [] slices x1.2).length : Int))
        bif decide (v1 < 0) then
          none
        else
          some (.inl (v1, IntKind.wrap .i64 (x1.2 + 1)))
      else none
    else
      some (.inr (.inl x1.1))) ((0 : Int), (0 : Int))).bind fun o => match o with
  | .inl y2 =>
    (slices_Grow_api_Demand_api_Demand.f y2).bind fun r1 =>
    (loopF fuel_ (Y := (List (Int × Int × Int × Int)) ⊕ (List (Int × Int × Int × Int))) (fun (x3 : (List (Int × Int × Int × Int)) × Int) =>
      bif decide (x3.2 < (slices.length : Int)) then
        if 0 ≤ x3.2 ∧ x3.2 < (slices.length : Int) then
          if (x3.1.length + (nth [] slices x3.2).length) * 32 ≤ 70368744177664 then
            some (.inl (x3.1 ++ (nth [] slices x3.2), IntKind.wrap .i64 (x3.2 + 1)))
          else none
        else none
      else
        some (.inr (.inl x3.1))) (r1, (0 : Int))).bind fun o => match o with
    | .inl y4 =>
      some y4
    | .inr r => some r
  | .inr r => some r
theorem slices_Concat_api_Demand_api_Demand.mono (fuel_ : Nat) (slices : List (List (Int × Int × Int × Int))) : Le (slices_Concat_api_Demand_api_Demand.g fuel_ slices) (slices_Concat_api_Demand_api_Demand.f slices) := by
  unfold slices_Concat_api_Demand_api_Demand.g slices_Concat_api_Demand_api_Demand.f
  repeat' (first | with_reducible exact Le.refl _ | with_reducible refine Le.bind ?_ ?_ | with_reducible refine Le.cond ?_ ?_ | with_reducible refine Le.ite ?_ ?_ | with_reducible refine Le.bothD ?_ ?_ | with_reducible refine Le.loop ?_ _ | (intro o; rcases o with y | r <;> try dsimp only) | (intro _; show Le _ _) | dsimp only)
noncomputable def slices_Concat_int_int.g (fuel_ : Nat) (slices : List (List Int)) : Option (List Int) :=
  (loopF fuel_ (Y := (Int) ⊕ (List Int)) (fun (x1 : Int × Int) =>
    bif decide (x1.2 < (slices.length : Int)) then
      if 0 ≤ x1.2 ∧ x1.2 < (slices.length : Int) then
        let v1 := IntKind.wrap .i64 (x1.1 + ((nth [] slices x1.2).length : Int))
        bif decide (v1 < 0) then
          none
        else
          some (.inl (v1, IntKind.wrap .i64 (x1.2 + 1)))
      else none
    else
      some (.inr (.inl x1.1))) ((0 : Int), (0 : Int))).bind fun o => match o with
  | .inl y2 =>
    (slices_Grow_int_int.f y2).bind fun r1 =>
    (loopF fuel_ (Y := (List Int) ⊕ (List Int)) (fun (x3 : List Int × Int) =>
      bif decide (x3.2 < (slices.length : Int)) then
        if 0 ≤ x3.2 ∧ x3.2 < (slices.length : Int) then
          if (x3.1.length + (nth [] slices x3.2).length) * 8 ≤ 70368744177664 then
            some (.inl (x3.1 ++ (nth [] slices x3.2), IntKind.wrap .i64 (x3.2 + 1)))
          else none
        else none
      else
        some (.inr (.inl x3.1))) (r1, (0 : Int))).bind fun o => match o with
    | .inl y4 =>
      some y4
    | .inr r => some r
  | .inr r => some r
theorem slices_Concat_int_int.mono (fuel_ : Nat) (slices : List (List Int)) : Le (slices_Concat_int_int.g fuel_ slices) (slices_Concat_int_int.f slices) := by
  unfold slices_Concat_int_int.g slices_Concat_int_int.f
  repeat' (first | with_reducible exact Le.refl _ | with_reducible refine Le.bind ?_ ?_ | with_reducible refine Le.cond ?_ ?_ | with_reducible refine Le.ite ?_ ?_ | with_reducible refine Le.bothD ?_ ?_ | with_reducible refine Le.loop ?_ _ | (intro o; rcases o with y | r <;> try dsimp only) | (intro _; show Le _ _) | dsimp only)
noncomputable def slices_Index_int_int.g (fuel_ : Nat) (s : List Int) (v : Int) : Option Int :=
  (loopF fuel_ (Y := (Unit) ⊕ (Int)) (fun (x1 : Int) =>
    bif decide (x1 < (s.length : Int)) then
      if 0 ≤ x1 ∧ x1 < (s.length : Int) then
        bif decide (v = (nth (0 : Int) s x1)) then
          some (.inr (.inr x1))
        else
          some (.inl (IntKind.wrap .i64 (x1 + 1)))
      else none
    else
      some (.inr (.inl ()))) (0 : Int)).bind fun o => match o with
  | .inl y2 =>
    some (-1 : Int)
  | .inr r => some r
theorem slices_Index_int_int.mono (fuel_ : Nat) (s : List Int) (v : Int) : Le (slices_Index_int_int.g fuel_ s v) (slices_Index_int_int.f s v) := by
  unfold slices_Index_int_int.g slices_Index_int_int.f
  repeat' (first | with_reducible exact Le.refl _ | with_reducible refine Le.bind ?_ ?_ | with_reducible refine Le.cond ?_ ?_ | with_reducible refine Le.ite ?_ ?_ | with_reducible refine Le.bothD ?_ ?_ | with_reducible refine Le.loop ?_ _ | (intro o; rcases o with y | r <;> try dsimp only) | (intro _; show Le _ _) | dsimp only)
noncomputable def slices_Contains_int_int.g (fuel_ : Nat) (s : List Int) (v : Int) : Option Bool :=
  (slices_Index_int_int.g fuel_ s v).bind fun r1 =>
  some (decide (r1 ≥ 0))
theorem slices_Contains_int_int.mono (fuel_ : Nat) (s : List Int) (v : Int) : Le (slices_Contains_int_int.g fuel_ s v) (slices_Contains_int_int.f s v) := by
  unfold slices_Contains_int_int.g slices_Contains_int_int.f
  repeat' (first | with_reducible exact Le.refl _ | with_reducible exact slices_Index_int_int.mono _ _ _ | with_reducible refine Le.bind ?_ ?_ | with_reducible refine Le.cond ?_ ?_ | with_reducible refine Le.ite ?_ ?_ | with_reducible refine Le.bothD ?_ ?_ | with_reducible refine Le.loop ?_ _ | (intro o; rcases o with y | r <;> try dsimp only) | (intro _; show Le _ _) | dsimp only)
noncomputable def balance_Choose.g (fuel_ : Nat) (hosts : List (Int × Int × Bool)) (l : List (Int × Int × Int × Int)) (on : List Int) (d : Int × Int × Int × Int) (not_ : List Int) : Option (Int × Bool) :=
  (balance_valid.g fuel_ hosts l on).bind fun r1 =>
  bif !r1 then
    some ((0 : Int), false)
  else
    (loopF fuel_ (Y := (Int) ⊕ (Int × Bool)) (fun (x1 : Int × Int × Int) =>
      bif decide (x1.2.2 < (hosts.length : Int)) then
        if 0 ≤ x1.2.2 ∧ x1.2.2 < (hosts.length : Int) then
          (balance_guests.g fuel_ l on x1.2.2).bind fun r2 =>
          (slices_Contains_int_int.g fuel_ not_ x1.2.2).bind fun r3 =>
          bif r3 then
            some (.inl (x1.1, x1.2.1, IntKind.wrap .i64 (x1.2.2 + 1)))
          else
            (admission_Admit.g fuel_ ((nth ((0 : Int), (0 : Int), false) hosts x1.2.2).1, ((nth ((0 : Int), (0 : Int), false) hosts x1.2.2).2)) r2 d).bind fun r4 =>
            bif !decide (r4 = 0) then
              some (.inl (x1.1, x1.2.1, IntKind.wrap .i64 (x1.2.2 + 1)))
            else
              (admission_Free.g fuel_ ((nth ((0 : Int), (0 : Int), false) hosts x1.2.2).1, ((nth ((0 : Int), (0 : Int), false) hosts x1.2.2).2)) r2).bind fun r5 =>
              bif decide (x1.1 < 0) then
                some (.inl (x1.2.2, r5.1, IntKind.wrap .i64 (x1.2.2 + 1)))
              else
                bif decide (r5.1 > x1.2.1) then
                  some (.inl (x1.2.2, r5.1, IntKind.wrap .i64 (x1.2.2 + 1)))
                else
                  some (.inl (x1.1, x1.2.1, IntKind.wrap .i64 (x1.2.2 + 1)))
        else none
      else
        some (.inr (.inl x1.1))) ((-1 : Int), (0 : Int), (0 : Int))).bind fun o => match o with
    | .inl y2 =>
      bif decide (y2 < 0) then
        some ((0 : Int), false)
      else
        some (y2, true)
    | .inr r => some r
theorem balance_Choose.mono (fuel_ : Nat) (hosts : List (Int × Int × Bool)) (l : List (Int × Int × Int × Int)) (on : List Int) (d : Int × Int × Int × Int) (not_ : List Int) : Le (balance_Choose.g fuel_ hosts l on d not_) (balance_Choose.f hosts l on d not_) := by
  unfold balance_Choose.g balance_Choose.f
  repeat' (first | with_reducible exact Le.refl _ | with_reducible exact admission_Free.mono _ _ _ | with_reducible exact admission_Admit.mono _ _ _ _ | with_reducible exact balance_valid.mono _ _ _ _ | with_reducible exact balance_guests.mono _ _ _ _ | with_reducible exact slices_Contains_int_int.mono _ _ _ | with_reducible refine Le.bind ?_ ?_ | with_reducible refine Le.cond ?_ ?_ | with_reducible refine Le.ite ?_ ?_ | with_reducible refine Le.bothD ?_ ?_ | with_reducible refine Le.loop ?_ _ | (intro o; rcases o with y | r <;> try dsimp only) | (intro _; show Le _ _) | dsimp only)
noncomputable def balance_Evacuate.g (fuel_ : Nat) (hosts : List (Int × Int × Bool)) (l : List (Int × Int × Int × Int)) (on : List Int) (host : Int) : Option ((List (Int × Int × Int)) × List Int × Bool) :=
  (balance_valid.g fuel_ hosts l on).bind fun r1 =>
  bif !r1 then
    some ([], [], false)
  else
    bif decide (host < 0) then
      some ([], [], false)
    else
      bif decide (host ≥ (hosts.length : Int)) then
        some ([], [], false)
      else
        (slices_Clone_int_int.g fuel_ on).bind fun r2 =>
        (loopF fuel_ (Y := (List Int × List (Int × Int × Int)) ⊕ ((List (Int × Int × Int)) × List Int × Bool)) (fun (x1 : List Int × (List (Int × Int × Int)) × Int) =>
          bif decide (x1.2.2 < (l.length : Int)) then
            if 0 ≤ x1.2.2 ∧ x1.2.2 < (l.length : Int) then
              if 0 ≤ x1.2.2 ∧ x1.2.2 < (x1.1.length : Int) then
                bif !decide ((nth (0 : Int) x1.1 x1.2.2) = host) then
                  some (.inl (x1.1, x1.2.1, IntKind.wrap .i64 (x1.2.2 + 1)))
                else
                  if 0 ≤ x1.2.2 ∧ x1.2.2 ≤ (l.length : Int) then
                    if 0 ≤ (IntKind.wrap .i64 (x1.2.2 + 1)) ∧ (IntKind.wrap .i64 (x1.2.2 + 1)) ≤ (l.length : Int) then
                      (slices_Concat_api_Demand_api_Demand.g fuel_ ([slc l (0 : Int) x1.2.2, slc l (IntKind.wrap .i64 (x1.2.2 + 1)) (l.length : Int)] : List (List (Int × Int × Int × Int)))).bind fun r3 =>
                      if 0 ≤ x1.2.2 ∧ x1.2.2 ≤ (x1.1.length : Int) then
                        if 0 ≤ (IntKind.wrap .i64 (x1.2.2 + 1)) ∧ (IntKind.wrap .i64 (x1.2.2 + 1)) ≤ (x1.1.length : Int) then
                          (slices_Concat_int_int.g fuel_ ([slc x1.1 (0 : Int) x1.2.2, slc x1.1 (IntKind.wrap .i64 (x1.2.2 + 1)) (x1.1.length : Int)] : List (List Int))).bind fun r4 =>
                          (balance_Choose.g fuel_ hosts r3 r4 ((nth ((0 : Int), (0 : Int), (0 : Int), (0 : Int)) l x1.2.2).1, ((nth ((0 : Int), (0 : Int), (0 : Int), (0 : Int)) l x1.2.2).2).1, (((nth ((0 : Int), (0 : Int), (0 : Int), (0 : Int)) l x1.2.2).2).2)) ([host] : List Int)).bind fun r5 =>
                          bif !r5.2 then
                            some (.inr (.inr ([], [], false)))
                          else
                            if 0 ≤ x1.2.2 ∧ x1.2.2 < (x1.1.length : Int) then
                              if (x1.2.1.length + ([(x1.2.2, host, r5.1)] : List (Int × Int × Int)).length) * 24 ≤ 70368744177664 then
                                some (.inl (put x1.1 x1.2.2 r5.1, (x1.2.1 ++ ([(x1.2.2, host, r5.1)] : List (Int × Int × Int))), IntKind.wrap .i64 (x1.2.2 + 1)))
                              else none
                            else none
                        else none
                      else none
                    else none
                  else none
              else none
            else none
          else
            some (.inr (.inl (x1.1, x1.2.1)))) (r2, [], (0 : Int))).bind fun o => match o with
        | .inl y2 =>
          some (y2.2, y2.1, true)
        | .inr r => some r
theorem balance_Evacuate.mono (fuel_ : Nat) (hosts : List (Int × Int × Bool)) (l : List (Int × Int × Int × Int)) (on : List Int) (host : Int) : Le (balance_Evacuate.g fuel_ hosts l on host) (balance_Evacuate.f hosts l on host) := by
  unfold balance_Evacuate.g balance_Evacuate.f
  repeat' (first | with_reducible exact Le.refl _ | with_reducible exact balance_Choose.mono _ _ _ _ _ _ | with_reducible exact balance_valid.mono _ _ _ _ | with_reducible exact slices_Clone_int_int.mono _ _ | with_reducible exact slices_Concat_api_Demand_api_Demand.mono _ _ | with_reducible exact slices_Concat_int_int.mono _ _ | with_reducible refine Le.bind ?_ ?_ | with_reducible refine Le.cond ?_ ?_ | with_reducible refine Le.ite ?_ ?_ | with_reducible refine Le.bothD ?_ ?_ | with_reducible refine Le.loop ?_ _ | (intro o; rcases o with y | r <;> try dsimp only) | (intro _; show Le _ _) | dsimp only)
noncomputable def vmfleetref1_SameInts.g (fuel_ : Nat) (a : List Int) (b : List Int) : Option Bool :=
  bif !decide ((a.length : Int) = (b.length : Int)) then
    some false
  else
    (loopF fuel_ (Y := (Unit) ⊕ (Bool)) (fun (x1 : Int) =>
      bif decide (x1 < (a.length : Int)) then
        if 0 ≤ x1 ∧ x1 < (a.length : Int) then
          if 0 ≤ x1 ∧ x1 < (b.length : Int) then
            bif !decide ((nth (0 : Int) a x1) = (nth (0 : Int) b x1)) then
              some (.inr (.inr false))
            else
              some (.inl (IntKind.wrap .i64 (x1 + 1)))
          else none
        else none
      else
        some (.inr (.inl ()))) (0 : Int)).bind fun o => match o with
    | .inl y2 =>
      some true
    | .inr r => some r
theorem vmfleetref1_SameInts.mono (fuel_ : Nat) (a : List Int) (b : List Int) : Le (vmfleetref1_SameInts.g fuel_ a b) (vmfleetref1_SameInts.f a b) := by
  unfold vmfleetref1_SameInts.g vmfleetref1_SameInts.f
  repeat' (first | with_reducible exact Le.refl _ | with_reducible refine Le.bind ?_ ?_ | with_reducible refine Le.cond ?_ ?_ | with_reducible refine Le.ite ?_ ?_ | with_reducible refine Le.bothD ?_ ?_ | with_reducible refine Le.loop ?_ _ | (intro o; rcases o with y | r <;> try dsimp only) | (intro _; show Le _ _) | dsimp only)
noncomputable def vmfleetlaw40_awake.g (fuel_ : Nat)  : Option Bool :=
  (balance_Assign.g fuel_ ([((10 : Int), (100 : Int), true), ((10 : Int), (100 : Int), true)] : List (Int × Int × Bool)) ([((4 : Int), (4 : Int), (0 : Int), (0 : Int)), ((4 : Int), (4 : Int), (0 : Int), (0 : Int)), ((4 : Int), (4 : Int), (0 : Int), (0 : Int))] : List (Int × Int × Int × Int))).bind fun r1 =>
  (balance_Spread.g fuel_ ([((10 : Int), (100 : Int), true), ((10 : Int), (100 : Int), true)] : List (Int × Int × Bool)) ([((4 : Int), (4 : Int), (0 : Int), (0 : Int)), ((4 : Int), (4 : Int), (0 : Int), (0 : Int)), ((4 : Int), (4 : Int), (0 : Int), (0 : Int))] : List (Int × Int × Int × Int)) ([(0 : Int), (0 : Int), (1 : Int)] : List Int)).bind fun r2 =>
  (balance_Improve.g fuel_ ([((10 : Int), (100 : Int), true), ((10 : Int), (100 : Int), true)] : List (Int × Int × Bool)) ([((4 : Int), (4 : Int), (0 : Int), (0 : Int)), ((4 : Int), (4 : Int), (0 : Int), (0 : Int)), ((4 : Int), (4 : Int), (0 : Int), (0 : Int))] : List (Int × Int × Int × Int)) ([(0 : Int), (0 : Int), (1 : Int)] : List Int)).bind fun r3 =>
  if 0 ≤ (1 : Int) ∧ (1 : Int) ≤ (([((4 : Int), (4 : Int), (0 : Int), (0 : Int)), ((4 : Int), (4 : Int), (0 : Int), (0 : Int)), ((4 : Int), (4 : Int), (0 : Int), (0 : Int))] : List (Int × Int × Int × Int)).length : Int) then
    (balance_Evacuate.g fuel_ ([((10 : Int), (100 : Int), true), ((10 : Int), (100 : Int), true)] : List (Int × Int × Bool)) (slc ([((4 : Int), (4 : Int), (0 : Int), (0 : Int)), ((4 : Int), (4 : Int), (0 : Int), (0 : Int)), ((4 : Int), (4 : Int), (0 : Int), (0 : Int))] : List (Int × Int × Int × Int)) (0 : Int) (1 : Int)) ([(0 : Int)] : List Int) (0 : Int)).bind fun r4 =>
    bif r1.2 then
      (vmfleetref1_SameInts.g fuel_ r1.1 ([(0 : Int), (0 : Int), (1 : Int)] : List Int)).bind fun r5 =>
      bif r5 then
        bif r2.2 then
          bif decide (r2.1 = 400) then
            bif !r3.2 then
              bif (decide (r3.1 = ((0 : Int), (0 : Int), (0 : Int)))) then
                bif r4.2.2 then
                  (vmfleetref1_SameInts.g fuel_ r4.2.1 ([(1 : Int)] : List Int)).bind fun r6 =>
                  bif r6 then
                    if 0 ≤ (1 : Int) ∧ (1 : Int) ≤ (([((4 : Int), (4 : Int), (0 : Int), (0 : Int)), ((4 : Int), (4 : Int), (0 : Int), (0 : Int)), ((4 : Int), (4 : Int), (0 : Int), (0 : Int))] : List (Int × Int × Int × Int)).length : Int) then
                      (balance_Load.g fuel_ ((10 : Int), (100 : Int), true) (slc ([((4 : Int), (4 : Int), (0 : Int), (0 : Int)), ((4 : Int), (4 : Int), (0 : Int), (0 : Int)), ((4 : Int), (4 : Int), (0 : Int), (0 : Int))] : List (Int × Int × Int × Int)) (0 : Int) (1 : Int))).bind fun r7 =>
                      some (decide (r7 = 400))
                    else none
                  else
                    some false
                else
                  some false
              else
                some false
            else
              some false
          else
            some false
        else
          some false
      else
        some false
    else
      some false
  else none
theorem vmfleetlaw40_awake.mono (fuel_ : Nat)  : Le (vmfleetlaw40_awake.g fuel_) (vmfleetlaw40_awake.f) := by
  unfold vmfleetlaw40_awake.g vmfleetlaw40_awake.f
  repeat' (first | with_reducible exact Le.refl _ | with_reducible exact balance_Assign.mono _ _ _ | with_reducible exact balance_Evacuate.mono _ _ _ _ _ | with_reducible exact vmfleetref1_SameInts.mono _ _ _ | with_reducible exact balance_Spread.mono _ _ _ _ | with_reducible exact balance_Improve.mono _ _ _ _ | with_reducible exact balance_Load.mono _ _ _ | with_reducible refine Le.bind ?_ ?_ | with_reducible refine Le.cond ?_ ?_ | with_reducible refine Le.ite ?_ ?_ | with_reducible refine Le.bothD ?_ ?_ | with_reducible refine Le.loop ?_ _ | (intro o; rcases o with y | r <;> try dsimp only) | (intro _; show Le _ _) | dsimp only)
theorem vmfleetlaw40_awake.ok : vmfleetlaw40_awake.f = some true := vmfleetlaw40_awake.mono 5000 true (by kernel_rfl)
end Go.Proofs.Ytondojojpgmjcaa.Fn
