/- The functions that the laws of this seat reach, each as a plain Lean function, with the proof that the loaded code computes it. -/
import Derived.Test.YteiepkkkphkncaaLLaw
import Derived.Test.YteiepkkkphkncaaLPure
import Derived.Test.YteiepkkkphkncaaProg
import Derived.Test.YteiepkkkphkncaaChecked
set_option maxRecDepth 100000
set_option linter.unusedVariables false
namespace Go.Proofs.Yteiepkkkphkncaa.Fn
open Go Lift
def TYS : List (Nat × TI) := [(2, ⟨(.int .i64), 0⟩), (3, ⟨(.int .i64), 0⟩), (4, ⟨.bool, 0⟩), (5, ⟨(.int .u8), 0⟩), (9, ⟨.str, 0⟩), (22, ⟨(.int .u32), 0⟩), (24, ⟨(.st (.pair (.int .u32) (.pair (.int .u32) (.pair (.int .u32) (.pair (.int .i64) (.pair (.int .i64) (.pair (.int .u32) (.pair (.int .u32) .str)))))))), 0⟩), (25, ⟨(.int .u64), 0⟩), (27, ⟨(.sl (.int .u32)), 4⟩), (30, ⟨(.sl (.st (.pair (.int .i64) (.pair (.int .u64) (.pair (.int .u32) .str))))), 40⟩), (34, ⟨(.st (.pair (.int .i64) (.pair (.int .u64) (.pair (.int .u32) .str)))), 0⟩), (42, ⟨(.st (.pair (.int .u32) (.pair (.int .u32) (.pair .bool (.pair (.int .u32) (.pair .bool (.int .u32))))))), 0⟩), (48, ⟨(.sl (.int .i64)), 8⟩), (64, ⟨(.st (.pair (.int .i64) (.pair (.int .u32) .str))), 0⟩), (73, ⟨(.int .u64), 0⟩), (81, ⟨(.sl (.int .u8)), 1⟩)]
theorem TYS.ok : tysB Try.prog TYS = true := by kernel_rfl
theorem mixed : Try.prog.follows .mixedOrders = true := Checked.mixed Try.checked

/-! vmfleet/vmfleetref1.Next -/
noncomputable def vmfleetref1_Next.f (seed : Int) : Option (Int × Int) :=
  let v1 := IntKind.wrap .u64 (seed + 11400714819323198485)
  let v2 := IntKind.wrap .u64 ((xorI .u64 v1 (shrI .u64 v1 (30 : Int))) * 13787848793156543929)
  let v3 := IntKind.wrap .u64 ((xorI .u64 v2 (shrI .u64 v2 (27 : Int))) * 10723151780598845931)
  some (xorI .u64 v3 (shrI .u64 v3 (31 : Int)), v1)
noncomputable def vmfleetref1_Next.sp : FSpec := ⟨[(.int .u64)], [(.int .u64), (.int .u64)], fun x => vmfleetref1_Next.f x⟩
noncomputable def vmfleetref1_Next.env : Env := ⟨TYS, [], [], [], [], []⟩
theorem vmfleetref1_Next.eq (x) : fnEval vmfleetref1_Next.env vmfleetref1_Next.sp.args vmfleetref1_Next.sp.res Go.Proofs.Try.f57 x = vmfleetref1_Next.sp.f x := by kernel_rfl
theorem vmfleetref1_Next.sound : Sound Try.prog 57 vmfleetref1_Next.sp := Lift.sound (E := vmfleetref1_Next.env) Try.func57 (by kernel_rfl) (env_ok TYS.ok mixed trivial trivial) (by kernel_rfl) vmfleetref1_Next.eq

/-! vmfleet/vmfleetmake.Mix -/
noncomputable def vmfleetmake_Mix.f (n : Int) (k : Int) : Option Int :=
  (vmfleetref1_Next.f (xorI .u64 (IntKind.wrap .u64 n) (IntKind.wrap .u64 ((IntKind.wrap .u64 k) * 11400714819323198485)))).bind fun r1 =>
  some (IntKind.wrap .i64 (shrI .u64 r1.1 (1 : Int)))
noncomputable def vmfleetmake_Mix.sp : FSpec := ⟨[(.int .i64), (.int .i64)], [(.int .i64)], fun x => vmfleetmake_Mix.f x.1 x.2⟩
noncomputable def vmfleetmake_Mix.env : Env := ⟨TYS, [(57, vmfleetref1_Next.sp)], [], [], [], []⟩
theorem vmfleetmake_Mix.eq (x) : fnEval vmfleetmake_Mix.env vmfleetmake_Mix.sp.args vmfleetmake_Mix.sp.res Go.Proofs.Try.f35 x = vmfleetmake_Mix.sp.f x := by kernel_rfl
theorem vmfleetmake_Mix.sound : Sound Try.prog 35 vmfleetmake_Mix.sp := Lift.sound (E := vmfleetmake_Mix.env) Try.func35 (by kernel_rfl) (env_ok TYS.ok mixed ⟨vmfleetref1_Next.sound, trivial⟩ trivial) (by kernel_rfl) vmfleetmake_Mix.eq

/-! vmfleet/vmfleetmake.Data -/
noncomputable def vmfleetmake_Data.f (n : Int) (k : Int) : Option ByteArray :=
  (loop (Y := (List Int) ⊕ (ByteArray)) (fun (x1 : List Int × Int) =>
    bif decide (x1.2 < k) then
      (vmfleetmake_Mix.f n (IntKind.wrap .i64 (Int.tdiv x1.2 (9 : Int)))).bind fun r1 =>
      if (x1.1.length + ([IntKind.wrap .u8 r1] : List Int).length) * 1 ≤ 70368744177664 then
        some (.inl ((x1.1 ++ ([IntKind.wrap .u8 r1] : List Int)), IntKind.wrap .i64 (x1.2 + 1)))
      else none
    else
      some (.inr (.inl x1.1))) ([], (0 : Int))).bind fun o => match o with
  | .inl y2 =>
    some (strOf y2)
  | .inr r => some r
noncomputable def vmfleetmake_Data.sp : FSpec := ⟨[(.int .i64), (.int .i64)], [.str], fun x => vmfleetmake_Data.f x.1 x.2⟩
noncomputable def vmfleetmake_Data.env : Env := ⟨TYS, [(35, vmfleetmake_Mix.sp)], [], [(3, ⟨[0, 1, 4], [⟨5, false, (.own (.int .u8))⟩, ⟨6, false, (.int .i64)⟩], [⟨5, false, (.own (.int .u8))⟩], 0, none⟩)], [], []⟩
theorem vmfleetmake_Data.eq (x) : fnEval vmfleetmake_Data.env vmfleetmake_Data.sp.args vmfleetmake_Data.sp.res Go.Proofs.Try.f31 x = vmfleetmake_Data.sp.f x := by kernel_rfl
theorem vmfleetmake_Data.sound : Sound Try.prog 31 vmfleetmake_Data.sp := Lift.sound (E := vmfleetmake_Data.env) Try.func31 (by kernel_rfl) (env_ok TYS.ok mixed ⟨vmfleetmake_Mix.sound, trivial⟩ trivial) (by kernel_rfl) vmfleetmake_Data.eq

/-! vmfleet/vmfleetlaw9.shaped -/
noncomputable def vmfleetlaw9_shaped.f (d : Int × Int × Int × Int × Int × Int × Int × ByteArray) (raw : Bool) (n : Int) : Option (Int × Int × Int × Int × Int × Int × Int × ByteArray) :=
  (bif raw then
    bif (decide ((d.2.2.2.2.2.2.2.size : Int) ≤ 300)) then
      some (.inr d)
    else
      some (.inl ((0 : Int), (0 : Int), (0 : Int), (0 : Int), (0 : Int), (0 : Int), (0 : Int), (⟨#[]⟩ : ByteArray)))
  else
    some (.inl ((0 : Int), (0 : Int), (0 : Int), (0 : Int), (0 : Int), (0 : Int), (0 : Int), (⟨#[]⟩ : ByteArray))) : Option ((Int × Int × Int × Int × Int × Int × Int × ByteArray) ⊕ (Int × Int × Int × Int × Int × Int × Int × ByteArray))).bind fun o => match o with
  | .inl y1 =>
    (vmfleetmake_Mix.f n (11 : Int)).bind fun r1 =>
    let v2 := IntKind.wrap .u32 (andI .i64 r1 (7 : Int))
    let v3 := andI .i64 (shrI .i64 r1 (3 : Int)) (7 : Int)
    let v4 := andI .i64 (shrI .i64 r1 (6 : Int)) (3 : Int)
    bif decide (v4 = 1) then
      let v5 := andI .i64 (shrI .i64 r1 (8 : Int)) (1 : Int)
      let v6 := andI .i64 (shrI .i64 r1 (9 : Int)) (3 : Int)
      let v7 := andI .i64 (shrI .i64 r1 (11 : Int)) (3 : Int)
      bif decide ((IntKind.wrap .i64 (1 + v5)) = 2) then
        (vmfleetmake_Data.f r1 (128 : Int)).bind fun r2 =>
        some ((4 : Int), v2, IntKind.wrap .u32 v3, v4, IntKind.wrap .i64 (1 + v5), IntKind.wrap .u32 v6, IntKind.wrap .u32 v7, r2)
      else
        some ((4 : Int), v2, IntKind.wrap .u32 v3, v4, IntKind.wrap .i64 (1 + v5), IntKind.wrap .u32 v6, IntKind.wrap .u32 v7, (⟨#[]⟩ : ByteArray))
    else
      some ((4 : Int), v2, IntKind.wrap .u32 v3, v4, (0 : Int), (0 : Int), (0 : Int), (⟨#[]⟩ : ByteArray))
  | .inr r => some r
noncomputable def vmfleetlaw9_shaped.sp : FSpec := ⟨[(.st (.pair (.int .u32) (.pair (.int .u32) (.pair (.int .u32) (.pair (.int .i64) (.pair (.int .i64) (.pair (.int .u32) (.pair (.int .u32) .str)))))))), .bool, (.int .i64)], [(.st (.pair (.int .u32) (.pair (.int .u32) (.pair (.int .u32) (.pair (.int .i64) (.pair (.int .i64) (.pair (.int .u32) (.pair (.int .u32) .str))))))))], fun x => vmfleetlaw9_shaped.f x.1 x.2.1 x.2.2⟩
noncomputable def vmfleetlaw9_shaped.env : Env := ⟨TYS, [(31, vmfleetmake_Data.sp), (35, vmfleetmake_Mix.sp)], [], [], [(3, ⟨[2, 3], [⟨6, true, (.st (.pair (.int .u32) (.pair (.int .u32) (.pair (.int .u32) (.pair (.int .i64) (.pair (.int .i64) (.pair (.int .u32) (.pair (.int .u32) .str))))))))⟩], [⟨6, true, (.st (.pair (.int .u32) (.pair (.int .u32) (.pair (.int .u32) (.pair (.int .i64) (.pair (.int .i64) (.pair (.int .u32) (.pair (.int .u32) .str))))))))⟩], 0, none⟩)], []⟩
theorem vmfleetlaw9_shaped.eq (x) : fnEval vmfleetlaw9_shaped.env vmfleetlaw9_shaped.sp.args vmfleetlaw9_shaped.sp.res Go.Proofs.Try.f12 x = vmfleetlaw9_shaped.sp.f x := by kernel_rfl
theorem vmfleetlaw9_shaped.sound : Sound Try.prog 12 vmfleetlaw9_shaped.sp := Lift.sound (E := vmfleetlaw9_shaped.env) Try.func12 (by kernel_rfl) (env_ok TYS.ok mixed ⟨vmfleetmake_Data.sound, vmfleetmake_Mix.sound, trivial⟩ trivial) (by kernel_rfl) vmfleetlaw9_shaped.eq

/-! vmfleet/vmfleetmake.Round -/
noncomputable def vmfleetmake_Round.f (n : Int) (k : Int) : Option Int :=
  if k = 0 then none else
  bif decide ((Int.tmod n k) < 0) then
    some (IntKind.wrap .i64 ((Int.tmod n k) + k))
  else
    some (Int.tmod n k)
noncomputable def vmfleetmake_Round.sp : FSpec := ⟨[(.int .i64), (.int .i64)], [(.int .i64)], fun x => vmfleetmake_Round.f x.1 x.2⟩
noncomputable def vmfleetmake_Round.env : Env := ⟨TYS, [], [], [], [], []⟩
theorem vmfleetmake_Round.eq (x) : fnEval vmfleetmake_Round.env vmfleetmake_Round.sp.args vmfleetmake_Round.sp.res Go.Proofs.Try.f14 x = vmfleetmake_Round.sp.f x := by kernel_rfl
theorem vmfleetmake_Round.sound : Sound Try.prog 14 vmfleetmake_Round.sp := Lift.sound (E := vmfleetmake_Round.env) Try.func14 (by kernel_rfl) (env_ok TYS.ok mixed trivial trivial) (by kernel_rfl) vmfleetmake_Round.eq

/-! vmfleet/vmfleetref1.New -/
noncomputable def vmfleetref1_New.f (pages : Int) : Option (List Int) :=
  bif decide (pages < 1) then
    some []
  else
    bif decide (pages > 32) then
      some []
    else
      if 0 ≤ (IntKind.wrap .i64 (pages * 32)) ∧ (IntKind.wrap .i64 (pages * 32)) ≤ (IntKind.wrap .i64 (pages * 32)) ∧ (IntKind.wrap .i64 (pages * 32)) * ((4 : Nat) : Int) ≤ 70368744177664 then
        some (List.replicate ((IntKind.wrap .i64 (pages * 32)).toNat) (0 : Int))
      else none
noncomputable def vmfleetref1_New.sp : FSpec := ⟨[(.int .i64)], [(.own (.int .u32))], fun x => vmfleetref1_New.f x⟩
noncomputable def vmfleetref1_New.env : Env := ⟨TYS, [], [], [], [], []⟩
theorem vmfleetref1_New.eq (x) : fnEval vmfleetref1_New.env vmfleetref1_New.sp.args vmfleetref1_New.sp.res Go.Proofs.Try.f49 x = vmfleetref1_New.sp.f x := by kernel_rfl
theorem vmfleetref1_New.sound : Sound Try.prog 49 vmfleetref1_New.sp := Lift.sound (E := vmfleetref1_New.env) Try.func49 (by kernel_rfl) (env_ok TYS.ok mixed trivial trivial) (by kernel_rfl) vmfleetref1_New.eq

/-! vmfleet/vmfleetlaw9.words -/
noncomputable def vmfleetlaw9_words.f (n : Int) (pages : Int) : Option (List Int) :=
  (vmfleetmake_Round.f pages (6 : Int)).bind fun r1 =>
  (vmfleetref1_New.f (IntKind.wrap .i64 (1 + r1))).bind fun r2 =>
  (loop (Y := (List Int) ⊕ (List Int)) (fun (x1 : List Int × Int) =>
    bif decide (x1.2 < (x1.1.length : Int)) then
      (vmfleetmake_Mix.f n x1.2).bind fun r3 =>
      if 0 ≤ x1.2 ∧ x1.2 < (x1.1.length : Int) then
        some (.inl (put x1.1 x1.2 (IntKind.wrap .u32 (andI .i64 r3 (4294967295 : Int))), IntKind.wrap .i64 (x1.2 + 1)))
      else none
    else
      some (.inr (.inl x1.1))) (r2, (0 : Int))).bind fun o => match o with
  | .inl y2 =>
    some y2
  | .inr r => some r
noncomputable def vmfleetlaw9_words.sp : FSpec := ⟨[(.int .i64), (.int .i64)], [(.own (.int .u32))], fun x => vmfleetlaw9_words.f x.1 x.2⟩
noncomputable def vmfleetlaw9_words.env : Env := ⟨TYS, [(14, vmfleetmake_Round.sp), (35, vmfleetmake_Mix.sp), (49, vmfleetref1_New.sp)], [], [(3, ⟨[0, 4], [⟨5, false, (.own (.int .u32))⟩, ⟨6, false, (.int .i64)⟩], [⟨5, false, (.own (.int .u32))⟩], 0, none⟩)], [], []⟩
theorem vmfleetlaw9_words.eq (x) : fnEval vmfleetlaw9_words.env vmfleetlaw9_words.sp.args vmfleetlaw9_words.sp.res Go.Proofs.Try.f13 x = vmfleetlaw9_words.sp.f x := by kernel_rfl
theorem vmfleetlaw9_words.sound : Sound Try.prog 13 vmfleetlaw9_words.sp := Lift.sound (E := vmfleetlaw9_words.env) Try.func13 (by kernel_rfl) (env_ok TYS.ok mixed ⟨vmfleetmake_Round.sound, vmfleetmake_Mix.sound, vmfleetref1_New.sound, trivial⟩ trivial) (by kernel_rfl) vmfleetlaw9_words.eq

/-! vmfleet/disk.Pending -/
noncomputable def disk_Pending.f (d : Int × Int × Int × Int × Int × Int × Int × ByteArray) : Option Bool :=
  bif decide (d.2.2.2.1 = 2) then
    some true
  else
    some (decide (d.2.2.2.1 = 3))
noncomputable def disk_Pending.sp : FSpec := ⟨[(.st (.pair (.int .u32) (.pair (.int .u32) (.pair (.int .u32) (.pair (.int .i64) (.pair (.int .i64) (.pair (.int .u32) (.pair (.int .u32) .str))))))))], [.bool], fun x => disk_Pending.f x⟩
noncomputable def disk_Pending.env : Env := ⟨TYS, [], [], [], [], []⟩
theorem disk_Pending.eq (x) : fnEval disk_Pending.env disk_Pending.sp.args disk_Pending.sp.res Go.Proofs.Try.f45 x = disk_Pending.sp.f x := by kernel_rfl
theorem disk_Pending.sound : Sound Try.prog 45 disk_Pending.sp := Lift.sound (E := disk_Pending.env) Try.func45 (by kernel_rfl) (env_ok TYS.ok mixed trivial trivial) (by kernel_rfl) disk_Pending.eq

/-! vmfleet/memory.Pages -/
noncomputable def memory_Pages.f (m : List Int) : Option Int :=
  bif !decide ((Int.tmod (m.length : Int) (32 : Int)) = 0) then
    some (0 : Int)
  else
    bif decide ((m.length : Int) > 1024) then
      some (0 : Int)
    else
      some (IntKind.wrap .i64 (Int.tdiv (m.length : Int) (32 : Int)))
noncomputable def memory_Pages.sp : FSpec := ⟨[(.sl (.int .u32))], [(.int .i64)], fun x => memory_Pages.f x⟩
noncomputable def memory_Pages.env : Env := ⟨TYS, [], [], [], [], []⟩
theorem memory_Pages.eq (x) : fnEval memory_Pages.env memory_Pages.sp.args memory_Pages.sp.res Go.Proofs.Try.f65 x = memory_Pages.sp.f x := by kernel_rfl
theorem memory_Pages.sound : Sound Try.prog 65 memory_Pages.sp := Lift.sound (E := memory_Pages.env) Try.func65 (by kernel_rfl) (env_ok TYS.ok mixed trivial trivial) (by kernel_rfl) memory_Pages.eq

/-! vmfleet/memory.has -/
noncomputable def memory_has.f (m : List Int) (frame : Int) : Option Bool :=
  bif decide (frame ≥ 0) then
    (memory_Pages.f m).bind fun r1 =>
    some (decide (frame < r1))
  else
    some false
noncomputable def memory_has.sp : FSpec := ⟨[(.sl (.int .u32)), (.int .i64)], [.bool], fun x => memory_has.f x.1 x.2⟩
noncomputable def memory_has.env : Env := ⟨TYS, [(65, memory_Pages.sp)], [], [], [], []⟩
theorem memory_has.eq (x) : fnEval memory_has.env memory_has.sp.args memory_has.sp.res Go.Proofs.Try.f61 x = memory_has.sp.f x := by kernel_rfl
theorem memory_has.sound : Sound Try.prog 61 memory_has.sp := Lift.sound (E := memory_has.env) Try.func61 (by kernel_rfl) (env_ok TYS.ok mixed ⟨memory_Pages.sound, trivial⟩ trivial) (by kernel_rfl) memory_has.eq

/-! vmfleet/memory.text -/
noncomputable def memory_text.f (l : List Int) : Option ByteArray :=
  if 0 ≤ (0 : Int) ∧ (0 : Int) ≤ (IntKind.wrap .i64 (4 * (l.length : Int))) ∧ (IntKind.wrap .i64 (4 * (l.length : Int))) * ((1 : Nat) : Int) ≤ 70368744177664 then
    (loop (Y := (List Int) ⊕ (ByteArray)) (fun (x1 : List Int × Int) =>
      bif decide (x1.2 < (l.length : Int)) then
        if 0 ≤ x1.2 ∧ x1.2 < (l.length : Int) then
          let v1 := shrI .u32 (nth (0 : Int) l x1.2) (8 : Int)
          let v2 := shrI .u32 (nth (0 : Int) l x1.2) (16 : Int)
          let v3 := shrI .u32 (nth (0 : Int) l x1.2) (24 : Int)
          if (x1.1.length + ([IntKind.wrap .u8 (nth (0 : Int) l x1.2), IntKind.wrap .u8 v1, IntKind.wrap .u8 v2, IntKind.wrap .u8 v3] : List Int).length) * 1 ≤ 70368744177664 then
            some (.inl ((x1.1 ++ ([IntKind.wrap .u8 (nth (0 : Int) l x1.2), IntKind.wrap .u8 v1, IntKind.wrap .u8 v2, IntKind.wrap .u8 v3] : List Int)), IntKind.wrap .i64 (x1.2 + 1)))
          else none
        else none
      else
        some (.inr (.inl x1.1))) (List.replicate 0 (0 : Int), (0 : Int))).bind fun o => match o with
    | .inl y2 =>
      some (strOf y2)
    | .inr r => some r
  else none
noncomputable def memory_text.sp : FSpec := ⟨[(.sl (.int .u32))], [.str], fun x => memory_text.f x⟩
noncomputable def memory_text.env : Env := ⟨TYS, [], [], [(3, ⟨[2, 10, 11], [⟨3, false, (.own (.int .u8))⟩, ⟨12, false, (.int .i64)⟩], [⟨3, false, (.own (.int .u8))⟩], 0, none⟩)], [], []⟩
theorem memory_text.eq (x) : fnEval memory_text.env memory_text.sp.args memory_text.sp.res Go.Proofs.Try.f62 x = memory_text.sp.f x := by kernel_rfl
theorem memory_text.sound : Sound Try.prog 62 memory_text.sp := Lift.sound (E := memory_text.env) Try.func62 (by kernel_rfl) (env_ok TYS.ok mixed trivial trivial) (by kernel_rfl) memory_text.eq

/-! vmfleet/memory.Page -/
noncomputable def memory_Page.f (m : List Int) (frame : Int) : Option (ByteArray × Bool) :=
  (memory_has.f m frame).bind fun r1 =>
  bif !r1 then
    some ((⟨#[]⟩ : ByteArray), false)
  else
    let v1 := IntKind.wrap .i64 ((IntKind.wrap .i64 (frame + 1)) * 32)
    if 0 ≤ (IntKind.wrap .i64 (frame * 32)) ∧ (IntKind.wrap .i64 (frame * 32)) ≤ v1 ∧ v1 ≤ (m.length : Int) then
      (memory_text.f (slc m (IntKind.wrap .i64 (frame * 32)) v1)).bind fun r2 =>
      some (r2, true)
    else none
noncomputable def memory_Page.sp : FSpec := ⟨[(.sl (.int .u32)), (.int .i64)], [.str, .bool], fun x => memory_Page.f x.1 x.2⟩
noncomputable def memory_Page.env : Env := ⟨TYS, [(61, memory_has.sp), (62, memory_text.sp)], [], [], [], []⟩
theorem memory_Page.eq (x) : fnEval memory_Page.env memory_Page.sp.args memory_Page.sp.res Go.Proofs.Try.f53 x = memory_Page.sp.f x := by kernel_rfl
theorem memory_Page.sound : Sound Try.prog 53 memory_Page.sp := Lift.sound (E := memory_Page.env) Try.func53 (by kernel_rfl) (env_ok TYS.ok mixed ⟨memory_has.sound, memory_text.sound, trivial⟩ trivial) (by kernel_rfl) memory_Page.eq

/-! vmfleet/disk.Request -/
noncomputable def disk_Request.f (d : Int × Int × Int × Int × Int × Int × Int × ByteArray) (at_ : Int) : Option ((Int × Int × Int × ByteArray) × Bool) :=
  bif !decide (d.2.2.2.1 = 1) then
    some (((0 : Int), (0 : Int), (0 : Int), (⟨#[]⟩ : ByteArray)), false)
  else
    bif decide (d.2.2.2.2.1 = 1) then
      some (((3 : Int), at_, d.2.2.2.2.2.1, (⟨#[]⟩ : ByteArray)), true)
    else
      bif decide (d.2.2.2.2.1 = 2) then
        some (((4 : Int), at_, d.2.2.2.2.2.1, d.2.2.2.2.2.2.2), true)
      else
        some (((0 : Int), (0 : Int), (0 : Int), (⟨#[]⟩ : ByteArray)), false)
noncomputable def disk_Request.sp : FSpec := ⟨[(.st (.pair (.int .u32) (.pair (.int .u32) (.pair (.int .u32) (.pair (.int .i64) (.pair (.int .i64) (.pair (.int .u32) (.pair (.int .u32) .str)))))))), (.int .u64)], [(.st (.pair (.int .i64) (.pair (.int .u64) (.pair (.int .u32) .str)))), .bool], fun x => disk_Request.f x.1 x.2⟩
noncomputable def disk_Request.env : Env := ⟨TYS, [], [], [], [], []⟩
theorem disk_Request.eq (x) : fnEval disk_Request.env disk_Request.sp.args disk_Request.sp.res Go.Proofs.Try.f17 x = disk_Request.sp.f x := by kernel_rfl
theorem disk_Request.sound : Sound Try.prog 17 disk_Request.sp := Lift.sound (E := disk_Request.env) Try.func17 (by kernel_rfl) (env_ok TYS.ok mixed trivial trivial) (by kernel_rfl) disk_Request.eq

/-! vmfleet/disk.command -/
noncomputable def disk_command.f (d : Int × Int × Int × Int × Int × Int × Int × ByteArray) (m : List Int) (v : Int) (at_ : Int) : Option ((Int × Int × Int × Int × Int × Int × Int × ByteArray) × List (Int × Int × Int × ByteArray)) :=
  (bif decide (v = 0) then
    (disk_Pending.f d).bind fun r1 =>
    bif r1 then
      some (.inr ((d.1, d.2.1, d.2.2.1, (0 : Int), d.2.2.2.2), []))
    else
      some (.inr (d, []))
  else
    bif decide (v = 1) then
      some (.inl (d, (0 : Int), (0 : Int), (0 : Int), (0 : Int), (0 : Int), (0 : Int), (0 : Int), (⟨#[]⟩ : ByteArray)))
    else
      bif decide (v = 2) then
        some (.inl (d, (0 : Int), (0 : Int), (0 : Int), (0 : Int), (0 : Int), (0 : Int), (0 : Int), (⟨#[]⟩ : ByteArray)))
      else
        some (.inr (d, [])) : Option (((Int × Int × Int × Int × Int × Int × Int × ByteArray) × Int × Int × Int × Int × Int × Int × Int × ByteArray) ⊕ ((Int × Int × Int × Int × Int × Int × Int × ByteArray) × List (Int × Int × Int × ByteArray)))).bind fun o => match o with
  | .inl y1 =>
    bif !decide (y1.1.2.2.2.1 = 0) then
      some (y1.1, [])
    else
      (memory_Page.f m (IntKind.wrap .i64 y1.1.2.2.1)).bind fun r2 =>
      bif decide (y1.1.2.1 ≥ y1.1.1) then
        some ((y1.1.1, y1.1.2.1, y1.1.2.2.1, (3 : Int), y1.1.2.2.2.2), [])
      else
        bif !r2.2 then
          some ((y1.1.1, y1.1.2.1, y1.1.2.2.1, (3 : Int), y1.1.2.2.2.2), [])
        else
          (bif decide (v = 2) then
            some (.inl (y1.1.1, y1.1.2.1, y1.1.2.2.1, (1 : Int), IntKind.wrap .i64 v, y1.1.2.1, y1.1.2.2.1, r2.1))
          else
            some (.inl (y1.1.1, y1.1.2.1, y1.1.2.2.1, (1 : Int), IntKind.wrap .i64 v, y1.1.2.1, y1.1.2.2.1, (⟨#[]⟩ : ByteArray))) : Option ((Int × Int × Int × Int × Int × Int × Int × ByteArray) ⊕ ((Int × Int × Int × Int × Int × Int × Int × ByteArray) × List (Int × Int × Int × ByteArray)))).bind fun o => match o with
          | .inl y2 =>
            (disk_Request.f y2 at_).bind fun r3 =>
            some (y2, ([r3.1] : List (Int × Int × Int × ByteArray)))
          | .inr r => some r
  | .inr r => some r
noncomputable def disk_command.sp : FSpec := ⟨[(.st (.pair (.int .u32) (.pair (.int .u32) (.pair (.int .u32) (.pair (.int .i64) (.pair (.int .i64) (.pair (.int .u32) (.pair (.int .u32) .str)))))))), (.sl (.int .u32)), (.int .u32), (.int .u64)], [(.st (.pair (.int .u32) (.pair (.int .u32) (.pair (.int .u32) (.pair (.int .i64) (.pair (.int .i64) (.pair (.int .u32) (.pair (.int .u32) .str)))))))), (.own (.st (.pair (.int .i64) (.pair (.int .u64) (.pair (.int .u32) .str)))))], fun x => disk_command.f x.1 x.2.1 x.2.2.1 x.2.2.2⟩
noncomputable def disk_command.env : Env := ⟨TYS, [(17, disk_Request.sp), (45, disk_Pending.sp), (53, memory_Page.sp)], [], [], [(9, ⟨[1, 2, 3], [⟨4, true, (.st (.pair (.int .u32) (.pair (.int .u32) (.pair (.int .u32) (.pair (.int .i64) (.pair (.int .i64) (.pair (.int .u32) (.pair (.int .u32) .str))))))))⟩, ⟨8, true, (.st (.pair (.int .u32) (.pair (.int .u32) (.pair (.int .u32) (.pair (.int .i64) (.pair (.int .i64) (.pair (.int .u32) (.pair (.int .u32) .str))))))))⟩], [⟨4, true, (.st (.pair (.int .u32) (.pair (.int .u32) (.pair (.int .u32) (.pair (.int .i64) (.pair (.int .i64) (.pair (.int .u32) (.pair (.int .u32) .str))))))))⟩, ⟨8, true, (.st (.pair (.int .u32) (.pair (.int .u32) (.pair (.int .u32) (.pair (.int .i64) (.pair (.int .i64) (.pair (.int .u32) (.pair (.int .u32) .str))))))))⟩], 0, none⟩), (19, ⟨[3, 8], [⟨4, true, (.st (.pair (.int .u32) (.pair (.int .u32) (.pair (.int .u32) (.pair (.int .i64) (.pair (.int .i64) (.pair (.int .u32) (.pair (.int .u32) .str))))))))⟩], [⟨4, true, (.st (.pair (.int .u32) (.pair (.int .u32) (.pair (.int .u32) (.pair (.int .i64) (.pair (.int .i64) (.pair (.int .u32) (.pair (.int .u32) .str))))))))⟩], 0, none⟩)], []⟩
theorem disk_command.eq (x) : fnEval disk_command.env disk_command.sp.args disk_command.sp.res Go.Proofs.Try.f50 x = disk_command.sp.f x := by kernel_rfl
theorem disk_command.sound : Sound Try.prog 50 disk_command.sp := Lift.sound (E := disk_command.env) Try.func50 (by kernel_rfl) (env_ok TYS.ok mixed ⟨disk_Request.sound, disk_Pending.sound, memory_Page.sound, trivial⟩ trivial) (by kernel_rfl) disk_command.eq

/-! vmfleet/disk.Out -/
noncomputable def disk_Out.f (d : Int × Int × Int × Int × Int × Int × Int × ByteArray) (m : List Int) (port : Int) (v : Int) (at_ : Int) : Option ((Int × Int × Int × Int × Int × Int × Int × ByteArray) × List (Int × Int × Int × ByteArray)) :=
  bif decide (port = 4) then
    some ((d.1, v, d.2.2), [])
  else
    bif decide (port = 5) then
      some ((d.1, d.2.1, v, d.2.2.2), [])
    else
      bif decide (port = 6) then
        (disk_command.f d m v at_).bind fun r1 =>
        some r1
      else
        some (d, [])
noncomputable def disk_Out.sp : FSpec := ⟨[(.st (.pair (.int .u32) (.pair (.int .u32) (.pair (.int .u32) (.pair (.int .i64) (.pair (.int .i64) (.pair (.int .u32) (.pair (.int .u32) .str)))))))), (.sl (.int .u32)), (.int .i64), (.int .u32), (.int .u64)], [(.st (.pair (.int .u32) (.pair (.int .u32) (.pair (.int .u32) (.pair (.int .i64) (.pair (.int .i64) (.pair (.int .u32) (.pair (.int .u32) .str)))))))), (.own (.st (.pair (.int .i64) (.pair (.int .u64) (.pair (.int .u32) .str)))))], fun x => disk_Out.f x.1 x.2.1 x.2.2.1 x.2.2.2.1 x.2.2.2.2⟩
noncomputable def disk_Out.env : Env := ⟨TYS, [(50, disk_command.sp)], [], [], [], []⟩
theorem disk_Out.eq (x) : fnEval disk_Out.env disk_Out.sp.args disk_Out.sp.res Go.Proofs.Try.f15 x = disk_Out.sp.f x := by kernel_rfl
theorem disk_Out.sound : Sound Try.prog 15 disk_Out.sp := Lift.sound (E := disk_Out.env) Try.func15 (by kernel_rfl) (env_ok TYS.ok mixed ⟨disk_command.sound, trivial⟩ trivial) (by kernel_rfl) disk_Out.eq

/-! vmfleet/vmfleetref1.Pages -/
noncomputable def vmfleetref1_Pages.f (m : List Int) : Option Int :=
  bif !decide ((Int.tmod (m.length : Int) (32 : Int)) = 0) then
    some (0 : Int)
  else
    bif decide ((m.length : Int) > 1024) then
      some (0 : Int)
    else
      some (IntKind.wrap .i64 (Int.tdiv (m.length : Int) (32 : Int)))
noncomputable def vmfleetref1_Pages.sp : FSpec := ⟨[(.sl (.int .u32))], [(.int .i64)], fun x => vmfleetref1_Pages.f x⟩
noncomputable def vmfleetref1_Pages.env : Env := ⟨TYS, [], [], [], [], []⟩
theorem vmfleetref1_Pages.eq (x) : fnEval vmfleetref1_Pages.env vmfleetref1_Pages.sp.args vmfleetref1_Pages.sp.res Go.Proofs.Try.f41 x = vmfleetref1_Pages.sp.f x := by kernel_rfl
theorem vmfleetref1_Pages.sound : Sound Try.prog 41 vmfleetref1_Pages.sp := Lift.sound (E := vmfleetref1_Pages.env) Try.func41 (by kernel_rfl) (env_ok TYS.ok mixed trivial trivial) (by kernel_rfl) vmfleetref1_Pages.eq

/-! vmfleet/vmfleetref7.page -/
noncomputable def vmfleetref7_page.f (m : List Int) (frame : Int) : Option Bool :=
  (vmfleetref1_Pages.f m).bind fun r1 =>
  some (decide ((IntKind.wrap .u64 frame) < (IntKind.wrap .u64 r1)))
noncomputable def vmfleetref7_page.sp : FSpec := ⟨[(.sl (.int .u32)), (.int .u32)], [.bool], fun x => vmfleetref7_page.f x.1 x.2⟩
noncomputable def vmfleetref7_page.env : Env := ⟨TYS, [(41, vmfleetref1_Pages.sp)], [], [], [], []⟩
theorem vmfleetref7_page.eq (x) : fnEval vmfleetref7_page.env vmfleetref7_page.sp.args vmfleetref7_page.sp.res Go.Proofs.Try.f51 x = vmfleetref7_page.sp.f x := by kernel_rfl
theorem vmfleetref7_page.sound : Sound Try.prog 51 vmfleetref7_page.sp := Lift.sound (E := vmfleetref7_page.env) Try.func51 (by kernel_rfl) (env_ok TYS.ok mixed ⟨vmfleetref1_Pages.sound, trivial⟩ trivial) (by kernel_rfl) vmfleetref7_page.eq

/-! vmfleet/vmfleetref1.Low -/
noncomputable def vmfleetref1_Low.f (x : Int) (n : Int) : Option ByteArray :=
  (loop (Y := (List Int) ⊕ (ByteArray)) (fun (x1 : List Int × Int) =>
    bif decide (x1.2 < n) then
      let v1 := IntKind.wrap .u64 (IntKind.wrap .i64 (8 * x1.2))
      if 0 ≤ v1 then
        if (x1.1.length + ([IntKind.wrap .u8 (shrI .u32 x v1)] : List Int).length) * 1 ≤ 70368744177664 then
          some (.inl ((x1.1 ++ ([IntKind.wrap .u8 (shrI .u32 x v1)] : List Int)), IntKind.wrap .i64 (x1.2 + 1)))
        else none
      else none
    else
      some (.inr (.inl x1.1))) ([], (0 : Int))).bind fun o => match o with
  | .inl y2 =>
    some (strOf y2)
  | .inr r => some r
noncomputable def vmfleetref1_Low.sp : FSpec := ⟨[(.int .u32), (.int .i64)], [.str], fun x => vmfleetref1_Low.f x.1 x.2⟩
noncomputable def vmfleetref1_Low.env : Env := ⟨TYS, [], [], [(3, ⟨[0, 1, 4], [⟨5, false, (.own (.int .u8))⟩, ⟨6, false, (.int .i64)⟩], [⟨5, false, (.own (.int .u8))⟩], 0, none⟩)], [], []⟩
theorem vmfleetref1_Low.eq (x) : fnEval vmfleetref1_Low.env vmfleetref1_Low.sp.args vmfleetref1_Low.sp.res Go.Proofs.Try.f56 x = vmfleetref1_Low.sp.f x := by kernel_rfl
theorem vmfleetref1_Low.sound : Sound Try.prog 56 vmfleetref1_Low.sp := Lift.sound (E := vmfleetref1_Low.env) Try.func56 (by kernel_rfl) (env_ok TYS.ok mixed trivial trivial) (by kernel_rfl) vmfleetref1_Low.eq

/-! vmfleet/vmfleetref1.Page -/
noncomputable def vmfleetref1_Page.f (m : List Int) (frame : Int) : Option (ByteArray × Bool) :=
  bif decide (frame < 0) then
    some ((⟨#[]⟩ : ByteArray), false)
  else
    (vmfleetref1_Pages.f m).bind fun r1 =>
    bif decide (frame ≥ r1) then
      some ((⟨#[]⟩ : ByteArray), false)
    else
      (loop (Y := (List Int) ⊕ (ByteArray × Bool)) (fun (x1 : List Int × Int) =>
        bif decide (x1.2 < 32) then
          let v1 := IntKind.wrap .i64 ((IntKind.wrap .i64 (frame * 32)) + x1.2)
          if 0 ≤ v1 ∧ v1 < (m.length : Int) then
            (vmfleetref1_Low.f (nth (0 : Int) m v1) (4 : Int)).bind fun r2 =>
            if (x1.1.length + (bytesOf r2).length) * 1 ≤ 70368744177664 then
              some (.inl (x1.1 ++ (bytesOf r2), IntKind.wrap .i64 (x1.2 + 1)))
            else none
          else none
        else
          some (.inr (.inl x1.1))) ([], (0 : Int))).bind fun o => match o with
      | .inl y2 =>
        some (strOf y2, true)
      | .inr r => some r
noncomputable def vmfleetref1_Page.sp : FSpec := ⟨[(.sl (.int .u32)), (.int .i64)], [.str, .bool], fun x => vmfleetref1_Page.f x.1 x.2⟩
noncomputable def vmfleetref1_Page.env : Env := ⟨TYS, [(41, vmfleetref1_Pages.sp), (56, vmfleetref1_Low.sp)], [], [(5, ⟨[0, 1, 4, 5], [⟨6, false, (.own (.int .u8))⟩, ⟨7, false, (.int .i64)⟩], [⟨6, false, (.own (.int .u8))⟩], 0, none⟩)], [], []⟩
theorem vmfleetref1_Page.eq (x) : fnEval vmfleetref1_Page.env vmfleetref1_Page.sp.args vmfleetref1_Page.sp.res Go.Proofs.Try.f34 x = vmfleetref1_Page.sp.f x := by kernel_rfl
theorem vmfleetref1_Page.sound : Sound Try.prog 34 vmfleetref1_Page.sp := Lift.sound (E := vmfleetref1_Page.env) Try.func34 (by kernel_rfl) (env_ok TYS.ok mixed ⟨vmfleetref1_Pages.sound, vmfleetref1_Low.sound, trivial⟩ trivial) (by kernel_rfl) vmfleetref1_Page.eq

/-! vmfleet/vmfleetref7.Request -/
noncomputable def vmfleetref7_Request.f (d : Int × Int × Int × Int × Int × Int × Int × ByteArray) (at_ : Int) : Option ((Int × Int × Int × ByteArray) × Bool) :=
  bif !decide (d.2.2.2.1 = 1) then
    some (((0 : Int), (0 : Int), (0 : Int), (⟨#[]⟩ : ByteArray)), false)
  else
    bif decide (d.2.2.2.2.1 = 1) then
      some (((3 : Int), at_, d.2.2.2.2.2.1, (⟨#[]⟩ : ByteArray)), true)
    else
      bif decide (d.2.2.2.2.1 = 2) then
        some (((4 : Int), at_, d.2.2.2.2.2.1, d.2.2.2.2.2.2.2), true)
      else
        some (((0 : Int), (0 : Int), (0 : Int), (⟨#[]⟩ : ByteArray)), false)
noncomputable def vmfleetref7_Request.sp : FSpec := ⟨[(.st (.pair (.int .u32) (.pair (.int .u32) (.pair (.int .u32) (.pair (.int .i64) (.pair (.int .i64) (.pair (.int .u32) (.pair (.int .u32) .str)))))))), (.int .u64)], [(.st (.pair (.int .i64) (.pair (.int .u64) (.pair (.int .u32) .str)))), .bool], fun x => vmfleetref7_Request.f x.1 x.2⟩
noncomputable def vmfleetref7_Request.env : Env := ⟨TYS, [], [], [], [], []⟩
theorem vmfleetref7_Request.eq (x) : fnEval vmfleetref7_Request.env vmfleetref7_Request.sp.args vmfleetref7_Request.sp.res Go.Proofs.Try.f18 x = vmfleetref7_Request.sp.f x := by kernel_rfl
theorem vmfleetref7_Request.sound : Sound Try.prog 18 vmfleetref7_Request.sp := Lift.sound (E := vmfleetref7_Request.env) Try.func18 (by kernel_rfl) (env_ok TYS.ok mixed trivial trivial) (by kernel_rfl) vmfleetref7_Request.eq

/-! vmfleet/vmfleetref7.DiskOut -/
noncomputable def vmfleetref7_DiskOut.f (d : Int × Int × Int × Int × Int × Int × Int × ByteArray) (m : List Int) (port : Int) (v : Int) (at_ : Int) : Option ((Int × Int × Int × Int × Int × Int × Int × ByteArray) × List (Int × Int × Int × ByteArray)) :=
  bif decide (port = 4) then
    some ((d.1, v, d.2.2), [])
  else
    bif decide (port = 5) then
      some ((d.1, d.2.1, v, d.2.2.2), [])
    else
      bif !decide (port = 6) then
        some (d, [])
      else
        (bif decide (v = 0) then
          bif decide (d.2.2.2.1 = 2) then
            some (.inl true)
          else
            some (.inl (decide (d.2.2.2.1 = 3)))
        else
          some (.inl false) : Option ((Bool) ⊕ ((Int × Int × Int × Int × Int × Int × Int × ByteArray) × List (Int × Int × Int × ByteArray)))).bind fun o => match o with
        | .inl y1 =>
          bif y1 then
            some ((d.1, d.2.1, d.2.2.1, (0 : Int), d.2.2.2.2), [])
          else
            (bif decide (v = 1) then
              some (.inl (decide (d.2.2.2.1 = 0)))
            else
              bif decide (v = 2) then
                some (.inl (decide (d.2.2.2.1 = 0)))
              else
                some (.inl false) : Option ((Bool) ⊕ ((Int × Int × Int × Int × Int × Int × Int × ByteArray) × List (Int × Int × Int × ByteArray)))).bind fun o => match o with
            | .inl y2 =>
              bif y2 then
                bif decide (d.2.1 ≥ d.1) then
                  some ((d.1, d.2.1, d.2.2.1, (3 : Int), d.2.2.2.2), [])
                else
                  (vmfleetref7_page.f m d.2.2.1).bind fun r1 =>
                  bif !r1 then
                    some ((d.1, d.2.1, d.2.2.1, (3 : Int), d.2.2.2.2), [])
                  else
                    (bif decide (v = 2) then
                      (vmfleetref1_Page.f m (IntKind.wrap .i64 d.2.2.1)).bind fun r2 =>
                      some (.inl (d.1, d.2.1, d.2.2.1, (1 : Int), IntKind.wrap .i64 v, d.2.1, d.2.2.1, r2.1))
                    else
                      some (.inl (d.1, d.2.1, d.2.2.1, (1 : Int), IntKind.wrap .i64 v, d.2.1, d.2.2.1, (⟨#[]⟩ : ByteArray))) : Option ((Int × Int × Int × Int × Int × Int × Int × ByteArray) ⊕ ((Int × Int × Int × Int × Int × Int × Int × ByteArray) × List (Int × Int × Int × ByteArray)))).bind fun o => match o with
                    | .inl y3 =>
                      (vmfleetref7_Request.f y3 at_).bind fun r3 =>
                      some (y3, ([r3.1] : List (Int × Int × Int × ByteArray)))
                    | .inr r => some r
              else
                some (d, [])
            | .inr r => some r
        | .inr r => some r
noncomputable def vmfleetref7_DiskOut.sp : FSpec := ⟨[(.st (.pair (.int .u32) (.pair (.int .u32) (.pair (.int .u32) (.pair (.int .i64) (.pair (.int .i64) (.pair (.int .u32) (.pair (.int .u32) .str)))))))), (.sl (.int .u32)), (.int .i64), (.int .u32), (.int .u64)], [(.st (.pair (.int .u32) (.pair (.int .u32) (.pair (.int .u32) (.pair (.int .i64) (.pair (.int .i64) (.pair (.int .u32) (.pair (.int .u32) .str)))))))), (.own (.st (.pair (.int .i64) (.pair (.int .u64) (.pair (.int .u32) .str)))))], fun x => vmfleetref7_DiskOut.f x.1 x.2.1 x.2.2.1 x.2.2.2.1 x.2.2.2.2⟩
noncomputable def vmfleetref7_DiskOut.env : Env := ⟨TYS, [(18, vmfleetref7_Request.sp), (34, vmfleetref1_Page.sp), (51, vmfleetref7_page.sp)], [], [], [(7, ⟨[1, 3, 4, 5, 10, 11], [], [⟨27, false, .bool⟩], 0, none⟩), (9, ⟨[1, 3, 4, 5, 10, 11], [], [⟨41, false, .bool⟩], 0, none⟩), (15, ⟨[4, 10, 11], [⟨5, true, (.st (.pair (.int .u32) (.pair (.int .u32) (.pair (.int .u32) (.pair (.int .i64) (.pair (.int .i64) (.pair (.int .u32) (.pair (.int .u32) .str))))))))⟩], [⟨5, true, (.st (.pair (.int .u32) (.pair (.int .u32) (.pair (.int .u32) (.pair (.int .i64) (.pair (.int .i64) (.pair (.int .u32) (.pair (.int .u32) .str))))))))⟩], 0, none⟩)], []⟩
theorem vmfleetref7_DiskOut.eq (x) : fnEval vmfleetref7_DiskOut.env vmfleetref7_DiskOut.sp.args vmfleetref7_DiskOut.sp.res Go.Proofs.Try.f16 x = vmfleetref7_DiskOut.sp.f x := by kernel_rfl
theorem vmfleetref7_DiskOut.sound : Sound Try.prog 16 vmfleetref7_DiskOut.sp := Lift.sound (E := vmfleetref7_DiskOut.env) Try.func16 (by kernel_rfl) (env_ok TYS.ok mixed ⟨vmfleetref7_Request.sound, vmfleetref1_Page.sound, vmfleetref7_page.sound, trivial⟩ trivial) (by kernel_rfl) vmfleetref7_DiskOut.eq

/-! vmfleet/disk.In -/
noncomputable def disk_In.f (d : Int × Int × Int × Int × Int × Int × Int × ByteArray) (port : Int) : Option Int :=
  bif decide (port = 4) then
    some d.2.1
  else
    bif decide (port = 5) then
      some d.2.2.1
    else
      bif decide (port = 6) then
        some (IntKind.wrap .u32 d.2.2.2.1)
      else
        some (0 : Int)
noncomputable def disk_In.sp : FSpec := ⟨[(.st (.pair (.int .u32) (.pair (.int .u32) (.pair (.int .u32) (.pair (.int .i64) (.pair (.int .i64) (.pair (.int .u32) (.pair (.int .u32) .str)))))))), (.int .i64)], [(.int .u32)], fun x => disk_In.f x.1 x.2⟩
noncomputable def disk_In.env : Env := ⟨TYS, [], [], [], [], []⟩
theorem disk_In.eq (x) : fnEval disk_In.env disk_In.sp.args disk_In.sp.res Go.Proofs.Try.f19 x = disk_In.sp.f x := by kernel_rfl
theorem disk_In.sound : Sound Try.prog 19 disk_In.sp := Lift.sound (E := disk_In.env) Try.func19 (by kernel_rfl) (env_ok TYS.ok mixed trivial trivial) (by kernel_rfl) disk_In.eq

/-! vmfleet/vmfleetref7.DiskIn -/
noncomputable def vmfleetref7_DiskIn.f (d : Int × Int × Int × Int × Int × Int × Int × ByteArray) (port : Int) : Option Int :=
  bif decide (port = 4) then
    some d.2.1
  else
    bif decide (port = 5) then
      some d.2.2.1
    else
      bif decide (port = 6) then
        some (IntKind.wrap .u32 d.2.2.2.1)
      else
        some (0 : Int)
noncomputable def vmfleetref7_DiskIn.sp : FSpec := ⟨[(.st (.pair (.int .u32) (.pair (.int .u32) (.pair (.int .u32) (.pair (.int .i64) (.pair (.int .i64) (.pair (.int .u32) (.pair (.int .u32) .str)))))))), (.int .i64)], [(.int .u32)], fun x => vmfleetref7_DiskIn.f x.1 x.2⟩
noncomputable def vmfleetref7_DiskIn.env : Env := ⟨TYS, [], [], [], [], []⟩
theorem vmfleetref7_DiskIn.eq (x) : fnEval vmfleetref7_DiskIn.env vmfleetref7_DiskIn.sp.args vmfleetref7_DiskIn.sp.res Go.Proofs.Try.f20 x = vmfleetref7_DiskIn.sp.f x := by kernel_rfl
theorem vmfleetref7_DiskIn.sound : Sound Try.prog 20 vmfleetref7_DiskIn.sp := Lift.sound (E := vmfleetref7_DiskIn.env) Try.func20 (by kernel_rfl) (env_ok TYS.ok mixed trivial trivial) (by kernel_rfl) vmfleetref7_DiskIn.eq

/-! vmfleet/vmfleetref7.SameOutputs -/
noncomputable def vmfleetref7_SameOutputs.f (a : List (Int × Int × Int × ByteArray)) (b : List (Int × Int × Int × ByteArray)) : Option Bool :=
  bif !decide ((a.length : Int) = (b.length : Int)) then
    some false
  else
    (loop (Y := (Unit) ⊕ (Bool)) (fun (x1 : Int) =>
      bif decide (x1 < (a.length : Int)) then
        if 0 ≤ x1 ∧ x1 < (a.length : Int) then
          if 0 ≤ x1 ∧ x1 < (b.length : Int) then
            bif (!decide (((nth ((0 : Int), (0 : Int), (0 : Int), (⟨#[]⟩ : ByteArray)) a x1).1, ((nth ((0 : Int), (0 : Int), (0 : Int), (⟨#[]⟩ : ByteArray)) a x1).2).1, (((nth ((0 : Int), (0 : Int), (0 : Int), (⟨#[]⟩ : ByteArray)) a x1).2).2)) = ((nth ((0 : Int), (0 : Int), (0 : Int), (⟨#[]⟩ : ByteArray)) b x1).1, ((nth ((0 : Int), (0 : Int), (0 : Int), (⟨#[]⟩ : ByteArray)) b x1).2).1, (((nth ((0 : Int), (0 : Int), (0 : Int), (⟨#[]⟩ : ByteArray)) b x1).2).2)))) then
              some (.inr (.inr false))
            else
              some (.inl (IntKind.wrap .i64 (x1 + 1)))
          else none
        else none
      else
        some (.inr (.inl ()))) (0 : Int)).bind fun o => match o with
    | .inl y2 =>
      some true
    | .inr r => some r
noncomputable def vmfleetref7_SameOutputs.sp : FSpec := ⟨[(.sl (.st (.pair (.int .i64) (.pair (.int .u64) (.pair (.int .u32) .str))))), (.sl (.st (.pair (.int .i64) (.pair (.int .u64) (.pair (.int .u32) .str)))))], [.bool], fun x => vmfleetref7_SameOutputs.f x.1 x.2⟩
noncomputable def vmfleetref7_SameOutputs.env : Env := ⟨TYS, [], [], [(4, ⟨[0, 1], [⟨5, false, (.int .i64)⟩], [], 0, none⟩)], [], []⟩
theorem vmfleetref7_SameOutputs.eq (x) : fnEval vmfleetref7_SameOutputs.env vmfleetref7_SameOutputs.sp.args vmfleetref7_SameOutputs.sp.res Go.Proofs.Try.f21 x = vmfleetref7_SameOutputs.sp.f x := by kernel_rfl
theorem vmfleetref7_SameOutputs.sound : Sound Try.prog 21 vmfleetref7_SameOutputs.sp := Lift.sound (E := vmfleetref7_SameOutputs.env) Try.func21 (by kernel_rfl) (env_ok TYS.ok mixed trivial trivial) (by kernel_rfl) vmfleetref7_SameOutputs.eq

/-! vmfleet/vmfleetlaw9.awake -/
noncomputable def vmfleetlaw9_awake.f  : Option Bool :=
  (vmfleetref1_New.f (1 : Int)).bind fun r1 =>
  (disk_Out.f ((64 : Int), (64 : Int), (0 : Int), (0 : Int), (0 : Int), (0 : Int), (0 : Int), (⟨#[]⟩ : ByteArray)) r1 (6 : Int) (2 : Int) (0 : Int)).bind fun r2 =>
  (vmfleetref1_New.f (1 : Int)).bind fun r3 =>
  (disk_Out.f ((64 : Int), (63 : Int), (0 : Int), (0 : Int), (0 : Int), (0 : Int), (0 : Int), (⟨#[]⟩ : ByteArray)) r3 (6 : Int) (1 : Int) (7 : Int)).bind fun r4 =>
  bif decide (r2.1.2.2.2.1 = 3) then
    bif decide ((r2.2.length : Int) = 0) then
      bif decide (r4.1.2.2.2.1 = 1) then
        bif decide ((r4.2.length : Int) = 1) then
          if 0 ≤ (0 : Int) ∧ (0 : Int) < (r4.2.length : Int) then
            some (decide (((nth ((0 : Int), (0 : Int), (0 : Int), (⟨#[]⟩ : ByteArray)) r4.2 (0 : Int)).1, ((nth ((0 : Int), (0 : Int), (0 : Int), (⟨#[]⟩ : ByteArray)) r4.2 (0 : Int)).2).1, (((nth ((0 : Int), (0 : Int), (0 : Int), (⟨#[]⟩ : ByteArray)) r4.2 (0 : Int)).2).2)) = ((3 : Int), (7 : Int), (63 : Int), (⟨#[]⟩ : ByteArray))))
          else none
        else
          some false
      else
        some false
    else
      some false
  else
    some false
noncomputable def vmfleetlaw9_awake.sp : FSpec := ⟨[], [.bool], fun _ => vmfleetlaw9_awake.f⟩
noncomputable def vmfleetlaw9_awake.env : Env := ⟨TYS, [(15, disk_Out.sp), (49, vmfleetref1_New.sp)], [], [], [], []⟩
theorem vmfleetlaw9_awake.eq (x) : fnEval vmfleetlaw9_awake.env vmfleetlaw9_awake.sp.args vmfleetlaw9_awake.sp.res Go.Proofs.Try.f22 x = vmfleetlaw9_awake.sp.f x := by kernel_rfl
theorem vmfleetlaw9_awake.sound : Sound Try.prog 22 vmfleetlaw9_awake.sp := Lift.sound (E := vmfleetlaw9_awake.env) Try.func22 (by kernel_rfl) (env_ok TYS.ok mixed ⟨disk_Out.sound, vmfleetref1_New.sound, trivial⟩ trivial) (by kernel_rfl) vmfleetlaw9_awake.eq

/-! vmfleet/vmfleetlaw9.DiskPorts -/
noncomputable def vmfleetlaw9_DiskPorts.f (d : Int × Int × Int × Int × Int × Int × Int × ByteArray) (raw : Bool) (n : Int) (pages : Int) (port : Int) (v : Int) (small : Bool) (at_ : Int) : Option Bool :=
  (vmfleetlaw9_shaped.f d raw n).bind fun r1 =>
  (vmfleetlaw9_words.f n pages).bind fun r2 =>
  (bif small then
    (vmfleetmake_Round.f port (5 : Int)).bind fun r3 =>
    some (.inl (IntKind.wrap .i64 (3 + r3), Int.tmod v (5 : Int)))
  else
    some (.inl (port, v)) : Option ((Int × Int) ⊕ (Bool))).bind fun o => match o with
  | .inl y1 =>
    (disk_Out.f r1 r2 y1.1 y1.2 at_).bind fun r4 =>
    (vmfleetref7_DiskOut.f r1 r2 y1.1 y1.2 at_).bind fun r5 =>
    (disk_Request.f r1 at_).bind fun r6 =>
    (vmfleetref7_Request.f r1 at_).bind fun r7 =>
    (disk_In.f r1 y1.1).bind fun r8 =>
    (vmfleetref7_DiskIn.f r1 y1.1).bind fun r9 =>
    bif decide (r8 = r9) then
      bif (eqD (Ty.decEq (.st (.pair (.int .u32) (.pair (.int .u32) (.pair (.int .u32) (.pair (.int .i64) (.pair (.int .i64) (.pair (.int .u32) (.pair (.int .u32) .str))))))))) r4.1 r5.1) then
        (vmfleetref7_SameOutputs.f r4.2 r5.2).bind fun r10 =>
        bif r10 then
          bif decide (r6.1 = r7.1) then
            bif r6.2 == r7.2 then
              (vmfleetlaw9_awake.f).bind fun r11 =>
              some r11
            else
              some false
          else
            some false
        else
          some false
      else
        some false
    else
      some false
  | .inr r => some r
noncomputable def vmfleetlaw9_DiskPorts.sp : FSpec := ⟨[(.st (.pair (.int .u32) (.pair (.int .u32) (.pair (.int .u32) (.pair (.int .i64) (.pair (.int .i64) (.pair (.int .u32) (.pair (.int .u32) .str)))))))), .bool, (.int .i64), (.int .i64), (.int .i64), (.int .u32), .bool, (.int .u64)], [.bool], fun x => vmfleetlaw9_DiskPorts.f x.1 x.2.1 x.2.2.1 x.2.2.2.1 x.2.2.2.2.1 x.2.2.2.2.2.1 x.2.2.2.2.2.2.1 x.2.2.2.2.2.2.2⟩
noncomputable def vmfleetlaw9_DiskPorts.env : Env := ⟨TYS, [(12, vmfleetlaw9_shaped.sp), (13, vmfleetlaw9_words.sp), (14, vmfleetmake_Round.sp), (15, disk_Out.sp), (16, vmfleetref7_DiskOut.sp), (17, disk_Request.sp), (18, vmfleetref7_Request.sp), (19, disk_In.sp), (20, vmfleetref7_DiskIn.sp), (21, vmfleetref7_SameOutputs.sp), (22, vmfleetlaw9_awake.sp)], [], [], [(5, ⟨[7, 8, 16, 17], [], [⟨4, false, (.int .i64)⟩, ⟨5, false, (.int .u32)⟩], 0, none⟩)], []⟩
theorem vmfleetlaw9_DiskPorts.eq (x) : fnEval vmfleetlaw9_DiskPorts.env vmfleetlaw9_DiskPorts.sp.args vmfleetlaw9_DiskPorts.sp.res Go.Proofs.Try.f3 x = vmfleetlaw9_DiskPorts.sp.f x := by kernel_rfl
theorem vmfleetlaw9_DiskPorts.sound : Sound Try.prog 3 vmfleetlaw9_DiskPorts.sp := Lift.sound (E := vmfleetlaw9_DiskPorts.env) Try.func3 (by kernel_rfl) (env_ok TYS.ok mixed ⟨vmfleetlaw9_shaped.sound, vmfleetlaw9_words.sound, vmfleetmake_Round.sound, disk_Out.sound, vmfleetref7_DiskOut.sound, disk_Request.sound, vmfleetref7_Request.sound, disk_In.sound, vmfleetref7_DiskIn.sound, vmfleetref7_SameOutputs.sound, vmfleetlaw9_awake.sound, trivial⟩ trivial) (by kernel_rfl) vmfleetlaw9_DiskPorts.eq

/-! vmfleet/vmfleetlaw10.shaped -/
noncomputable def vmfleetlaw10_shaped.f (n : Int × Int × Bool × Int × Bool × Int) (raw : Bool) (k : Int) : Option (Int × Int × Bool × Int × Bool × Int) :=
  bif raw then
    some n
  else
    (vmfleetmake_Mix.f k (12 : Int)).bind fun r1 =>
    let v1 := IntKind.wrap .u32 (andI .i64 r1 (7 : Int))
    let v2 := andI .i64 (shrI .i64 r1 (3 : Int)) (255 : Int)
    let v3 := andI .i64 (shrI .i64 r1 (11 : Int)) (3 : Int)
    bif decide (v3 = 1) then
      some (v1, IntKind.wrap .u32 v2, true, IntKind.wrap .u32 (andI .i64 (shrI .i64 r1 (13 : Int)) (3 : Int)), false, (0 : Int))
    else
      bif decide (v3 = 2) then
        some (v1, IntKind.wrap .u32 v2, false, (0 : Int), true, (IntKind.wrap .u32 (1 + (IntKind.wrap .u32 (andI .i64 (shrI .i64 r1 (13 : Int)) (127 : Int))))))
      else
        some (v1, IntKind.wrap .u32 v2, false, (0 : Int), false, (0 : Int))
noncomputable def vmfleetlaw10_shaped.sp : FSpec := ⟨[(.st (.pair (.int .u32) (.pair (.int .u32) (.pair .bool (.pair (.int .u32) (.pair .bool (.int .u32))))))), .bool, (.int .i64)], [(.st (.pair (.int .u32) (.pair (.int .u32) (.pair .bool (.pair (.int .u32) (.pair .bool (.int .u32)))))))], fun x => vmfleetlaw10_shaped.f x.1 x.2.1 x.2.2⟩
noncomputable def vmfleetlaw10_shaped.env : Env := ⟨TYS, [(35, vmfleetmake_Mix.sp)], [], [], [], []⟩
theorem vmfleetlaw10_shaped.eq (x) : fnEval vmfleetlaw10_shaped.env vmfleetlaw10_shaped.sp.args vmfleetlaw10_shaped.sp.res Go.Proofs.Try.f23 x = vmfleetlaw10_shaped.sp.f x := by kernel_rfl
theorem vmfleetlaw10_shaped.sound : Sound Try.prog 23 vmfleetlaw10_shaped.sp := Lift.sound (E := vmfleetlaw10_shaped.env) Try.func23 (by kernel_rfl) (env_ok TYS.ok mixed ⟨vmfleetmake_Mix.sound, trivial⟩ trivial) (by kernel_rfl) vmfleetlaw10_shaped.eq

/-! vmfleet/vmfleetlaw10.words -/
noncomputable def vmfleetlaw10_words.f (n : Int) (pages : Int) : Option (List Int) :=
  (vmfleetmake_Round.f pages (6 : Int)).bind fun r1 =>
  (vmfleetref1_New.f (IntKind.wrap .i64 (1 + r1))).bind fun r2 =>
  (loop (Y := (List Int) ⊕ (List Int)) (fun (x1 : List Int × Int) =>
    bif decide (x1.2 < (x1.1.length : Int)) then
      (vmfleetmake_Mix.f n x1.2).bind fun r3 =>
      if 0 ≤ x1.2 ∧ x1.2 < (x1.1.length : Int) then
        some (.inl (put x1.1 x1.2 (IntKind.wrap .u32 (andI .i64 r3 (4294967295 : Int))), IntKind.wrap .i64 (x1.2 + 1)))
      else none
    else
      some (.inr (.inl x1.1))) (r2, (0 : Int))).bind fun o => match o with
  | .inl y2 =>
    some y2
  | .inr r => some r
noncomputable def vmfleetlaw10_words.sp : FSpec := ⟨[(.int .i64), (.int .i64)], [(.own (.int .u32))], fun x => vmfleetlaw10_words.f x.1 x.2⟩
noncomputable def vmfleetlaw10_words.env : Env := ⟨TYS, [(14, vmfleetmake_Round.sp), (35, vmfleetmake_Mix.sp), (49, vmfleetref1_New.sp)], [], [(3, ⟨[0, 4], [⟨5, false, (.own (.int .u32))⟩, ⟨6, false, (.int .i64)⟩], [⟨5, false, (.own (.int .u32))⟩], 0, none⟩)], [], []⟩
theorem vmfleetlaw10_words.eq (x) : fnEval vmfleetlaw10_words.env vmfleetlaw10_words.sp.args vmfleetlaw10_words.sp.res Go.Proofs.Try.f24 x = vmfleetlaw10_words.sp.f x := by kernel_rfl
theorem vmfleetlaw10_words.sound : Sound Try.prog 24 vmfleetlaw10_words.sp := Lift.sound (E := vmfleetlaw10_words.env) Try.func24 (by kernel_rfl) (env_ok TYS.ok mixed ⟨vmfleetmake_Round.sound, vmfleetmake_Mix.sound, vmfleetref1_New.sound, trivial⟩ trivial) (by kernel_rfl) vmfleetlaw10_words.eq

/-! vmfleet/nic.command -/
noncomputable def nic_command.f (n : Int × Int × Bool × Int × Bool × Int) (m : List Int) (v : Int) (at_ : Int) : Option ((Int × Int × Bool × Int × Bool × Int) × List (Int × Int × Int × ByteArray)) :=
  (memory_Page.f m (IntKind.wrap .i64 n.1)).bind fun r1 =>
  bif decide (v = 0) then
    some ((n.1, n.2.1, n.2.2.1, n.2.2.2.1, false, (0 : Int)), [])
  else
    bif decide (v = 1) then
      (bif r1.2 then
        bif decide (n.2.1 ≥ 1) then
          some (.inl (decide (n.2.1 ≤ 128)))
        else
          some (.inl false)
      else
        some (.inl false) : Option ((Bool) ⊕ ((Int × Int × Bool × Int × Bool × Int) × List (Int × Int × Int × ByteArray)))).bind fun o => match o with
      | .inl y1 =>
        bif y1 then
          if 0 ≤ n.2.1 ∧ n.2.1 ≤ (r1.1.size : Int) then
            some (n, ([((2 : Int), at_, (0 : Int), cut r1.1 (0 : Int) n.2.1)] : List (Int × Int × Int × ByteArray)))
          else none
        else
          some (n, [])
      | .inr r => some r
    else
      bif decide (v = 2) then
        (bif r1.2 then
          bif !n.2.2.1 then
            some (.inl (!n.2.2.2.2.1))
          else
            some (.inl false)
        else
          some (.inl false) : Option ((Bool) ⊕ ((Int × Int × Bool × Int × Bool × Int) × List (Int × Int × Int × ByteArray)))).bind fun o => match o with
        | .inl y2 =>
          bif y2 then
            some ((n.1, n.2.1, true, n.1, n.2.2.2.2), [])
          else
            some (n, [])
        | .inr r => some r
      else
        some (n, [])
noncomputable def nic_command.sp : FSpec := ⟨[(.st (.pair (.int .u32) (.pair (.int .u32) (.pair .bool (.pair (.int .u32) (.pair .bool (.int .u32))))))), (.sl (.int .u32)), (.int .u32), (.int .u64)], [(.st (.pair (.int .u32) (.pair (.int .u32) (.pair .bool (.pair (.int .u32) (.pair .bool (.int .u32))))))), (.own (.st (.pair (.int .i64) (.pair (.int .u64) (.pair (.int .u32) .str)))))], fun x => nic_command.f x.1 x.2.1 x.2.2.1 x.2.2.2⟩
noncomputable def nic_command.env : Env := ⟨TYS, [(53, memory_Page.sp)], [], [], [(7, ⟨[3, 4, 8, 9, 10], [], [⟨37, false, .bool⟩], 0, none⟩), (10, ⟨[4, 8, 9], [], [⟨58, false, .bool⟩], 0, none⟩)], []⟩
theorem nic_command.eq (x) : fnEval nic_command.env nic_command.sp.args nic_command.sp.res Go.Proofs.Try.f52 x = nic_command.sp.f x := by kernel_rfl
theorem nic_command.sound : Sound Try.prog 52 nic_command.sp := Lift.sound (E := nic_command.env) Try.func52 (by kernel_rfl) (env_ok TYS.ok mixed ⟨memory_Page.sound, trivial⟩ trivial) (by kernel_rfl) nic_command.eq

/-! vmfleet/nic.Out -/
noncomputable def nic_Out.f (n : Int × Int × Bool × Int × Bool × Int) (m : List Int) (port : Int) (v : Int) (at_ : Int) : Option ((Int × Int × Bool × Int × Bool × Int) × List (Int × Int × Int × ByteArray)) :=
  bif decide (port = 7) then
    some ((v, n.2), [])
  else
    bif decide (port = 8) then
      some ((n.1, v, n.2.2), [])
    else
      bif decide (port = 9) then
        (nic_command.f n m v at_).bind fun r1 =>
        some r1
      else
        some (n, [])
noncomputable def nic_Out.sp : FSpec := ⟨[(.st (.pair (.int .u32) (.pair (.int .u32) (.pair .bool (.pair (.int .u32) (.pair .bool (.int .u32))))))), (.sl (.int .u32)), (.int .i64), (.int .u32), (.int .u64)], [(.st (.pair (.int .u32) (.pair (.int .u32) (.pair .bool (.pair (.int .u32) (.pair .bool (.int .u32))))))), (.own (.st (.pair (.int .i64) (.pair (.int .u64) (.pair (.int .u32) .str)))))], fun x => nic_Out.f x.1 x.2.1 x.2.2.1 x.2.2.2.1 x.2.2.2.2⟩
noncomputable def nic_Out.env : Env := ⟨TYS, [(52, nic_command.sp)], [], [], [], []⟩
theorem nic_Out.eq (x) : fnEval nic_Out.env nic_Out.sp.args nic_Out.sp.res Go.Proofs.Try.f25 x = nic_Out.sp.f x := by kernel_rfl
theorem nic_Out.sound : Sound Try.prog 25 nic_Out.sp := Lift.sound (E := nic_Out.env) Try.func25 (by kernel_rfl) (env_ok TYS.ok mixed ⟨nic_command.sound, trivial⟩ trivial) (by kernel_rfl) nic_Out.eq

/-! vmfleet/vmfleetref7.NicOut -/
noncomputable def vmfleetref7_NicOut.f (n : Int × Int × Bool × Int × Bool × Int) (m : List Int) (port : Int) (v : Int) (at_ : Int) : Option ((Int × Int × Bool × Int × Bool × Int) × List (Int × Int × Int × ByteArray)) :=
  bif decide (port = 7) then
    some ((v, n.2), [])
  else
    bif decide (port = 8) then
      some ((n.1, v, n.2.2), [])
    else
      bif !decide (port = 9) then
        some (n, [])
      else
        bif decide (v = 0) then
          some ((n.1, n.2.1, n.2.2.1, n.2.2.2.1, false, (0 : Int)), [])
        else
          (bif decide (v = 1) then
            bif decide (n.2.1 ≥ 1) then
              bif decide (n.2.1 ≤ 128) then
                (vmfleetref7_page.f m n.1).bind fun r1 =>
                some (.inl r1)
              else
                some (.inl false)
            else
              some (.inl false)
          else
            some (.inl false) : Option ((Bool) ⊕ ((Int × Int × Bool × Int × Bool × Int) × List (Int × Int × Int × ByteArray)))).bind fun o => match o with
          | .inl y1 =>
            bif y1 then
              (vmfleetref1_Page.f m (IntKind.wrap .i64 n.1)).bind fun r2 =>
              if 0 ≤ n.2.1 ∧ n.2.1 ≤ (r2.1.size : Int) then
                some (n, ([((2 : Int), at_, (0 : Int), cut r2.1 (0 : Int) n.2.1)] : List (Int × Int × Int × ByteArray)))
              else none
            else
              (bif decide (v = 2) then
                (vmfleetref7_page.f m n.1).bind fun r3 =>
                bif r3 then
                  bif !n.2.2.1 then
                    some (.inl (!n.2.2.2.2.1))
                  else
                    some (.inl false)
                else
                  some (.inl false)
              else
                some (.inl false) : Option ((Bool) ⊕ ((Int × Int × Bool × Int × Bool × Int) × List (Int × Int × Int × ByteArray)))).bind fun o => match o with
              | .inl y2 =>
                bif y2 then
                  some ((n.1, n.2.1, true, n.1, n.2.2.2.2), [])
                else
                  some (n, [])
              | .inr r => some r
          | .inr r => some r
noncomputable def vmfleetref7_NicOut.sp : FSpec := ⟨[(.st (.pair (.int .u32) (.pair (.int .u32) (.pair .bool (.pair (.int .u32) (.pair .bool (.int .u32))))))), (.sl (.int .u32)), (.int .i64), (.int .u32), (.int .u64)], [(.st (.pair (.int .u32) (.pair (.int .u32) (.pair .bool (.pair (.int .u32) (.pair .bool (.int .u32))))))), (.own (.st (.pair (.int .i64) (.pair (.int .u64) (.pair (.int .u32) .str)))))], fun x => vmfleetref7_NicOut.f x.1 x.2.1 x.2.2.1 x.2.2.2.1 x.2.2.2.2⟩
noncomputable def vmfleetref7_NicOut.env : Env := ⟨TYS, [(34, vmfleetref1_Page.sp), (51, vmfleetref7_page.sp)], [], [], [(9, ⟨[1, 3, 4, 5, 10, 11], [], [⟨32, false, .bool⟩], 0, none⟩), (12, ⟨[5, 10, 11], [], [⟨67, false, .bool⟩], 0, none⟩)], []⟩
theorem vmfleetref7_NicOut.eq (x) : fnEval vmfleetref7_NicOut.env vmfleetref7_NicOut.sp.args vmfleetref7_NicOut.sp.res Go.Proofs.Try.f26 x = vmfleetref7_NicOut.sp.f x := by kernel_rfl
theorem vmfleetref7_NicOut.sound : Sound Try.prog 26 vmfleetref7_NicOut.sp := Lift.sound (E := vmfleetref7_NicOut.env) Try.func26 (by kernel_rfl) (env_ok TYS.ok mixed ⟨vmfleetref1_Page.sound, vmfleetref7_page.sound, trivial⟩ trivial) (by kernel_rfl) vmfleetref7_NicOut.eq

/-! vmfleet/nic.In -/
noncomputable def nic_In.f (n : Int × Int × Bool × Int × Bool × Int) (port : Int) : Option Int :=
  bif decide (port = 7) then
    some n.1
  else
    bif decide (port = 8) then
      some n.2.2.2.2.2
    else
      bif decide (port = 9) then
        (bif n.2.2.1 then
          some (.inl (1 : Int))
        else
          some (.inl (0 : Int)) : Option ((Int) ⊕ (Int))).bind fun o => match o with
        | .inl y1 =>
          bif n.2.2.2.2.1 then
            some (IntKind.wrap .u32 (y1 + 2))
          else
            some y1
        | .inr r => some r
      else
        some (0 : Int)
noncomputable def nic_In.sp : FSpec := ⟨[(.st (.pair (.int .u32) (.pair (.int .u32) (.pair .bool (.pair (.int .u32) (.pair .bool (.int .u32))))))), (.int .i64)], [(.int .u32)], fun x => nic_In.f x.1 x.2⟩
noncomputable def nic_In.env : Env := ⟨TYS, [], [], [], [(10, ⟨[2, 4], [], [⟨5, false, (.int .u32)⟩], 0, none⟩)], []⟩
theorem nic_In.eq (x) : fnEval nic_In.env nic_In.sp.args nic_In.sp.res Go.Proofs.Try.f27 x = nic_In.sp.f x := by kernel_rfl
theorem nic_In.sound : Sound Try.prog 27 nic_In.sp := Lift.sound (E := nic_In.env) Try.func27 (by kernel_rfl) (env_ok TYS.ok mixed trivial trivial) (by kernel_rfl) nic_In.eq

/-! vmfleet/vmfleetref7.NicIn -/
noncomputable def vmfleetref7_NicIn.f (n : Int × Int × Bool × Int × Bool × Int) (port : Int) : Option Int :=
  bif decide (port = 7) then
    some n.1
  else
    bif decide (port = 8) then
      some n.2.2.2.2.2
    else
      bif decide (port = 9) then
        (bif n.2.2.1 then
          some (.inl (1 : Int))
        else
          some (.inl (0 : Int)) : Option ((Int) ⊕ (Int))).bind fun o => match o with
        | .inl y1 =>
          bif n.2.2.2.2.1 then
            some (IntKind.wrap .u32 (y1 + 2))
          else
            some y1
        | .inr r => some r
      else
        some (0 : Int)
noncomputable def vmfleetref7_NicIn.sp : FSpec := ⟨[(.st (.pair (.int .u32) (.pair (.int .u32) (.pair .bool (.pair (.int .u32) (.pair .bool (.int .u32))))))), (.int .i64)], [(.int .u32)], fun x => vmfleetref7_NicIn.f x.1 x.2⟩
noncomputable def vmfleetref7_NicIn.env : Env := ⟨TYS, [], [], [], [(10, ⟨[2, 4], [], [⟨5, false, (.int .u32)⟩], 0, none⟩)], []⟩
theorem vmfleetref7_NicIn.eq (x) : fnEval vmfleetref7_NicIn.env vmfleetref7_NicIn.sp.args vmfleetref7_NicIn.sp.res Go.Proofs.Try.f28 x = vmfleetref7_NicIn.sp.f x := by kernel_rfl
theorem vmfleetref7_NicIn.sound : Sound Try.prog 28 vmfleetref7_NicIn.sp := Lift.sound (E := vmfleetref7_NicIn.env) Try.func28 (by kernel_rfl) (env_ok TYS.ok mixed trivial trivial) (by kernel_rfl) vmfleetref7_NicIn.eq

/-! slices.Clone[[]uint32,uint32] -/
noncomputable def slices_Clone_uint32_uint32.f (s : List Int) : Option (List Int) :=
  bif s.isEmpty then
    both
      (some [])
      (if (([] : List Int).length + s.length) * 4 ≤ 70368744177664 then
        some (([] : List Int) ++ s)
      else none)
  else
    if (([] : List Int).length + s.length) * 4 ≤ 70368744177664 then
      some (([] : List Int) ++ s)
    else none
noncomputable def slices_Clone_uint32_uint32.sp : FSpec := ⟨[(.sl (.int .u32))], [(.own (.int .u32))], fun x => slices_Clone_uint32_uint32.f x⟩
noncomputable def slices_Clone_uint32_uint32.env : Env := ⟨TYS, [], [], [], [], []⟩
theorem slices_Clone_uint32_uint32.eq (x) : fnEval slices_Clone_uint32_uint32.env slices_Clone_uint32_uint32.sp.args slices_Clone_uint32_uint32.sp.res Go.Proofs.Try.f54 x = slices_Clone_uint32_uint32.sp.f x := by kernel_rfl
theorem slices_Clone_uint32_uint32.sound : Sound Try.prog 54 slices_Clone_uint32_uint32.sp := Lift.sound (E := slices_Clone_uint32_uint32.env) Try.func54 (by kernel_rfl) (env_ok TYS.ok mixed trivial trivial) (by kernel_rfl) slices_Clone_uint32_uint32.eq

/-! vmfleet/memory.clone -/
noncomputable def memory_clone.f (m : List Int) : Option (List Int) :=
  bif decide ((m.length : Int) = 0) then
    some []
  else
    if 0 ≤ (m.length : Int) ∧ (m.length : Int) ≤ (m.length : Int) ∧ (m.length : Int) * ((4 : Nat) : Int) ≤ 70368744177664 then
      some (m.take (List.replicate ((m.length : Int).toNat) (0 : Int)).length ++ (List.replicate ((m.length : Int).toNat) (0 : Int)).drop m.length)
    else none
noncomputable def memory_clone.sp : FSpec := ⟨[(.sl (.int .u32))], [(.own (.int .u32))], fun x => memory_clone.f x⟩
noncomputable def memory_clone.env : Env := ⟨TYS, [], [], [], [], []⟩
theorem memory_clone.eq (x) : fnEval memory_clone.env memory_clone.sp.args memory_clone.sp.res Go.Proofs.Try.f63 x = memory_clone.sp.f x := by kernel_rfl
theorem memory_clone.sound : Sound Try.prog 63 memory_clone.sp := Lift.sound (E := memory_clone.env) Try.func63 (by kernel_rfl) (env_ok TYS.ok mixed trivial trivial) (by kernel_rfl) memory_clone.eq

/-! vmfleet/memory.SetPage -/
noncomputable def memory_SetPage.f (m : List Int) (frame : Int) (s : ByteArray) : Option (List Int × Bool) :=
  (memory_clone.f m).bind fun r1 =>
  (memory_has.f m frame).bind fun r2 =>
  bif !r2 then
    some (r1, false)
  else
    bif !decide ((s.size : Int) = 128) then
      some (r1, false)
    else
      (loop (Y := (List Int) ⊕ (List Int × Bool)) (fun (x1 : List Int × Int) =>
        bif decide (x1.2 < 32) then
          let v1 := IntKind.wrap .i64 ((IntKind.wrap .i64 (frame * 32)) + x1.2)
          if 0 ≤ (IntKind.wrap .i64 (4 * x1.2)) ∧ (IntKind.wrap .i64 (4 * x1.2)) < (s.size : Int) then
            let v3 := IntKind.wrap .i64 ((IntKind.wrap .i64 (4 * x1.2)) + 1)
            if 0 ≤ v3 ∧ v3 < (s.size : Int) then
              let v5 := IntKind.wrap .i64 ((IntKind.wrap .i64 (4 * x1.2)) + 2)
              if 0 ≤ v5 ∧ v5 < (s.size : Int) then
                let v7 := IntKind.wrap .i64 ((IntKind.wrap .i64 (4 * x1.2)) + 3)
                if 0 ≤ v7 ∧ v7 < (s.size : Int) then
                  if 0 ≤ v1 ∧ v1 < (x1.1.length : Int) then
                    some (.inl (put x1.1 v1 (orI .u32 (orI .u32 (orI .u32 (IntKind.wrap .u32 (bt s (IntKind.wrap .i64 (4 * x1.2)))) (shlI .u32 (IntKind.wrap .u32 (bt s v3)) (8 : Int))) (shlI .u32 (IntKind.wrap .u32 (bt s v5)) (16 : Int))) (shlI .u32 (IntKind.wrap .u32 (bt s v7)) (24 : Int))), IntKind.wrap .i64 (x1.2 + 1)))
                  else none
                else none
              else none
            else none
          else none
        else
          some (.inr (.inl x1.1))) (r1, (0 : Int))).bind fun o => match o with
      | .inl y2 =>
        some (y2, true)
      | .inr r => some r
noncomputable def memory_SetPage.sp : FSpec := ⟨[(.sl (.int .u32)), (.int .i64), .str], [(.own (.int .u32)), .bool], fun x => memory_SetPage.f x.1 x.2.1 x.2.2⟩
noncomputable def memory_SetPage.env : Env := ⟨TYS, [(61, memory_has.sp), (63, memory_clone.sp)], [], [(5, ⟨[1, 2, 6, 7], [⟨8, false, (.own (.int .u32))⟩, ⟨22, false, (.int .i64)⟩], [⟨8, false, (.own (.int .u32))⟩], 0, none⟩)], [], []⟩
theorem memory_SetPage.eq (x) : fnEval memory_SetPage.env memory_SetPage.sp.args memory_SetPage.sp.res Go.Proofs.Try.f55 x = memory_SetPage.sp.f x := by kernel_rfl
theorem memory_SetPage.sound : Sound Try.prog 55 memory_SetPage.sp := Lift.sound (E := memory_SetPage.env) Try.func55 (by kernel_rfl) (env_ok TYS.ok mixed ⟨memory_has.sound, memory_clone.sound, trivial⟩ trivial) (by kernel_rfl) memory_SetPage.eq

/-! vmfleet/nic.Receive -/
noncomputable def nic_Receive.f (n : Int × Int × Bool × Int × Bool × Int) (m : List Int) (frame : ByteArray) : Option ((Int × Int × Bool × Int × Bool × Int) × List Int × Bool) :=
  (memory_Page.f m (IntKind.wrap .i64 n.2.2.2.1)).bind fun r1 =>
  (bif !n.2.2.1 then
    some (.inl true)
  else
    bif decide (frame = (⟨#[]⟩ : ByteArray)) then
      some (.inl true)
    else
      bif decide ((frame.size : Int) > 128) then
        some (.inl true)
      else
        some (.inl (!r1.2)) : Option ((Bool) ⊕ ((Int × Int × Bool × Int × Bool × Int) × List Int × Bool))).bind fun o => match o with
  | .inl y1 =>
    bif y1 then
      (slices_Clone_uint32_uint32.f m).bind fun r2 =>
      some (n, r2, false)
    else
      if 0 ≤ (frame.size : Int) ∧ (frame.size : Int) ≤ (r1.1.size : Int) then
        if frame.size + (cut r1.1 (frame.size : Int) (r1.1.size : Int)).size ≤ 9223372036854775807 then
          (memory_SetPage.f m (IntKind.wrap .i64 n.2.2.2.1) (frame ++ (cut r1.1 (frame.size : Int) (r1.1.size : Int)))).bind fun r3 =>
          some ((n.1, n.2.1, false, (0 : Int), true, IntKind.wrap .u32 (frame.size : Int)), r3.1, true)
        else none
      else none
  | .inr r => some r
noncomputable def nic_Receive.sp : FSpec := ⟨[(.st (.pair (.int .u32) (.pair (.int .u32) (.pair .bool (.pair (.int .u32) (.pair .bool (.int .u32))))))), (.sl (.int .u32)), .str], [(.st (.pair (.int .u32) (.pair (.int .u32) (.pair .bool (.pair (.int .u32) (.pair .bool (.int .u32))))))), (.own (.int .u32)), .bool], fun x => nic_Receive.f x.1 x.2.1 x.2.2⟩
noncomputable def nic_Receive.env : Env := ⟨TYS, [(53, memory_Page.sp), (54, slices_Clone_uint32_uint32.sp), (55, memory_SetPage.sp)], [], [], [(3, ⟨[1, 2, 3, 6, 7, 8, 9], [], [⟨36, false, .bool⟩], 0, none⟩)], []⟩
theorem nic_Receive.eq (x) : fnEval nic_Receive.env nic_Receive.sp.args nic_Receive.sp.res Go.Proofs.Try.f30 x = nic_Receive.sp.f x := by kernel_rfl
theorem nic_Receive.sound : Sound Try.prog 30 nic_Receive.sp := Lift.sound (E := nic_Receive.env) Try.func30 (by kernel_rfl) (env_ok TYS.ok mixed ⟨memory_Page.sound, slices_Clone_uint32_uint32.sound, memory_SetPage.sound, trivial⟩ trivial) (by kernel_rfl) nic_Receive.eq

/-! vmfleet/nic.Pending -/
noncomputable def nic_Pending.f (n : Int × Int × Bool × Int × Bool × Int) : Option Bool :=
  some n.2.2.2.2.1
noncomputable def nic_Pending.sp : FSpec := ⟨[(.st (.pair (.int .u32) (.pair (.int .u32) (.pair .bool (.pair (.int .u32) (.pair .bool (.int .u32)))))))], [.bool], fun x => nic_Pending.f x⟩
noncomputable def nic_Pending.env : Env := ⟨TYS, [], [], [], [], []⟩
theorem nic_Pending.eq (x) : fnEval nic_Pending.env nic_Pending.sp.args nic_Pending.sp.res Go.Proofs.Try.f32 x = nic_Pending.sp.f x := by kernel_rfl
theorem nic_Pending.sound : Sound Try.prog 32 nic_Pending.sp := Lift.sound (E := nic_Pending.env) Try.func32 (by kernel_rfl) (env_ok TYS.ok mixed trivial trivial) (by kernel_rfl) nic_Pending.eq

/-! vmfleet/vmfleetlaw10.awake -/
noncomputable def vmfleetlaw10_awake.f  : Option Bool :=
  (vmfleetref1_New.f (2 : Int)).bind fun r1 =>
  (nic_Out.f ((1 : Int), (0 : Int), false, (0 : Int), false, (0 : Int)) r1 (9 : Int) (2 : Int) (0 : Int)).bind fun r2 =>
  (vmfleetref1_New.f (2 : Int)).bind fun r3 =>
  (nic_Receive.f r2.1 r3 (⟨#[97, 98, 99]⟩ : ByteArray)).bind fun r4 =>
  bif r4.2.2 then
    (nic_In.f r4.1 (8 : Int)).bind fun r5 =>
    bif decide (r5 = 3) then
      (nic_In.f r4.1 (9 : Int)).bind fun r6 =>
      bif decide (r6 = 2) then
        (nic_Pending.f r4.1).bind fun r7 =>
        bif r7 then
          bif decide ((r4.2.1.length : Int) = 64) then
            if 0 ≤ (32 : Int) ∧ (32 : Int) < (r4.2.1.length : Int) then
              some (decide ((nth (0 : Int) r4.2.1 (32 : Int)) = 6513249))
            else none
          else
            some false
        else
          some false
      else
        some false
    else
      some false
  else
    some false
noncomputable def vmfleetlaw10_awake.sp : FSpec := ⟨[], [.bool], fun _ => vmfleetlaw10_awake.f⟩
noncomputable def vmfleetlaw10_awake.env : Env := ⟨TYS, [(25, nic_Out.sp), (27, nic_In.sp), (30, nic_Receive.sp), (32, nic_Pending.sp), (49, vmfleetref1_New.sp)], [], [], [], []⟩
theorem vmfleetlaw10_awake.eq (x) : fnEval vmfleetlaw10_awake.env vmfleetlaw10_awake.sp.args vmfleetlaw10_awake.sp.res Go.Proofs.Try.f29 x = vmfleetlaw10_awake.sp.f x := by kernel_rfl
theorem vmfleetlaw10_awake.sound : Sound Try.prog 29 vmfleetlaw10_awake.sp := Lift.sound (E := vmfleetlaw10_awake.env) Try.func29 (by kernel_rfl) (env_ok TYS.ok mixed ⟨nic_Out.sound, nic_In.sound, nic_Receive.sound, nic_Pending.sound, vmfleetref1_New.sound, trivial⟩ trivial) (by kernel_rfl) vmfleetlaw10_awake.eq

/-! vmfleet/vmfleetlaw10.NicPorts -/
noncomputable def vmfleetlaw10_NicPorts.f (n : Int × Int × Bool × Int × Bool × Int) (raw : Bool) (k : Int) (pages : Int) (port : Int) (v : Int) (small : Bool) (at_ : Int) : Option Bool :=
  (vmfleetlaw10_shaped.f n raw k).bind fun r1 =>
  (vmfleetlaw10_words.f k pages).bind fun r2 =>
  (bif small then
    (vmfleetmake_Round.f port (5 : Int)).bind fun r3 =>
    some (.inl (IntKind.wrap .i64 (6 + r3), Int.tmod v (5 : Int)))
  else
    some (.inl (port, v)) : Option ((Int × Int) ⊕ (Bool))).bind fun o => match o with
  | .inl y1 =>
    (nic_Out.f r1 r2 y1.1 y1.2 at_).bind fun r4 =>
    (vmfleetref7_NicOut.f r1 r2 y1.1 y1.2 at_).bind fun r5 =>
    (nic_In.f r1 y1.1).bind fun r6 =>
    (vmfleetref7_NicIn.f r1 y1.1).bind fun r7 =>
    bif decide (r6 = r7) then
      bif decide (r4.1 = r5.1) then
        (vmfleetref7_SameOutputs.f r4.2 r5.2).bind fun r8 =>
        bif r8 then
          (vmfleetlaw10_awake.f).bind fun r9 =>
          some r9
        else
          some false
      else
        some false
    else
      some false
  | .inr r => some r
noncomputable def vmfleetlaw10_NicPorts.sp : FSpec := ⟨[(.st (.pair (.int .u32) (.pair (.int .u32) (.pair .bool (.pair (.int .u32) (.pair .bool (.int .u32))))))), .bool, (.int .i64), (.int .i64), (.int .i64), (.int .u32), .bool, (.int .u64)], [.bool], fun x => vmfleetlaw10_NicPorts.f x.1 x.2.1 x.2.2.1 x.2.2.2.1 x.2.2.2.2.1 x.2.2.2.2.2.1 x.2.2.2.2.2.2.1 x.2.2.2.2.2.2.2⟩
noncomputable def vmfleetlaw10_NicPorts.env : Env := ⟨TYS, [(14, vmfleetmake_Round.sp), (21, vmfleetref7_SameOutputs.sp), (23, vmfleetlaw10_shaped.sp), (24, vmfleetlaw10_words.sp), (25, nic_Out.sp), (26, vmfleetref7_NicOut.sp), (27, nic_In.sp), (28, vmfleetref7_NicIn.sp), (29, vmfleetlaw10_awake.sp)], [], [], [(5, ⟨[7, 8, 16, 17], [], [⟨4, false, (.int .i64)⟩, ⟨5, false, (.int .u32)⟩], 0, none⟩)], []⟩
theorem vmfleetlaw10_NicPorts.eq (x) : fnEval vmfleetlaw10_NicPorts.env vmfleetlaw10_NicPorts.sp.args vmfleetlaw10_NicPorts.sp.res Go.Proofs.Try.f4 x = vmfleetlaw10_NicPorts.sp.f x := by kernel_rfl
theorem vmfleetlaw10_NicPorts.sound : Sound Try.prog 4 vmfleetlaw10_NicPorts.sp := Lift.sound (E := vmfleetlaw10_NicPorts.env) Try.func4 (by kernel_rfl) (env_ok TYS.ok mixed ⟨vmfleetmake_Round.sound, vmfleetref7_SameOutputs.sound, vmfleetlaw10_shaped.sound, vmfleetlaw10_words.sound, nic_Out.sound, vmfleetref7_NicOut.sound, nic_In.sound, vmfleetref7_NicIn.sound, vmfleetlaw10_awake.sound, trivial⟩ trivial) (by kernel_rfl) vmfleetlaw10_NicPorts.eq

/-! vmfleet/vmfleetlaw10.bit -/
noncomputable def vmfleetlaw10_bit.f (b : Bool) : Option Int :=
  bif b then
    some (1 : Int)
  else
    some (0 : Int)
noncomputable def vmfleetlaw10_bit.sp : FSpec := ⟨[.bool], [(.int .u32)], fun x => vmfleetlaw10_bit.f x⟩
noncomputable def vmfleetlaw10_bit.env : Env := ⟨TYS, [], [], [], [], []⟩
theorem vmfleetlaw10_bit.eq (x) : fnEval vmfleetlaw10_bit.env vmfleetlaw10_bit.sp.args vmfleetlaw10_bit.sp.res Go.Proofs.Try.f33 x = vmfleetlaw10_bit.sp.f x := by kernel_rfl
theorem vmfleetlaw10_bit.sound : Sound Try.prog 33 vmfleetlaw10_bit.sp := Lift.sound (E := vmfleetlaw10_bit.env) Try.func33 (by kernel_rfl) (env_ok TYS.ok mixed trivial trivial) (by kernel_rfl) vmfleetlaw10_bit.eq

/-! vmfleet/vmfleetlaw10.NicOnce -/
noncomputable def vmfleetlaw10_NicOnce.f (l : List Int) (pages : Int) : Option Bool :=
  bif decide ((l.length : Int) > 60) then
    (vmfleetlaw10_awake.f).bind fun r1 =>
    some r1
  else
    (vmfleetlaw10_words.f pages pages).bind fun r2 =>
    (loop (Y := (Unit) ⊕ (Bool)) (fun (x1 : List Int × (Int × Int × Bool × Int × Bool × Int) × Bool × Bool × Int) =>
      bif decide (x1.2.2.2.2 < (l.length : Int)) then
        (if 0 ≤ x1.2.2.2.2 ∧ x1.2.2.2.2 < (l.length : Int) then
          (vmfleetmake_Round.f (nth (0 : Int) l x1.2.2.2.2) (3 : Int)).bind fun r3 =>
          bif decide (r3 = 0) then
            (nic_Out.f x1.2.1 x1.1 (9 : Int) (2 : Int) (0 : Int)).bind fun r4 =>
            bif x1.2.2.1 then
              some (.inl (x1.1, r4.1, true, x1.2.2.2.1))
            else
              some (.inl (x1.1, r4.1, !x1.2.2.2.1, x1.2.2.2.1))
          else
            bif decide (r3 = 1) then
              if 0 ≤ x1.2.2.2.2 ∧ x1.2.2.2.2 < (l.length : Int) then
                (vmfleetmake_Data.f (nth (0 : Int) l x1.2.2.2.2) (5 : Int)).bind fun r5 =>
                (nic_Receive.f x1.2.1 x1.1 r5).bind fun r6 =>
                (bif x1.2.2.1 then
                  bif !(r6.2.2 == (!x1.2.2.2.1)) then
                    some (.inr (.inr (.inr (.inr false))))
                  else
                    some (.inl ())
                else
                  bif !(r6.2.2 == false) then
                    some (.inr (.inr (.inr (.inr false))))
                  else
                    some (.inl ()) : Option ((Unit) ⊕ ((List Int × (Int × Int × Bool × Int × Bool × Int) × Bool × Bool) ⊕ ((List Int × (Int × Int × Bool × Int × Bool × Int) × Bool × Bool × Int) ⊕ ((Unit) ⊕ (Bool)))))).bind fun o => match o with
                | .inl y2 =>
                  bif r6.2.2 then
                    some (.inl (r6.2.1, r6.1, false, true))
                  else
                    some (.inl (r6.2.1, r6.1, x1.2.2.1, x1.2.2.2.1))
                | .inr r => some r
              else none
            else
              bif decide (r3 = 2) then
                (nic_Out.f x1.2.1 x1.1 (9 : Int) (0 : Int) (0 : Int)).bind fun r7 =>
                some (.inl (x1.1, r7.1, x1.2.2.1, false))
              else
                some (.inl (x1.1, x1.2.1, x1.2.2.1, x1.2.2.2.1))
        else none : Option ((List Int × (Int × Int × Bool × Int × Bool × Int) × Bool × Bool) ⊕ ((List Int × (Int × Int × Bool × Int × Bool × Int) × Bool × Bool × Int) ⊕ ((Unit) ⊕ (Bool))))).bind fun o => match o with
        | .inl y3 =>
          (nic_Pending.f y3.2.1).bind fun r8 =>
          bif !(r8 == y3.2.2.2) then
            some (.inr (.inr false))
          else
            (nic_In.f y3.2.1 (9 : Int)).bind fun r9 =>
            (vmfleetlaw10_bit.f y3.2.2.1).bind fun r10 =>
            (vmfleetlaw10_bit.f y3.2.2.2).bind fun r11 =>
            bif !decide (r9 = (IntKind.wrap .u32 (r10 + (IntKind.wrap .u32 (2 * r11))))) then
              some (.inr (.inr false))
            else
              some (.inl (y3.1, y3.2.1, y3.2.2.1, y3.2.2.2, IntKind.wrap .i64 (x1.2.2.2.2 + 1)))
        | .inr r => some r
      else
        some (.inr (.inl ()))) (r2, ((0 : Int), (0 : Int), false, (0 : Int), false, (0 : Int)), false, false, (0 : Int))).bind fun o => match o with
    | .inl y4 =>
      (vmfleetlaw10_awake.f).bind fun r12 =>
      some r12
    | .inr r => some r
noncomputable def vmfleetlaw10_NicOnce.sp : FSpec := ⟨[(.sl (.int .i64)), (.int .i64)], [.bool], fun x => vmfleetlaw10_NicOnce.f x.1 x.2⟩
noncomputable def vmfleetlaw10_NicOnce.env : Env := ⟨TYS, [(14, vmfleetmake_Round.sp), (24, vmfleetlaw10_words.sp), (25, nic_Out.sp), (27, nic_In.sp), (29, vmfleetlaw10_awake.sp), (30, nic_Receive.sp), (31, vmfleetmake_Data.sp), (32, nic_Pending.sp), (33, vmfleetlaw10_bit.sp)], [], [(7, ⟨[0], [⟨5, false, (.own (.int .u32))⟩, ⟨6, true, (.st (.pair (.int .u32) (.pair (.int .u32) (.pair .bool (.pair (.int .u32) (.pair .bool (.int .u32)))))))⟩, ⟨7, false, .bool⟩, ⟨8, false, .bool⟩, ⟨9, false, (.int .i64)⟩], [], 0, none⟩)], [(17, ⟨[5, 6, 7, 8, 10, 11, 12], [], [], 0, none⟩), (23, ⟨[9], [⟨6, true, (.st (.pair (.int .u32) (.pair (.int .u32) (.pair .bool (.pair (.int .u32) (.pair .bool (.int .u32)))))))⟩, ⟨5, false, (.own (.int .u32))⟩], [⟨5, false, (.own (.int .u32))⟩, ⟨6, true, (.st (.pair (.int .u32) (.pair (.int .u32) (.pair .bool (.pair (.int .u32) (.pair .bool (.int .u32)))))))⟩, ⟨7, false, .bool⟩, ⟨8, false, .bool⟩], 0, none⟩)], []⟩
theorem vmfleetlaw10_NicOnce.eq (x) : fnEval vmfleetlaw10_NicOnce.env vmfleetlaw10_NicOnce.sp.args vmfleetlaw10_NicOnce.sp.res Go.Proofs.Try.f5 x = vmfleetlaw10_NicOnce.sp.f x := by kernel_rfl
theorem vmfleetlaw10_NicOnce.sound : Sound Try.prog 5 vmfleetlaw10_NicOnce.sp := Lift.sound (E := vmfleetlaw10_NicOnce.env) Try.func5 (by kernel_rfl) (env_ok TYS.ok mixed ⟨vmfleetmake_Round.sound, vmfleetlaw10_words.sound, nic_Out.sound, nic_In.sound, vmfleetlaw10_awake.sound, nic_Receive.sound, vmfleetmake_Data.sound, nic_Pending.sound, vmfleetlaw10_bit.sound, trivial⟩ trivial) (by kernel_rfl) vmfleetlaw10_NicOnce.eq

/-! vmfleet/vmfleetlaw10.NicSends -/
noncomputable def vmfleetlaw10_NicSends.f (k : Int) (pages : Int) (frame : Int) (length : Int) : Option Bool :=
  (vmfleetlaw10_words.f k pages).bind fun r1 =>
  (nic_Out.f (Int.tmod frame (8 : Int), Int.tmod length (140 : Int), false, (0 : Int), false, (0 : Int)) r1 (9 : Int) (1 : Int) (9 : Int)).bind fun r2 =>
  (vmfleetref1_Page.f r1 (IntKind.wrap .i64 (Int.tmod frame (8 : Int)))).bind fun r3 =>
  (bif !r3.2 then
    some (.inl true)
  else
    bif (decide ((Int.tmod length (140 : Int)) < 1)) then
      some (.inl true)
    else
      some (.inl (decide ((Int.tmod length (140 : Int)) > 128))) : Option ((Bool) ⊕ (Bool))).bind fun o => match o with
  | .inl y1 =>
    bif y1 then
      bif (decide (r2.1 = (Int.tmod frame (8 : Int), Int.tmod length (140 : Int), false, (0 : Int), false, (0 : Int)))) then
        bif decide ((r2.2.length : Int) = 0) then
          (vmfleetlaw10_awake.f).bind fun r4 =>
          some r4
        else
          some false
      else
        some false
    else
      bif (decide (r2.1 = (Int.tmod frame (8 : Int), Int.tmod length (140 : Int), false, (0 : Int), false, (0 : Int)))) then
        bif decide ((r2.2.length : Int) = 1) then
          if 0 ≤ (0 : Int) ∧ (0 : Int) < (r2.2.length : Int) then
            if 0 ≤ (Int.tmod length (140 : Int)) ∧ (Int.tmod length (140 : Int)) ≤ (r3.1.size : Int) then
              bif (decide (((nth ((0 : Int), (0 : Int), (0 : Int), (⟨#[]⟩ : ByteArray)) r2.2 (0 : Int)).1, ((nth ((0 : Int), (0 : Int), (0 : Int), (⟨#[]⟩ : ByteArray)) r2.2 (0 : Int)).2).1, (((nth ((0 : Int), (0 : Int), (0 : Int), (⟨#[]⟩ : ByteArray)) r2.2 (0 : Int)).2).2)) = ((2 : Int), (9 : Int), (0 : Int), cut r3.1 (0 : Int) (Int.tmod length (140 : Int))))) then
                (vmfleetlaw10_awake.f).bind fun r5 =>
                some r5
              else
                some false
            else none
          else none
        else
          some false
      else
        some false
  | .inr r => some r
noncomputable def vmfleetlaw10_NicSends.sp : FSpec := ⟨[(.int .i64), (.int .i64), (.int .u32), (.int .u32)], [.bool], fun x => vmfleetlaw10_NicSends.f x.1 x.2.1 x.2.2.1 x.2.2.2⟩
noncomputable def vmfleetlaw10_NicSends.env : Env := ⟨TYS, [(24, vmfleetlaw10_words.sp), (25, nic_Out.sp), (29, vmfleetlaw10_awake.sp), (34, vmfleetref1_Page.sp)], [], [], [(6, ⟨[8, 10, 11, 12, 13], [], [⟨48, false, .bool⟩], 0, none⟩)], []⟩
theorem vmfleetlaw10_NicSends.eq (x) : fnEval vmfleetlaw10_NicSends.env vmfleetlaw10_NicSends.sp.args vmfleetlaw10_NicSends.sp.res Go.Proofs.Try.f6 x = vmfleetlaw10_NicSends.sp.f x := by kernel_rfl
theorem vmfleetlaw10_NicSends.sound : Sound Try.prog 6 vmfleetlaw10_NicSends.sp := Lift.sound (E := vmfleetlaw10_NicSends.env) Try.func6 (by kernel_rfl) (env_ok TYS.ok mixed ⟨vmfleetlaw10_words.sound, nic_Out.sound, vmfleetlaw10_awake.sound, vmfleetref1_Page.sound, trivial⟩ trivial) (by kernel_rfl) vmfleetlaw10_NicSends.eq

/-! vmfleet/vmfleetref1.Copy -/
noncomputable def vmfleetref1_Copy.f (m : List Int) : Option (List Int) :=
  if 0 ≤ (m.length : Int) ∧ (m.length : Int) ≤ (m.length : Int) ∧ (m.length : Int) * ((4 : Nat) : Int) ≤ 70368744177664 then
    some (m.take (List.replicate ((m.length : Int).toNat) (0 : Int)).length ++ (List.replicate ((m.length : Int).toNat) (0 : Int)).drop m.length)
  else none
noncomputable def vmfleetref1_Copy.sp : FSpec := ⟨[(.sl (.int .u32))], [(.own (.int .u32))], fun x => vmfleetref1_Copy.f x⟩
noncomputable def vmfleetref1_Copy.env : Env := ⟨TYS, [], [], [], [], []⟩
theorem vmfleetref1_Copy.eq (x) : fnEval vmfleetref1_Copy.env vmfleetref1_Copy.sp.args vmfleetref1_Copy.sp.res Go.Proofs.Try.f58 x = vmfleetref1_Copy.sp.f x := by kernel_rfl
theorem vmfleetref1_Copy.sound : Sound Try.prog 58 vmfleetref1_Copy.sp := Lift.sound (E := vmfleetref1_Copy.env) Try.func58 (by kernel_rfl) (env_ok TYS.ok mixed trivial trivial) (by kernel_rfl) vmfleetref1_Copy.eq

/-! vmfleet/vmfleetref7.Receive -/
noncomputable def vmfleetref7_Receive.f (n : Int × Int × Bool × Int × Bool × Int) (m : List Int) (frame : ByteArray) : Option ((Int × Int × Bool × Int × Bool × Int) × List Int × Bool) :=
  (vmfleetref1_Copy.f m).bind fun r1 =>
  bif !n.2.2.1 then
    some (n, r1, false)
  else
    bif decide ((frame.size : Int) < 1) then
      some (n, r1, false)
    else
      bif decide ((frame.size : Int) > 128) then
        some (n, r1, false)
      else
        (vmfleetref7_page.f r1 n.2.2.2.1).bind fun r2 =>
        bif !r2 then
          some (n, r1, false)
        else
          (loop (Y := (Unit × List Int) ⊕ ((Int × Int × Bool × Int × Bool × Int) × List Int × Bool)) (fun (x1 : Int × List Int) =>
            bif decide (x1.1 < (frame.size : Int)) then
              bif decide (x1.1 < 128) then
                let v2 := IntKind.wrap .u32 (IntKind.wrap .i64 ((IntKind.wrap .i64 ((IntKind.wrap .i64 n.2.2.2.1) * 128)) + x1.1))
                if 0 ≤ x1.1 ∧ x1.1 < (frame.size : Int) then
                  let v3 := IntKind.wrap .u32 (8 * (Int.tmod v2 (4 : Int)))
                  let v4 := IntKind.wrap .u32 (Int.tdiv v2 (4 : Int))
                  let v5 := IntKind.wrap .u32 (Int.tdiv v2 (4 : Int))
                  if 0 ≤ v5 ∧ v5 < (x1.2.length : Int) then
                    if 0 ≤ v3 then
                      if 0 ≤ v3 then
                        if 0 ≤ v4 ∧ v4 < (x1.2.length : Int) then
                          some (.inl (IntKind.wrap .i64 (x1.1 + 1), (put x1.2 v4 (orI .u32 (andNotI .u32 (nth (0 : Int) x1.2 v5) (shlI .u32 (255 : Int) v3)) (shlI .u32 (andI .u32 (IntKind.wrap .u32 (bt frame x1.1)) (255 : Int)) v3)))))
                        else none
                      else none
                    else none
                  else none
                else none
              else
                some (.inr (.inl ((), x1.2)))
            else
              some (.inr (.inl ((), x1.2)))) ((0 : Int), r1)).bind fun o => match o with
          | .inl y2 =>
            some ((n.1, n.2.1, false, (0 : Int), true, IntKind.wrap .u32 (frame.size : Int)), y2.2, true)
          | .inr r => some r
noncomputable def vmfleetref7_Receive.sp : FSpec := ⟨[(.st (.pair (.int .u32) (.pair (.int .u32) (.pair .bool (.pair (.int .u32) (.pair .bool (.int .u32))))))), (.sl (.int .u32)), .str], [(.st (.pair (.int .u32) (.pair (.int .u32) (.pair .bool (.pair (.int .u32) (.pair .bool (.int .u32))))))), (.own (.int .u32)), .bool], fun x => vmfleetref7_Receive.f x.1 x.2.1 x.2.2⟩
noncomputable def vmfleetref7_Receive.env : Env := ⟨TYS, [(51, vmfleetref7_page.sp), (58, vmfleetref1_Copy.sp)], [(59, Go.Proofs.Try.f59), (64, Go.Proofs.Try.f64), (66, Go.Proofs.Try.f66)], [], [], [(59, ([], [])), (64, ([(1, ⟨[0, 1, 2], [⟨6, false, (.int .i64)⟩], [], 0, (some (0, (.int .u32)))⟩)], [])), (66, ([], []))]⟩
theorem vmfleetref7_Receive.eq (x) : fnEval vmfleetref7_Receive.env vmfleetref7_Receive.sp.args vmfleetref7_Receive.sp.res Go.Proofs.Try.f36 x = vmfleetref7_Receive.sp.f x := by kernel_rfl
theorem vmfleetref7_Receive.sound : Sound Try.prog 36 vmfleetref7_Receive.sp := Lift.sound (E := vmfleetref7_Receive.env) Try.func36 (by kernel_rfl) (env_ok TYS.ok mixed ⟨vmfleetref7_page.sound, vmfleetref1_Copy.sound, trivial⟩ ⟨inl_ok Try.func59 (by kernel_rfl), inl_ok Try.func64 (by kernel_rfl), inl_ok Try.func66 (by kernel_rfl), trivial⟩) (by kernel_rfl) vmfleetref7_Receive.eq

/-! vmfleet/vmfleetref1.SameWords -/
noncomputable def vmfleetref1_SameWords.f (a : List Int) (b : List Int) : Option Bool :=
  bif !decide ((a.length : Int) = (b.length : Int)) then
    some false
  else
    (loop (Y := (Unit) ⊕ (Bool)) (fun (x1 : Int) =>
      bif decide (x1 < (a.length : Int)) then
        if 0 ≤ x1 ∧ x1 < (a.length : Int) then
          if 0 ≤ x1 ∧ x1 < (b.length : Int) then
            bif !decide ((nth (0 : Int) a x1) = (nth (0 : Int) b x1)) then
              some (.inr (.inr false))
            else
              some (.inl (IntKind.wrap .i64 (x1 + 1)))
          else none
        else none
      else
        some (.inr (.inl ()))) (0 : Int)).bind fun o => match o with
    | .inl y2 =>
      some true
    | .inr r => some r
noncomputable def vmfleetref1_SameWords.sp : FSpec := ⟨[(.sl (.int .u32)), (.sl (.int .u32))], [.bool], fun x => vmfleetref1_SameWords.f x.1 x.2⟩
noncomputable def vmfleetref1_SameWords.env : Env := ⟨TYS, [], [], [(4, ⟨[0, 1], [⟨5, false, (.int .i64)⟩], [], 0, none⟩)], [], []⟩
theorem vmfleetref1_SameWords.eq (x) : fnEval vmfleetref1_SameWords.env vmfleetref1_SameWords.sp.args vmfleetref1_SameWords.sp.res Go.Proofs.Try.f37 x = vmfleetref1_SameWords.sp.f x := by kernel_rfl
theorem vmfleetref1_SameWords.sound : Sound Try.prog 37 vmfleetref1_SameWords.sp := Lift.sound (E := vmfleetref1_SameWords.env) Try.func37 (by kernel_rfl) (env_ok TYS.ok mixed trivial trivial) (by kernel_rfl) vmfleetref1_SameWords.eq

/-! vmfleet/vmfleetref7.NicPending -/
noncomputable def vmfleetref7_NicPending.f (n : Int × Int × Bool × Int × Bool × Int) : Option Bool :=
  some n.2.2.2.2.1
noncomputable def vmfleetref7_NicPending.sp : FSpec := ⟨[(.st (.pair (.int .u32) (.pair (.int .u32) (.pair .bool (.pair (.int .u32) (.pair .bool (.int .u32)))))))], [.bool], fun x => vmfleetref7_NicPending.f x⟩
noncomputable def vmfleetref7_NicPending.env : Env := ⟨TYS, [], [], [], [], []⟩
theorem vmfleetref7_NicPending.eq (x) : fnEval vmfleetref7_NicPending.env vmfleetref7_NicPending.sp.args vmfleetref7_NicPending.sp.res Go.Proofs.Try.f38 x = vmfleetref7_NicPending.sp.f x := by kernel_rfl
theorem vmfleetref7_NicPending.sound : Sound Try.prog 38 vmfleetref7_NicPending.sp := Lift.sound (E := vmfleetref7_NicPending.env) Try.func38 (by kernel_rfl) (env_ok TYS.ok mixed trivial trivial) (by kernel_rfl) vmfleetref7_NicPending.eq

/-! vmfleet/nic.May -/
noncomputable def nic_May.f (n : Int × Int × Bool × Int × Bool × Int) (pages : Int) : Option Bool :=
  (bif n.2.2.1 then
    bif n.2.2.2.2.1 then
      some (.inr false)
    else
      some (.inl ())
  else
    some (.inl ()) : Option ((Unit) ⊕ (Bool))).bind fun o => match o with
  | .inl y1 =>
    (bif n.2.2.1 then
      some (.inl (decide ((IntKind.wrap .i64 n.2.2.2.1) < pages)))
    else
      some (.inl (decide (n.2.2.2.1 = 0))) : Option ((Bool) ⊕ (Bool))).bind fun o => match o with
    | .inl y2 =>
      bif n.2.2.2.2.1 then
        bif decide (n.2.2.2.2.2 ≥ 1) then
          bif y2 then
            some (decide (n.2.2.2.2.2 ≤ 128))
          else
            some false
        else
          bif y2 then
            some false
          else
            some false
      else
        bif y2 then
          some (decide (n.2.2.2.2.2 = 0))
        else
          some false
    | .inr r => some r
  | .inr r => some r
noncomputable def nic_May.sp : FSpec := ⟨[(.st (.pair (.int .u32) (.pair (.int .u32) (.pair .bool (.pair (.int .u32) (.pair .bool (.int .u32))))))), (.int .i64)], [.bool], fun x => nic_May.f x.1 x.2⟩
noncomputable def nic_May.env : Env := ⟨TYS, [], [], [], [(3, ⟨[1, 2], [], [], 0, none⟩), (6, ⟨[2, 6], [], [⟨5, false, .bool⟩], 0, none⟩)], []⟩
theorem nic_May.eq (x) : fnEval nic_May.env nic_May.sp.args nic_May.sp.res Go.Proofs.Try.f39 x = nic_May.sp.f x := by kernel_rfl
theorem nic_May.sound : Sound Try.prog 39 nic_May.sp := Lift.sound (E := nic_May.env) Try.func39 (by kernel_rfl) (env_ok TYS.ok mixed trivial trivial) (by kernel_rfl) nic_May.eq

/-! vmfleet/vmfleetref7.NicMay -/
noncomputable def vmfleetref7_NicMay.f (n : Int × Int × Bool × Int × Bool × Int) (pages : Int) : Option Bool :=
  (bif n.2.2.1 then
    bif n.2.2.2.2.1 then
      some (.inr false)
    else
      bif (decide ((IntKind.wrap .i64 n.2.2.2.1) ≥ pages)) then
        some (.inr false)
      else
        bif !n.2.2.1 then
          bif !decide (n.2.2.2.1 = 0) then
            some (.inr false)
          else
            some (.inl ())
        else
          some (.inl ())
  else
    bif !n.2.2.1 then
      bif !decide (n.2.2.2.1 = 0) then
        some (.inr false)
      else
        some (.inl ())
    else
      some (.inl ()) : Option ((Unit) ⊕ (Bool))).bind fun o => match o with
  | .inl y1 =>
    bif n.2.2.2.2.1 then
      bif decide (n.2.2.2.2.2 ≥ 1) then
        some (decide (n.2.2.2.2.2 ≤ 128))
      else
        some false
    else
      some (decide (n.2.2.2.2.2 = 0))
  | .inr r => some r
noncomputable def vmfleetref7_NicMay.sp : FSpec := ⟨[(.st (.pair (.int .u32) (.pair (.int .u32) (.pair .bool (.pair (.int .u32) (.pair .bool (.int .u32))))))), (.int .i64)], [.bool], fun x => vmfleetref7_NicMay.f x.1 x.2⟩
noncomputable def vmfleetref7_NicMay.env : Env := ⟨TYS, [], [], [], [(3, ⟨[2], [], [], 0, none⟩)], []⟩
theorem vmfleetref7_NicMay.eq (x) : fnEval vmfleetref7_NicMay.env vmfleetref7_NicMay.sp.args vmfleetref7_NicMay.sp.res Go.Proofs.Try.f40 x = vmfleetref7_NicMay.sp.f x := by kernel_rfl
theorem vmfleetref7_NicMay.sound : Sound Try.prog 40 vmfleetref7_NicMay.sp := Lift.sound (E := vmfleetref7_NicMay.env) Try.func40 (by kernel_rfl) (env_ok TYS.ok mixed trivial trivial) (by kernel_rfl) vmfleetref7_NicMay.eq

/-! vmfleet/vmfleetlaw10.NicReceives -/
noncomputable def vmfleetlaw10_NicReceives.f (n : Int × Int × Bool × Int × Bool × Int) (raw : Bool) (k : Int) (pages : Int) (frame : ByteArray) (made : Bool) : Option Bool :=
  (vmfleetlaw10_shaped.f n raw k).bind fun r1 =>
  (vmfleetlaw10_words.f k pages).bind fun r2 =>
  (bif made then
    (vmfleetmake_Mix.f k (13 : Int)).bind fun r3 =>
    (vmfleetmake_Round.f r3 (140 : Int)).bind fun r4 =>
    (vmfleetmake_Data.f k r4).bind fun r5 =>
    some (.inl r5)
  else
    some (.inl frame) : Option ((ByteArray) ⊕ (Bool))).bind fun o => match o with
  | .inl y1 =>
    bif decide ((y1.size : Int) > 300) then
      (vmfleetlaw10_awake.f).bind fun r6 =>
      some r6
    else
      (nic_Receive.f r1 r2 y1).bind fun r7 =>
      (vmfleetref7_Receive.f r1 r2 y1).bind fun r8 =>
      bif decide (r7.1 = r8.1) then
        (vmfleetref1_SameWords.f r7.2.1 r8.2.1).bind fun r9 =>
        bif r9 then
          bif r7.2.2 == r8.2.2 then
            (nic_Pending.f r1).bind fun r10 =>
            (vmfleetref7_NicPending.f r1).bind fun r11 =>
            bif r10 == r11 then
              (nic_May.f r1 pages).bind fun r12 =>
              (vmfleetref7_NicMay.f r1 pages).bind fun r13 =>
              bif r12 == r13 then
                (vmfleetlaw10_awake.f).bind fun r14 =>
                some r14
              else
                some false
            else
              some false
          else
            some false
        else
          some false
      else
        some false
  | .inr r => some r
noncomputable def vmfleetlaw10_NicReceives.sp : FSpec := ⟨[(.st (.pair (.int .u32) (.pair (.int .u32) (.pair .bool (.pair (.int .u32) (.pair .bool (.int .u32))))))), .bool, (.int .i64), (.int .i64), .str, .bool], [.bool], fun x => vmfleetlaw10_NicReceives.f x.1 x.2.1 x.2.2.1 x.2.2.2.1 x.2.2.2.2.1 x.2.2.2.2.2⟩
noncomputable def vmfleetlaw10_NicReceives.env : Env := ⟨TYS, [(14, vmfleetmake_Round.sp), (23, vmfleetlaw10_shaped.sp), (24, vmfleetlaw10_words.sp), (29, vmfleetlaw10_awake.sp), (30, nic_Receive.sp), (31, vmfleetmake_Data.sp), (32, nic_Pending.sp), (35, vmfleetmake_Mix.sp), (36, vmfleetref7_Receive.sp), (37, vmfleetref1_SameWords.sp), (38, vmfleetref7_NicPending.sp), (39, nic_May.sp), (40, vmfleetref7_NicMay.sp)], [], [], [(5, ⟨[3, 6, 12, 13], [], [⟨4, false, .str⟩], 0, none⟩)], []⟩
theorem vmfleetlaw10_NicReceives.eq (x) : fnEval vmfleetlaw10_NicReceives.env vmfleetlaw10_NicReceives.sp.args vmfleetlaw10_NicReceives.sp.res Go.Proofs.Try.f7 x = vmfleetlaw10_NicReceives.sp.f x := by kernel_rfl
theorem vmfleetlaw10_NicReceives.sound : Sound Try.prog 7 vmfleetlaw10_NicReceives.sp := Lift.sound (E := vmfleetlaw10_NicReceives.env) Try.func7 (by kernel_rfl) (env_ok TYS.ok mixed ⟨vmfleetmake_Round.sound, vmfleetlaw10_shaped.sound, vmfleetlaw10_words.sound, vmfleetlaw10_awake.sound, nic_Receive.sound, vmfleetmake_Data.sound, nic_Pending.sound, vmfleetmake_Mix.sound, vmfleetref7_Receive.sound, vmfleetref1_SameWords.sound, vmfleetref7_NicPending.sound, nic_May.sound, vmfleetref7_NicMay.sound, trivial⟩ trivial) (by kernel_rfl) vmfleetlaw10_NicReceives.eq

/-! vmfleet/vmfleetlaw10.NicKeeps -/
noncomputable def vmfleetlaw10_NicKeeps.f (n : Int × Int × Bool × Int × Bool × Int) (raw : Bool) (k : Int) (pages : Int) (port : Int) (v : Int) : Option Bool :=
  (vmfleetlaw10_shaped.f n raw k).bind fun r1 =>
  (vmfleetlaw10_words.f k pages).bind fun r2 =>
  (vmfleetref1_Pages.f r2).bind fun r3 =>
  (nic_May.f r1 r3).bind fun r4 =>
  bif !r4 then
    (vmfleetlaw10_awake.f).bind fun r5 =>
    some r5
  else
    (vmfleetmake_Round.f port (3 : Int)).bind fun r6 =>
    (nic_Out.f r1 r2 (IntKind.wrap .i64 (7 + r6)) (Int.tmod v (4 : Int)) (0 : Int)).bind fun r7 =>
    (vmfleetmake_Round.f k (128 : Int)).bind fun r8 =>
    (vmfleetmake_Data.f k (IntKind.wrap .i64 (1 + r8))).bind fun r9 =>
    (nic_Receive.f r1 r2 r9).bind fun r10 =>
    (nic_May.f r7.1 r3).bind fun r11 =>
    bif r11 then
      (nic_May.f r10.1 r3).bind fun r12 =>
      bif r12 then
        bif (decide ((r10.2.1.length : Int) = (r2.length : Int))) then
          (vmfleetlaw10_awake.f).bind fun r13 =>
          some r13
        else
          some false
      else
        some false
    else
      some false
noncomputable def vmfleetlaw10_NicKeeps.sp : FSpec := ⟨[(.st (.pair (.int .u32) (.pair (.int .u32) (.pair .bool (.pair (.int .u32) (.pair .bool (.int .u32))))))), .bool, (.int .i64), (.int .i64), (.int .i64), (.int .u32)], [.bool], fun x => vmfleetlaw10_NicKeeps.f x.1 x.2.1 x.2.2.1 x.2.2.2.1 x.2.2.2.2.1 x.2.2.2.2.2⟩
noncomputable def vmfleetlaw10_NicKeeps.env : Env := ⟨TYS, [(14, vmfleetmake_Round.sp), (23, vmfleetlaw10_shaped.sp), (24, vmfleetlaw10_words.sp), (25, nic_Out.sp), (29, vmfleetlaw10_awake.sp), (30, nic_Receive.sp), (31, vmfleetmake_Data.sp), (39, nic_May.sp), (41, vmfleetref1_Pages.sp)], [], [], [], []⟩
theorem vmfleetlaw10_NicKeeps.eq (x) : fnEval vmfleetlaw10_NicKeeps.env vmfleetlaw10_NicKeeps.sp.args vmfleetlaw10_NicKeeps.sp.res Go.Proofs.Try.f8 x = vmfleetlaw10_NicKeeps.sp.f x := by kernel_rfl
theorem vmfleetlaw10_NicKeeps.sound : Sound Try.prog 8 vmfleetlaw10_NicKeeps.sp := Lift.sound (E := vmfleetlaw10_NicKeeps.env) Try.func8 (by kernel_rfl) (env_ok TYS.ok mixed ⟨vmfleetmake_Round.sound, vmfleetlaw10_shaped.sound, vmfleetlaw10_words.sound, nic_Out.sound, vmfleetlaw10_awake.sound, nic_Receive.sound, vmfleetmake_Data.sound, nic_May.sound, vmfleetref1_Pages.sound, trivial⟩ trivial) (by kernel_rfl) vmfleetlaw10_NicKeeps.eq

/-! vmfleet/disk.Complete -/
noncomputable def disk_Complete.f (d : Int × Int × Int × Int × Int × Int × Int × ByteArray) (m : List Int) (e : Int × Int × ByteArray) : Option ((Int × Int × Int × Int × Int × Int × Int × ByteArray) × List Int × Bool) :=
  (slices_Clone_uint32_uint32.f m).bind fun r1 =>
  bif !decide (d.2.2.2.1 = 1) then
    some (d, r1, false)
  else
    bif !decide (e.1 = 4) then
      some (d, r1, false)
    else
      bif decide (e.2.1 > 1) then
        some (d, r1, false)
      else
        (bif decide (e.2.1 = 1) then
          some (.inl (2 : Int))
        else
          some (.inl (3 : Int)) : Option ((Int) ⊕ ((Int × Int × Int × Int × Int × Int × Int × ByteArray) × List Int × Bool))).bind fun o => match o with
        | .inl y1 =>
          ((bif decide (e.2.1 = 1) then
            some (.inl (decide (d.2.2.2.2.1 = 1)))
          else
            some (.inl false) : Option ((Bool) ⊕ (((Int × Int × Int × Int × Int × Int × Int × ByteArray) × List Int) ⊕ ((Int × Int × Int × Int × Int × Int × Int × ByteArray) × List Int × Bool)))).bind fun o => match o with
          | .inl y2 =>
            bif y2 then
              (memory_SetPage.f m (IntKind.wrap .i64 d.2.2.2.2.2.2.1) e.2.2).bind fun r2 =>
              bif !r2.2 then
                some (.inr (d, r2.1, false))
              else
                some (.inl (((0 : Int), (0 : Int), (0 : Int), (0 : Int), (0 : Int), (0 : Int), (0 : Int), (⟨#[]⟩ : ByteArray)), r2.1))
            else
              bif !decide (e.2.2 = (⟨#[]⟩ : ByteArray)) then
                some (.inr (d, r1, false))
              else
                some (.inl (((0 : Int), (0 : Int), (0 : Int), (0 : Int), (0 : Int), (0 : Int), (0 : Int), (⟨#[]⟩ : ByteArray)), r1))
          | .inr r => some r : Option (((Int × Int × Int × Int × Int × Int × Int × ByteArray) × List Int) ⊕ ((Int × Int × Int × Int × Int × Int × Int × ByteArray) × List Int × Bool))).bind fun o => match o with
          | .inl y3 =>
            some ((d.1, d.2.1, d.2.2.1, y1, (0 : Int), (0 : Int), (0 : Int), (⟨#[]⟩ : ByteArray)), y3.2, true)
          | .inr r => some r
        | .inr r => some r
noncomputable def disk_Complete.sp : FSpec := ⟨[(.st (.pair (.int .u32) (.pair (.int .u32) (.pair (.int .u32) (.pair (.int .i64) (.pair (.int .i64) (.pair (.int .u32) (.pair (.int .u32) .str)))))))), (.sl (.int .u32)), (.st (.pair (.int .i64) (.pair (.int .u32) .str)))], [(.st (.pair (.int .u32) (.pair (.int .u32) (.pair (.int .u32) (.pair (.int .i64) (.pair (.int .i64) (.pair (.int .u32) (.pair (.int .u32) .str)))))))), (.own (.int .u32)), .bool], fun x => disk_Complete.f x.1 x.2.1 x.2.2⟩
noncomputable def disk_Complete.env : Env := ⟨TYS, [(54, slices_Clone_uint32_uint32.sp), (55, memory_SetPage.sp)], [], [], [(7, ⟨[1, 3, 5, 6, 7, 8, 9], [], [⟨10, false, (.int .i64)⟩], 0, none⟩), (8, ⟨[1, 5, 6, 7, 8, 9], [], [⟨39, false, .bool⟩], 0, none⟩), (14, ⟨[3, 10], [⟨6, true, (.st (.pair (.int .u32) (.pair (.int .u32) (.pair (.int .u32) (.pair (.int .i64) (.pair (.int .i64) (.pair (.int .u32) (.pair (.int .u32) .str))))))))⟩, ⟨9, false, (.own (.int .u32))⟩], [⟨6, true, (.st (.pair (.int .u32) (.pair (.int .u32) (.pair (.int .u32) (.pair (.int .i64) (.pair (.int .i64) (.pair (.int .u32) (.pair (.int .u32) .str))))))))⟩, ⟨9, false, (.own (.int .u32))⟩], 0, none⟩)], []⟩
theorem disk_Complete.eq (x) : fnEval disk_Complete.env disk_Complete.sp.args disk_Complete.sp.res Go.Proofs.Try.f42 x = disk_Complete.sp.f x := by kernel_rfl
theorem disk_Complete.sound : Sound Try.prog 42 disk_Complete.sp := Lift.sound (E := disk_Complete.env) Try.func42 (by kernel_rfl) (env_ok TYS.ok mixed ⟨slices_Clone_uint32_uint32.sound, memory_SetPage.sound, trivial⟩ trivial) (by kernel_rfl) disk_Complete.eq

/-! vmfleet/vmfleetlaw9.DiskStores -/
noncomputable def vmfleetlaw9_DiskStores.f (n : Int) (pages : Int) (block : Int) (frame : Int) (l : List Int) (read : Bool) : Option Bool :=
  bif decide ((l.length : Int) > 20) then
    (vmfleetlaw9_awake.f).bind fun r1 =>
    some r1
  else
    (vmfleetlaw9_words.f n pages).bind fun r2 =>
    (vmfleetref1_Pages.f r2).bind fun r3 =>
    if (IntKind.wrap .u32 r3) = 0 then none else
    (bif read then
      some (.inl (1 : Int))
    else
      some (.inl (2 : Int)) : Option ((Int) ⊕ (Bool))).bind fun o => match o with
    | .inl y1 =>
      (vmfleetref1_Page.f r2 (IntKind.wrap .i64 (Int.tmod frame (IntKind.wrap .u32 r3)))).bind fun r4 =>
      (disk_Out.f ((4 : Int), (0 : Int), (0 : Int), (0 : Int), (0 : Int), (0 : Int), (0 : Int), (⟨#[]⟩ : ByteArray)) r2 (4 : Int) (Int.tmod block (4 : Int)) (0 : Int)).bind fun r5 =>
      (disk_Out.f r5.1 r2 (5 : Int) (Int.tmod frame (IntKind.wrap .u32 r3)) (0 : Int)).bind fun r6 =>
      (disk_Out.f r6.1 r2 (6 : Int) y1 (3 : Int)).bind fun r7 =>
      (bif read then
        some (.inl ((3 : Int), (3 : Int), Int.tmod block (4 : Int), (⟨#[]⟩ : ByteArray)))
      else
        some (.inl ((4 : Int), (3 : Int), Int.tmod block (4 : Int), r4.1)) : Option ((Int × Int × Int × ByteArray) ⊕ (Bool))).bind fun o => match o with
      | .inl y2 =>
        bif !decide ((r7.2.length : Int) = 1) then
          some false
        else
          if 0 ≤ (0 : Int) ∧ (0 : Int) < (r7.2.length : Int) then
            bif (!decide (((nth ((0 : Int), (0 : Int), (0 : Int), (⟨#[]⟩ : ByteArray)) r7.2 (0 : Int)).1, ((nth ((0 : Int), (0 : Int), (0 : Int), (⟨#[]⟩ : ByteArray)) r7.2 (0 : Int)).2).1, (((nth ((0 : Int), (0 : Int), (0 : Int), (⟨#[]⟩ : ByteArray)) r7.2 (0 : Int)).2).2)) = y2)) then
              some false
            else
              (loop (Y := (List Int × Int × Int × Int × Int × Int × Int × Int × ByteArray) ⊕ (Bool)) (fun (x3 : List Int × (Int × Int × Int × Int × Int × Int × Int × ByteArray) × Int) =>
                bif decide (x3.2.2 < (l.length : Int)) then
                  if 0 ≤ x3.2.2 ∧ x3.2.2 < (l.length : Int) then
                    (vmfleetmake_Round.f (nth (0 : Int) l x3.2.2) (x3.1.length : Int)).bind fun r8 =>
                    if 0 ≤ x3.2.2 ∧ x3.2.2 < (l.length : Int) then
                      let v3 := andI .i64 (nth (0 : Int) l x3.2.2) (4294967295 : Int)
                      if 0 ≤ r8 ∧ r8 < (x3.1.length : Int) then
                        if 0 ≤ x3.2.2 ∧ x3.2.2 < (l.length : Int) then
                          (vmfleetmake_Round.f (nth (0 : Int) l x3.2.2) (3 : Int)).bind fun r9 =>
                          if 0 ≤ x3.2.2 ∧ x3.2.2 < (l.length : Int) then
                            (disk_Out.f x3.2.1 (put x3.1 r8 (IntKind.wrap .u32 v3)) (IntKind.wrap .i64 (4 + r9)) (IntKind.wrap .u32 (andI .i64 (nth (0 : Int) l x3.2.2) (3 : Int))) (4 : Int)).bind fun r10 =>
                            bif decide ((r10.2.length : Int) > 0) then
                              some (.inr (.inr false))
                            else
                              some (.inl (put x3.1 r8 (IntKind.wrap .u32 v3), r10.1, IntKind.wrap .i64 (x3.2.2 + 1)))
                          else none
                        else none
                      else none
                    else none
                  else none
                else
                  some (.inr (.inl (x3.1, x3.2.1)))) (r2, r7.1, (0 : Int))).bind fun o => match o with
              | .inl y4 =>
                (disk_Request.f y4.2 (3 : Int)).bind fun r11 =>
                bif !r11.2 then
                  some false
                else
                  bif !decide (r11.1 = y2) then
                    some false
                  else
                    (bif read then
                      (vmfleetmake_Data.f n (128 : Int)).bind fun r12 =>
                      some (.inl ((4 : Int), (1 : Int), r12))
                    else
                      some (.inl ((4 : Int), (1 : Int), (⟨#[]⟩ : ByteArray))) : Option ((Int × Int × ByteArray) ⊕ (Bool))).bind fun o => match o with
                    | .inl y5 =>
                      (disk_Complete.f y4.2 y4.1 y5).bind fun r13 =>
                      (vmfleetref1_Page.f r13.2.1 (IntKind.wrap .i64 (Int.tmod frame (IntKind.wrap .u32 r3)))).bind fun r14 =>
                      bif r13.2.2 then
                        bif decide (r13.1.2.2.2.1 = 2) then
                          bif !read then
                            bif read then
                              (vmfleetlaw9_awake.f).bind fun r15 =>
                              some r15
                            else
                              (vmfleetref1_SameWords.f r13.2.1 y4.1).bind fun r16 =>
                              bif r16 then
                                (vmfleetlaw9_awake.f).bind fun r17 =>
                                some r17
                              else
                                some false
                          else
                            bif decide (r14.1 = y5.2.2) then
                              bif read then
                                (vmfleetlaw9_awake.f).bind fun r18 =>
                                some r18
                              else
                                (vmfleetref1_SameWords.f r13.2.1 y4.1).bind fun r19 =>
                                bif r19 then
                                  (vmfleetlaw9_awake.f).bind fun r20 =>
                                  some r20
                                else
                                  some false
                            else
                              some false
                        else
                          some false
                      else
                        some false
                    | .inr r => some r
              | .inr r => some r
          else none
      | .inr r => some r
    | .inr r => some r
noncomputable def vmfleetlaw9_DiskStores.sp : FSpec := ⟨[(.int .i64), (.int .i64), (.int .u32), (.int .u32), (.sl (.int .i64)), .bool], [.bool], fun x => vmfleetlaw9_DiskStores.f x.1 x.2.1 x.2.2.1 x.2.2.2.1 x.2.2.2.2.1 x.2.2.2.2.2⟩
noncomputable def vmfleetlaw9_DiskStores.env : Env := ⟨TYS, [(13, vmfleetlaw9_words.sp), (14, vmfleetmake_Round.sp), (15, disk_Out.sp), (17, disk_Request.sp), (22, vmfleetlaw9_awake.sp), (31, vmfleetmake_Data.sp), (34, vmfleetref1_Page.sp), (37, vmfleetref1_SameWords.sp), (41, vmfleetref1_Pages.sp), (42, disk_Complete.sp)], [], [(20, ⟨[0, 3, 4, 5, 19], [⟨13, false, (.own (.int .u32))⟩, ⟨14, true, (.st (.pair (.int .u32) (.pair (.int .u32) (.pair (.int .u32) (.pair (.int .i64) (.pair (.int .i64) (.pair (.int .u32) (.pair (.int .u32) .str))))))))⟩, ⟨20, false, (.int .i64)⟩], [⟨13, false, (.own (.int .u32))⟩, ⟨14, true, (.st (.pair (.int .u32) (.pair (.int .u32) (.pair (.int .u32) (.pair (.int .i64) (.pair (.int .i64) (.pair (.int .u32) (.pair (.int .u32) .str))))))))⟩], 0, none⟩)], [(10, ⟨[0, 2, 3, 4, 5, 12, 13, 14], [], [⟨15, false, (.int .u32)⟩], 0, none⟩), (17, ⟨[0, 3, 4, 5, 12, 13, 14, 18], [⟨19, true, (.st (.pair (.int .i64) (.pair (.int .u64) (.pair (.int .u32) .str))))⟩], [⟨19, true, (.st (.pair (.int .i64) (.pair (.int .u64) (.pair (.int .u32) .str))))⟩], 0, none⟩), (33, ⟨[3, 5, 13, 14], [⟨25, true, (.st (.pair (.int .i64) (.pair (.int .u32) .str)))⟩], [⟨25, true, (.st (.pair (.int .i64) (.pair (.int .u32) .str)))⟩], 0, none⟩)], []⟩
theorem vmfleetlaw9_DiskStores.eq (x) : fnEval vmfleetlaw9_DiskStores.env vmfleetlaw9_DiskStores.sp.args vmfleetlaw9_DiskStores.sp.res Go.Proofs.Try.f9 x = vmfleetlaw9_DiskStores.sp.f x := by kernel_rfl
theorem vmfleetlaw9_DiskStores.sound : Sound Try.prog 9 vmfleetlaw9_DiskStores.sp := Lift.sound (E := vmfleetlaw9_DiskStores.env) Try.func9 (by kernel_rfl) (env_ok TYS.ok mixed ⟨vmfleetlaw9_words.sound, vmfleetmake_Round.sound, disk_Out.sound, disk_Request.sound, vmfleetlaw9_awake.sound, vmfleetmake_Data.sound, vmfleetref1_Page.sound, vmfleetref1_SameWords.sound, vmfleetref1_Pages.sound, disk_Complete.sound, trivial⟩ trivial) (by kernel_rfl) vmfleetlaw9_DiskStores.eq

/-! vmfleet/vmfleetmake.Event -/
noncomputable def vmfleetmake_Event.f (n : Int) : Option (Int × Int × ByteArray) :=
  (vmfleetmake_Mix.f n (2 : Int)).bind fun r1 =>
  bif decide ((Int.tmod r1 (7 : Int)) = 0) then
    some ((2 : Int), (0 : Int), (⟨#[]⟩ : ByteArray))
  else
    (bif decide ((Int.tmod r1 (7 : Int)) = 1) then
      some (.inl true)
    else
      some (.inl (decide ((Int.tmod r1 (7 : Int)) = 2))) : Option ((Bool) ⊕ (Int × Int × ByteArray))).bind fun o => match o with
    | .inl y1 =>
      bif y1 then
        some ((3 : Int), IntKind.wrap .u32 (andI .i64 (shrI .i64 r1 (8 : Int)) (255 : Int)), (⟨#[]⟩ : ByteArray))
      else
        bif decide ((Int.tmod r1 (7 : Int)) = 3) then
          some ((4 : Int), (1 : Int), (⟨#[]⟩ : ByteArray))
        else
          bif decide ((Int.tmod r1 (7 : Int)) = 4) then
            (vmfleetmake_Data.f r1 (128 : Int)).bind fun r2 =>
            some ((4 : Int), (1 : Int), r2)
          else
            bif decide ((Int.tmod r1 (7 : Int)) = 5) then
              (vmfleetmake_Data.f r1 (IntKind.wrap .i64 (1 + (Int.tmod (shrI .i64 r1 (8 : Int)) (40 : Int))))).bind fun r3 =>
              some ((5 : Int), (0 : Int), r3)
            else
              bif decide ((Int.tmod (shrI .i64 r1 (8 : Int)) (4 : Int)) = 0) then
                some ((4 : Int), (0 : Int), (⟨#[]⟩ : ByteArray))
              else
                some ((6 : Int), IntKind.wrap .u32 (Int.tmod (shrI .i64 r1 (8 : Int)) (3 : Int)), (⟨#[]⟩ : ByteArray))
    | .inr r => some r
noncomputable def vmfleetmake_Event.sp : FSpec := ⟨[(.int .i64)], [(.st (.pair (.int .i64) (.pair (.int .u32) .str)))], fun x => vmfleetmake_Event.f x⟩
noncomputable def vmfleetmake_Event.env : Env := ⟨TYS, [(31, vmfleetmake_Data.sp), (35, vmfleetmake_Mix.sp)], [], [], [(7, ⟨[2, 3, 7], [], [⟨11, false, .bool⟩], 0, none⟩)], []⟩
theorem vmfleetmake_Event.eq (x) : fnEval vmfleetmake_Event.env vmfleetmake_Event.sp.args vmfleetmake_Event.sp.res Go.Proofs.Try.f43 x = vmfleetmake_Event.sp.f x := by kernel_rfl
theorem vmfleetmake_Event.sound : Sound Try.prog 43 vmfleetmake_Event.sp := Lift.sound (E := vmfleetmake_Event.env) Try.func43 (by kernel_rfl) (env_ok TYS.ok mixed ⟨vmfleetmake_Data.sound, vmfleetmake_Mix.sound, trivial⟩ trivial) (by kernel_rfl) vmfleetmake_Event.eq

/-! vmfleet/vmfleetref7.Complete -/
noncomputable def vmfleetref7_Complete.f (d : Int × Int × Int × Int × Int × Int × Int × ByteArray) (m : List Int) (e : Int × Int × ByteArray) : Option ((Int × Int × Int × Int × Int × Int × Int × ByteArray) × List Int × Bool) :=
  (vmfleetref1_Copy.f m).bind fun r1 =>
  bif !decide (d.2.2.2.1 = 1) then
    some (d, r1, false)
  else
    bif !decide (e.1 = 4) then
      some (d, r1, false)
    else
      bif decide (e.2.1 > 1) then
        some (d, r1, false)
      else
        (bif decide (e.2.1 = 1) then
          some (.inl (decide (d.2.2.2.2.1 = 1)))
        else
          some (.inl false) : Option ((Bool) ⊕ ((Int × Int × Int × Int × Int × Int × Int × ByteArray) × List Int × Bool))).bind fun o => match o with
        | .inl y1 =>
          (bif y1 then
            bif !decide ((e.2.2.size : Int) = 128) then
              some (.inr (d, r1, false))
            else
              (vmfleetref7_page.f r1 d.2.2.2.2.2.2.1).bind fun r2 =>
              bif !r2 then
                some (.inr (d, r1, false))
              else
                bif !y1 then
                  bif decide ((e.2.2.size : Int) > 0) then
                    some (.inr (d, r1, false))
                  else
                    some (.inl ((0 : Int), (0 : Int), (0 : Int), (0 : Int), (0 : Int), (0 : Int), (0 : Int), (⟨#[]⟩ : ByteArray)))
                else
                  some (.inl ((0 : Int), (0 : Int), (0 : Int), (0 : Int), (0 : Int), (0 : Int), (0 : Int), (⟨#[]⟩ : ByteArray)))
          else
            bif !y1 then
              bif decide ((e.2.2.size : Int) > 0) then
                some (.inr (d, r1, false))
              else
                some (.inl ((0 : Int), (0 : Int), (0 : Int), (0 : Int), (0 : Int), (0 : Int), (0 : Int), (⟨#[]⟩ : ByteArray)))
            else
              some (.inl ((0 : Int), (0 : Int), (0 : Int), (0 : Int), (0 : Int), (0 : Int), (0 : Int), (⟨#[]⟩ : ByteArray))) : Option ((Int × Int × Int × Int × Int × Int × Int × ByteArray) ⊕ ((Int × Int × Int × Int × Int × Int × Int × ByteArray) × List Int × Bool))).bind fun o => match o with
          | .inl y2 =>
            (bif y1 then
              (loop (Y := (Unit × List Int) ⊕ ((Unit × List Int) ⊕ ((Int × Int × Int × Int × Int × Int × Int × ByteArray) × List Int × Bool))) (fun (x3 : Int × List Int) =>
                bif decide (x3.1 < (e.2.2.size : Int)) then
                  bif decide (x3.1 < 128) then
                    let v2 := IntKind.wrap .u32 (IntKind.wrap .i64 ((IntKind.wrap .i64 ((IntKind.wrap .i64 d.2.2.2.2.2.2.1) * 128)) + x3.1))
                    if 0 ≤ x3.1 ∧ x3.1 < (e.2.2.size : Int) then
                      let v3 := IntKind.wrap .u32 (8 * (Int.tmod v2 (4 : Int)))
                      let v4 := IntKind.wrap .u32 (Int.tdiv v2 (4 : Int))
                      let v5 := IntKind.wrap .u32 (Int.tdiv v2 (4 : Int))
                      if 0 ≤ v5 ∧ v5 < (x3.2.length : Int) then
                        if 0 ≤ v3 then
                          if 0 ≤ v3 then
                            if 0 ≤ v4 ∧ v4 < (x3.2.length : Int) then
                              some (.inl (IntKind.wrap .i64 (x3.1 + 1), (put x3.2 v4 (orI .u32 (andNotI .u32 (nth (0 : Int) x3.2 v5) (shlI .u32 (255 : Int) v3)) (shlI .u32 (andI .u32 (IntKind.wrap .u32 (bt e.2.2 x3.1)) (255 : Int)) v3)))))
                            else none
                          else none
                        else none
                      else none
                    else none
                  else
                    some (.inr (.inl ((), x3.2)))
                else
                  some (.inr (.inl ((), x3.2)))) ((0 : Int), r1)).bind fun o => match o with
              | .inl y4 =>
                some (.inl ((), y4.2))
              | .inr r => some r
            else
              some (.inl ((), r1)) : Option ((Unit × List Int) ⊕ ((Int × Int × Int × Int × Int × Int × Int × ByteArray) × List Int × Bool))).bind fun o => match o with
            | .inl y5 =>
              (bif decide (e.2.1 = 1) then
                some (.inl (d.1, d.2.1, d.2.2.1, (2 : Int), d.2.2.2.2))
              else
                some (.inl (d.1, d.2.1, d.2.2.1, (3 : Int), d.2.2.2.2)) : Option ((Int × Int × Int × Int × Int × Int × Int × ByteArray) ⊕ ((Int × Int × Int × Int × Int × Int × Int × ByteArray) × List Int × Bool))).bind fun o => match o with
              | .inl y6 =>
                some ((y6.1, y6.2.1, y6.2.2.1, y6.2.2.2.1, (0 : Int), (0 : Int), (0 : Int), (⟨#[]⟩ : ByteArray)), y5.2, true)
              | .inr r => some r
            | .inr r => some r
          | .inr r => some r
        | .inr r => some r
noncomputable def vmfleetref7_Complete.sp : FSpec := ⟨[(.st (.pair (.int .u32) (.pair (.int .u32) (.pair (.int .u32) (.pair (.int .i64) (.pair (.int .i64) (.pair (.int .u32) (.pair (.int .u32) .str)))))))), (.sl (.int .u32)), (.st (.pair (.int .i64) (.pair (.int .u32) .str)))], [(.st (.pair (.int .u32) (.pair (.int .u32) (.pair (.int .u32) (.pair (.int .i64) (.pair (.int .i64) (.pair (.int .u32) (.pair (.int .u32) .str)))))))), (.own (.int .u32)), .bool], fun x => vmfleetref7_Complete.f x.1 x.2.1 x.2.2⟩
noncomputable def vmfleetref7_Complete.env : Env := ⟨TYS, [(51, vmfleetref7_page.sp), (58, vmfleetref1_Copy.sp)], [(60, Go.Proofs.Try.f60), (64, Go.Proofs.Try.f64), (66, Go.Proofs.Try.f66)], [], [], [(60, ([], [(4, ⟨[1, 3, 5, 6, 7], [], [⟨8, false, .bool⟩], 0, none⟩), (6, ⟨[1, 3, 5, 8], [⟨6, true, (.st (.pair (.int .u32) (.pair (.int .u32) (.pair (.int .u32) (.pair (.int .i64) (.pair (.int .i64) (.pair (.int .u32) (.pair (.int .u32) .str))))))))⟩], [⟨6, true, (.st (.pair (.int .u32) (.pair (.int .u32) (.pair (.int .u32) (.pair (.int .i64) (.pair (.int .i64) (.pair (.int .u32) (.pair (.int .u32) .str))))))))⟩], 0, none⟩), (8, ⟨[3, 5, 6], [], [], 0, (some (1, (.int .u32)))⟩), (11, ⟨[6], [⟨3, true, (.st (.pair (.int .u32) (.pair (.int .u32) (.pair (.int .u32) (.pair (.int .i64) (.pair (.int .i64) (.pair (.int .u32) (.pair (.int .u32) .str))))))))⟩], [⟨3, true, (.st (.pair (.int .u32) (.pair (.int .u32) (.pair (.int .u32) (.pair (.int .i64) (.pair (.int .i64) (.pair (.int .u32) (.pair (.int .u32) .str))))))))⟩], 0, none⟩)])), (64, ([(1, ⟨[0, 1, 2], [⟨6, false, (.int .i64)⟩], [], 0, (some (0, (.int .u32)))⟩)], [])), (66, ([], []))]⟩
theorem vmfleetref7_Complete.eq (x) : fnEval vmfleetref7_Complete.env vmfleetref7_Complete.sp.args vmfleetref7_Complete.sp.res Go.Proofs.Try.f44 x = vmfleetref7_Complete.sp.f x := by kernel_rfl
theorem vmfleetref7_Complete.sound : Sound Try.prog 44 vmfleetref7_Complete.sp := Lift.sound (E := vmfleetref7_Complete.env) Try.func44 (by kernel_rfl) (env_ok TYS.ok mixed ⟨vmfleetref7_page.sound, vmfleetref1_Copy.sound, trivial⟩ ⟨inl_ok Try.func60 (by kernel_rfl), inl_ok Try.func64 (by kernel_rfl), inl_ok Try.func66 (by kernel_rfl), trivial⟩) (by kernel_rfl) vmfleetref7_Complete.eq

/-! vmfleet/vmfleetref7.DiskPending -/
noncomputable def vmfleetref7_DiskPending.f (d : Int × Int × Int × Int × Int × Int × Int × ByteArray) : Option Bool :=
  bif decide (d.2.2.2.1 = 2) then
    some true
  else
    some (decide (d.2.2.2.1 = 3))
noncomputable def vmfleetref7_DiskPending.sp : FSpec := ⟨[(.st (.pair (.int .u32) (.pair (.int .u32) (.pair (.int .u32) (.pair (.int .i64) (.pair (.int .i64) (.pair (.int .u32) (.pair (.int .u32) .str))))))))], [.bool], fun x => vmfleetref7_DiskPending.f x⟩
noncomputable def vmfleetref7_DiskPending.env : Env := ⟨TYS, [], [], [], [], []⟩
theorem vmfleetref7_DiskPending.eq (x) : fnEval vmfleetref7_DiskPending.env vmfleetref7_DiskPending.sp.args vmfleetref7_DiskPending.sp.res Go.Proofs.Try.f46 x = vmfleetref7_DiskPending.sp.f x := by kernel_rfl
theorem vmfleetref7_DiskPending.sound : Sound Try.prog 46 vmfleetref7_DiskPending.sp := Lift.sound (E := vmfleetref7_DiskPending.env) Try.func46 (by kernel_rfl) (env_ok TYS.ok mixed trivial trivial) (by kernel_rfl) vmfleetref7_DiskPending.eq

/-! vmfleet/disk.May -/
noncomputable def disk_May.f (d : Int × Int × Int × Int × Int × Int × Int × ByteArray) (pages : Int) : Option Bool :=
  bif decide (d.1 > 64) then
    some false
  else
    bif decide (d.2.2.2.1 < 0) then
      some false
    else
      bif decide (d.2.2.2.1 > 3) then
        some false
      else
        bif !decide (d.2.2.2.1 = 1) then
          bif decide (d.2.2.2.2.1 = 0) then
            bif decide (d.2.2.2.2.2.1 = 0) then
              bif decide (d.2.2.2.2.2.2.1 = 0) then
                some (decide (d.2.2.2.2.2.2.2 = (⟨#[]⟩ : ByteArray)))
              else
                some false
            else
              some false
          else
            some false
        else
          bif decide (d.2.2.2.2.2.1 ≥ d.1) then
            some false
          else
            bif (decide ((IntKind.wrap .i64 d.2.2.2.2.2.2.1) ≥ pages)) then
              some false
            else
              bif decide (d.2.2.2.2.1 = 1) then
                bif (decide (d.2.2.2.2.2.2.2 = (⟨#[]⟩ : ByteArray))) then
                  some true
                else
                  bif decide (d.2.2.2.2.1 = 2) then
                    some (decide ((d.2.2.2.2.2.2.2.size : Int) = 128))
                  else
                    some false
              else
                bif decide (d.2.2.2.2.1 = 2) then
                  some (decide ((d.2.2.2.2.2.2.2.size : Int) = 128))
                else
                  some false
noncomputable def disk_May.sp : FSpec := ⟨[(.st (.pair (.int .u32) (.pair (.int .u32) (.pair (.int .u32) (.pair (.int .i64) (.pair (.int .i64) (.pair (.int .u32) (.pair (.int .u32) .str)))))))), (.int .i64)], [.bool], fun x => disk_May.f x.1 x.2⟩
noncomputable def disk_May.env : Env := ⟨TYS, [], [], [], [], []⟩
theorem disk_May.eq (x) : fnEval disk_May.env disk_May.sp.args disk_May.sp.res Go.Proofs.Try.f47 x = disk_May.sp.f x := by kernel_rfl
theorem disk_May.sound : Sound Try.prog 47 disk_May.sp := Lift.sound (E := disk_May.env) Try.func47 (by kernel_rfl) (env_ok TYS.ok mixed trivial trivial) (by kernel_rfl) disk_May.eq

/-! vmfleet/vmfleetref7.DiskMay -/
noncomputable def vmfleetref7_DiskMay.f (d : Int × Int × Int × Int × Int × Int × Int × ByteArray) (pages : Int) : Option Bool :=
  bif decide (d.1 > 64) then
    some false
  else
    bif decide (d.2.2.2.1 < 0) then
      some false
    else
      bif decide (d.2.2.2.1 > 3) then
        some false
      else
        bif !decide (d.2.2.2.1 = 1) then
          bif decide (d.2.2.2.2.1 = 0) then
            bif decide (d.2.2.2.2.2.1 = 0) then
              bif decide (d.2.2.2.2.2.2.1 = 0) then
                some (decide (d.2.2.2.2.2.2.2 = (⟨#[]⟩ : ByteArray)))
              else
                some false
            else
              some false
          else
            some false
        else
          bif decide (d.2.2.2.2.2.1 ≥ d.1) then
            some false
          else
            bif (decide ((IntKind.wrap .i64 d.2.2.2.2.2.2.1) ≥ pages)) then
              some false
            else
              bif decide (d.2.2.2.2.1 = 1) then
                bif (decide (d.2.2.2.2.2.2.2 = (⟨#[]⟩ : ByteArray))) then
                  some true
                else
                  bif decide (d.2.2.2.2.1 = 2) then
                    some (decide ((d.2.2.2.2.2.2.2.size : Int) = 128))
                  else
                    some false
              else
                bif decide (d.2.2.2.2.1 = 2) then
                  some (decide ((d.2.2.2.2.2.2.2.size : Int) = 128))
                else
                  some false
noncomputable def vmfleetref7_DiskMay.sp : FSpec := ⟨[(.st (.pair (.int .u32) (.pair (.int .u32) (.pair (.int .u32) (.pair (.int .i64) (.pair (.int .i64) (.pair (.int .u32) (.pair (.int .u32) .str)))))))), (.int .i64)], [.bool], fun x => vmfleetref7_DiskMay.f x.1 x.2⟩
noncomputable def vmfleetref7_DiskMay.env : Env := ⟨TYS, [], [], [], [], []⟩
theorem vmfleetref7_DiskMay.eq (x) : fnEval vmfleetref7_DiskMay.env vmfleetref7_DiskMay.sp.args vmfleetref7_DiskMay.sp.res Go.Proofs.Try.f48 x = vmfleetref7_DiskMay.sp.f x := by kernel_rfl
theorem vmfleetref7_DiskMay.sound : Sound Try.prog 48 vmfleetref7_DiskMay.sp := Lift.sound (E := vmfleetref7_DiskMay.env) Try.func48 (by kernel_rfl) (env_ok TYS.ok mixed trivial trivial) (by kernel_rfl) vmfleetref7_DiskMay.eq

/-! vmfleet/vmfleetlaw9.DiskCompletes -/
noncomputable def vmfleetlaw9_DiskCompletes.f (d : Int × Int × Int × Int × Int × Int × Int × ByteArray) (raw : Bool) (n : Int) (pages : Int) (e : Int × Int × ByteArray) (made : Bool) : Option Bool :=
  (vmfleetlaw9_shaped.f d raw n).bind fun r1 =>
  (vmfleetlaw9_words.f n pages).bind fun r2 =>
  (bif made then
    (vmfleetmake_Event.f n).bind fun r3 =>
    some (.inl r3)
  else
    some (.inl e) : Option ((Int × Int × ByteArray) ⊕ (Bool))).bind fun o => match o with
  | .inl y1 =>
    bif decide ((y1.2.2.size : Int) > 300) then
      (vmfleetlaw9_awake.f).bind fun r4 =>
      some r4
    else
      (disk_Complete.f r1 r2 y1).bind fun r5 =>
      (vmfleetref7_Complete.f r1 r2 y1).bind fun r6 =>
      bif (eqD (Ty.decEq (.st (.pair (.int .u32) (.pair (.int .u32) (.pair (.int .u32) (.pair (.int .i64) (.pair (.int .i64) (.pair (.int .u32) (.pair (.int .u32) .str))))))))) r5.1 r6.1) then
        (vmfleetref1_SameWords.f r5.2.1 r6.2.1).bind fun r7 =>
        bif r7 then
          bif r5.2.2 == r6.2.2 then
            (disk_Pending.f r1).bind fun r8 =>
            (vmfleetref7_DiskPending.f r1).bind fun r9 =>
            bif r8 == r9 then
              (disk_May.f r1 pages).bind fun r10 =>
              (vmfleetref7_DiskMay.f r1 pages).bind fun r11 =>
              bif r10 == r11 then
                (vmfleetlaw9_awake.f).bind fun r12 =>
                some r12
              else
                some false
            else
              some false
          else
            some false
        else
          some false
      else
        some false
  | .inr r => some r
noncomputable def vmfleetlaw9_DiskCompletes.sp : FSpec := ⟨[(.st (.pair (.int .u32) (.pair (.int .u32) (.pair (.int .u32) (.pair (.int .i64) (.pair (.int .i64) (.pair (.int .u32) (.pair (.int .u32) .str)))))))), .bool, (.int .i64), (.int .i64), (.st (.pair (.int .i64) (.pair (.int .u32) .str))), .bool], [.bool], fun x => vmfleetlaw9_DiskCompletes.f x.1 x.2.1 x.2.2.1 x.2.2.2.1 x.2.2.2.2.1 x.2.2.2.2.2⟩
noncomputable def vmfleetlaw9_DiskCompletes.env : Env := ⟨TYS, [(12, vmfleetlaw9_shaped.sp), (13, vmfleetlaw9_words.sp), (22, vmfleetlaw9_awake.sp), (37, vmfleetref1_SameWords.sp), (42, disk_Complete.sp), (43, vmfleetmake_Event.sp), (44, vmfleetref7_Complete.sp), (45, disk_Pending.sp), (46, vmfleetref7_DiskPending.sp), (47, disk_May.sp), (48, vmfleetref7_DiskMay.sp)], [], [], [(5, ⟨[3, 6, 12, 13], [⟨10, true, (.st (.pair (.int .i64) (.pair (.int .u32) .str)))⟩], [⟨10, true, (.st (.pair (.int .i64) (.pair (.int .u32) .str)))⟩], 0, none⟩)], []⟩
theorem vmfleetlaw9_DiskCompletes.eq (x) : fnEval vmfleetlaw9_DiskCompletes.env vmfleetlaw9_DiskCompletes.sp.args vmfleetlaw9_DiskCompletes.sp.res Go.Proofs.Try.f10 x = vmfleetlaw9_DiskCompletes.sp.f x := by kernel_rfl
theorem vmfleetlaw9_DiskCompletes.sound : Sound Try.prog 10 vmfleetlaw9_DiskCompletes.sp := Lift.sound (E := vmfleetlaw9_DiskCompletes.env) Try.func10 (by kernel_rfl) (env_ok TYS.ok mixed ⟨vmfleetlaw9_shaped.sound, vmfleetlaw9_words.sound, vmfleetlaw9_awake.sound, vmfleetref1_SameWords.sound, disk_Complete.sound, vmfleetmake_Event.sound, vmfleetref7_Complete.sound, disk_Pending.sound, vmfleetref7_DiskPending.sound, disk_May.sound, vmfleetref7_DiskMay.sound, trivial⟩ trivial) (by kernel_rfl) vmfleetlaw9_DiskCompletes.eq

/-! vmfleet/vmfleetlaw9.DiskKeeps -/
noncomputable def vmfleetlaw9_DiskKeeps.f (d : Int × Int × Int × Int × Int × Int × Int × ByteArray) (raw : Bool) (n : Int) (pages : Int) (port : Int) (v : Int) : Option Bool :=
  (vmfleetlaw9_shaped.f d raw n).bind fun r1 =>
  (vmfleetlaw9_words.f n pages).bind fun r2 =>
  (vmfleetref1_Pages.f r2).bind fun r3 =>
  (disk_May.f r1 r3).bind fun r4 =>
  bif !r4 then
    (vmfleetlaw9_awake.f).bind fun r5 =>
    some r5
  else
    (vmfleetmake_Round.f port (5 : Int)).bind fun r6 =>
    (disk_Out.f r1 r2 (IntKind.wrap .i64 (3 + r6)) (Int.tmod v (9 : Int)) (0 : Int)).bind fun r7 =>
    (vmfleetmake_Event.f n).bind fun r8 =>
    (disk_Complete.f r1 r2 r8).bind fun r9 =>
    (disk_May.f r7.1 r3).bind fun r10 =>
    bif r10 then
      (disk_May.f r9.1 r3).bind fun r11 =>
      bif r11 then
        bif (decide ((r9.2.1.length : Int) = (r2.length : Int))) then
          (vmfleetlaw9_awake.f).bind fun r12 =>
          some r12
        else
          some false
      else
        some false
    else
      some false
noncomputable def vmfleetlaw9_DiskKeeps.sp : FSpec := ⟨[(.st (.pair (.int .u32) (.pair (.int .u32) (.pair (.int .u32) (.pair (.int .i64) (.pair (.int .i64) (.pair (.int .u32) (.pair (.int .u32) .str)))))))), .bool, (.int .i64), (.int .i64), (.int .i64), (.int .u32)], [.bool], fun x => vmfleetlaw9_DiskKeeps.f x.1 x.2.1 x.2.2.1 x.2.2.2.1 x.2.2.2.2.1 x.2.2.2.2.2⟩
noncomputable def vmfleetlaw9_DiskKeeps.env : Env := ⟨TYS, [(12, vmfleetlaw9_shaped.sp), (13, vmfleetlaw9_words.sp), (14, vmfleetmake_Round.sp), (15, disk_Out.sp), (22, vmfleetlaw9_awake.sp), (41, vmfleetref1_Pages.sp), (42, disk_Complete.sp), (43, vmfleetmake_Event.sp), (47, disk_May.sp)], [], [], [], []⟩
theorem vmfleetlaw9_DiskKeeps.eq (x) : fnEval vmfleetlaw9_DiskKeeps.env vmfleetlaw9_DiskKeeps.sp.args vmfleetlaw9_DiskKeeps.sp.res Go.Proofs.Try.f11 x = vmfleetlaw9_DiskKeeps.sp.f x := by kernel_rfl
theorem vmfleetlaw9_DiskKeeps.sound : Sound Try.prog 11 vmfleetlaw9_DiskKeeps.sp := Lift.sound (E := vmfleetlaw9_DiskKeeps.env) Try.func11 (by kernel_rfl) (env_ok TYS.ok mixed ⟨vmfleetlaw9_shaped.sound, vmfleetlaw9_words.sound, vmfleetmake_Round.sound, disk_Out.sound, vmfleetlaw9_awake.sound, vmfleetref1_Pages.sound, disk_Complete.sound, vmfleetmake_Event.sound, disk_May.sound, trivial⟩ trivial) (by kernel_rfl) vmfleetlaw9_DiskKeeps.eq

noncomputable def memory_text.g (fuel_ : Nat) (l : List Int) : Option ByteArray :=
  if 0 ≤ (0 : Int) ∧ (0 : Int) ≤ (IntKind.wrap .i64 (4 * (l.length : Int))) ∧ (IntKind.wrap .i64 (4 * (l.length : Int))) * ((1 : Nat) : Int) ≤ 70368744177664 then
    (loopF fuel_ (Y := (List Int) ⊕ (ByteArray)) (fun (x1 : List Int × Int) =>
      bif decide (x1.2 < (l.length : Int)) then
        if 0 ≤ x1.2 ∧ x1.2 < (l.length : Int) then
          let v1 := shrI .u32 (nth (0 : Int) l x1.2) (8 : Int)
          let v2 := shrI .u32 (nth (0 : Int) l x1.2) (16 : Int)
          let v3 := shrI .u32 (nth (0 : Int) l x1.2) (24 : Int)
          if (x1.1.length + ([IntKind.wrap .u8 (nth (0 : Int) l x1.2), IntKind.wrap .u8 v1, IntKind.wrap .u8 v2, IntKind.wrap .u8 v3] : List Int).length) * 1 ≤ 70368744177664 then
            some (.inl ((x1.1 ++ ([IntKind.wrap .u8 (nth (0 : Int) l x1.2), IntKind.wrap .u8 v1, IntKind.wrap .u8 v2, IntKind.wrap .u8 v3] : List Int)), IntKind.wrap .i64 (x1.2 + 1)))
          else none
        else none
      else
        some (.inr (.inl x1.1))) (List.replicate 0 (0 : Int), (0 : Int))).bind fun o => match o with
    | .inl y2 =>
      some (strOf y2)
    | .inr r => some r
  else none
theorem memory_text.mono (fuel_ : Nat) (l : List Int) : Le (memory_text.g fuel_ l) (memory_text.f l) := by
  unfold memory_text.g memory_text.f
  repeat' (first | with_reducible exact Le.refl _ | with_reducible refine Le.bind ?_ ?_ | with_reducible refine Le.cond ?_ ?_ | with_reducible refine Le.ite ?_ ?_ | with_reducible refine Le.bothD ?_ ?_ | with_reducible refine Le.loop ?_ _ | (intro o; rcases o with y | r <;> try dsimp only) | (intro _; show Le _ _) | dsimp only)
noncomputable def memory_Page.g (fuel_ : Nat) (m : List Int) (frame : Int) : Option (ByteArray × Bool) :=
  (memory_has.f m frame).bind fun r1 =>
  bif !r1 then
    some ((⟨#[]⟩ : ByteArray), false)
  else
    let v1 := IntKind.wrap .i64 ((IntKind.wrap .i64 (frame + 1)) * 32)
    if 0 ≤ (IntKind.wrap .i64 (frame * 32)) ∧ (IntKind.wrap .i64 (frame * 32)) ≤ v1 ∧ v1 ≤ (m.length : Int) then
      (memory_text.g fuel_ (slc m (IntKind.wrap .i64 (frame * 32)) v1)).bind fun r2 =>
      some (r2, true)
    else none
theorem memory_Page.mono (fuel_ : Nat) (m : List Int) (frame : Int) : Le (memory_Page.g fuel_ m frame) (memory_Page.f m frame) := by
  unfold memory_Page.g memory_Page.f
  repeat' (first | with_reducible exact Le.refl _ | with_reducible exact memory_text.mono _ _ | with_reducible refine Le.bind ?_ ?_ | with_reducible refine Le.cond ?_ ?_ | with_reducible refine Le.ite ?_ ?_ | with_reducible refine Le.bothD ?_ ?_ | with_reducible refine Le.loop ?_ _ | (intro o; rcases o with y | r <;> try dsimp only) | (intro _; show Le _ _) | dsimp only)
noncomputable def disk_command.g (fuel_ : Nat) (d : Int × Int × Int × Int × Int × Int × Int × ByteArray) (m : List Int) (v : Int) (at_ : Int) : Option ((Int × Int × Int × Int × Int × Int × Int × ByteArray) × List (Int × Int × Int × ByteArray)) :=
  (bif decide (v = 0) then
    (disk_Pending.f d).bind fun r1 =>
    bif r1 then
      some (.inr ((d.1, d.2.1, d.2.2.1, (0 : Int), d.2.2.2.2), []))
    else
      some (.inr (d, []))
  else
    bif decide (v = 1) then
      some (.inl (d, (0 : Int), (0 : Int), (0 : Int), (0 : Int), (0 : Int), (0 : Int), (0 : Int), (⟨#[]⟩ : ByteArray)))
    else
      bif decide (v = 2) then
        some (.inl (d, (0 : Int), (0 : Int), (0 : Int), (0 : Int), (0 : Int), (0 : Int), (0 : Int), (⟨#[]⟩ : ByteArray)))
      else
        some (.inr (d, [])) : Option (((Int × Int × Int × Int × Int × Int × Int × ByteArray) × Int × Int × Int × Int × Int × Int × Int × ByteArray) ⊕ ((Int × Int × Int × Int × Int × Int × Int × ByteArray) × List (Int × Int × Int × ByteArray)))).bind fun o => match o with
  | .inl y1 =>
    bif !decide (y1.1.2.2.2.1 = 0) then
      some (y1.1, [])
    else
      (memory_Page.g fuel_ m (IntKind.wrap .i64 y1.1.2.2.1)).bind fun r2 =>
      bif decide (y1.1.2.1 ≥ y1.1.1) then
        some ((y1.1.1, y1.1.2.1, y1.1.2.2.1, (3 : Int), y1.1.2.2.2.2), [])
      else
        bif !r2.2 then
          some ((y1.1.1, y1.1.2.1, y1.1.2.2.1, (3 : Int), y1.1.2.2.2.2), [])
        else
          (bif decide (v = 2) then
            some (.inl (y1.1.1, y1.1.2.1, y1.1.2.2.1, (1 : Int), IntKind.wrap .i64 v, y1.1.2.1, y1.1.2.2.1, r2.1))
          else
            some (.inl (y1.1.1, y1.1.2.1, y1.1.2.2.1, (1 : Int), IntKind.wrap .i64 v, y1.1.2.1, y1.1.2.2.1, (⟨#[]⟩ : ByteArray))) : Option ((Int × Int × Int × Int × Int × Int × Int × ByteArray) ⊕ ((Int × Int × Int × Int × Int × Int × Int × ByteArray) × List (Int × Int × Int × ByteArray)))).bind fun o => match o with
          | .inl y2 =>
            (disk_Request.f y2 at_).bind fun r3 =>
            some (y2, ([r3.1] : List (Int × Int × Int × ByteArray)))
          | .inr r => some r
  | .inr r => some r
theorem disk_command.mono (fuel_ : Nat) (d : Int × Int × Int × Int × Int × Int × Int × ByteArray) (m : List Int) (v : Int) (at_ : Int) : Le (disk_command.g fuel_ d m v at_) (disk_command.f d m v at_) := by
  unfold disk_command.g disk_command.f
  repeat' (first | with_reducible exact Le.refl _ | with_reducible exact memory_Page.mono _ _ _ | with_reducible refine Le.bind ?_ ?_ | with_reducible refine Le.cond ?_ ?_ | with_reducible refine Le.ite ?_ ?_ | with_reducible refine Le.bothD ?_ ?_ | with_reducible refine Le.loop ?_ _ | (intro o; rcases o with y | r <;> try dsimp only) | (intro _; show Le _ _) | dsimp only)
noncomputable def disk_Out.g (fuel_ : Nat) (d : Int × Int × Int × Int × Int × Int × Int × ByteArray) (m : List Int) (port : Int) (v : Int) (at_ : Int) : Option ((Int × Int × Int × Int × Int × Int × Int × ByteArray) × List (Int × Int × Int × ByteArray)) :=
  bif decide (port = 4) then
    some ((d.1, v, d.2.2), [])
  else
    bif decide (port = 5) then
      some ((d.1, d.2.1, v, d.2.2.2), [])
    else
      bif decide (port = 6) then
        (disk_command.g fuel_ d m v at_).bind fun r1 =>
        some r1
      else
        some (d, [])
theorem disk_Out.mono (fuel_ : Nat) (d : Int × Int × Int × Int × Int × Int × Int × ByteArray) (m : List Int) (port : Int) (v : Int) (at_ : Int) : Le (disk_Out.g fuel_ d m port v at_) (disk_Out.f d m port v at_) := by
  unfold disk_Out.g disk_Out.f
  repeat' (first | with_reducible exact Le.refl _ | with_reducible exact disk_command.mono _ _ _ _ _ | with_reducible refine Le.bind ?_ ?_ | with_reducible refine Le.cond ?_ ?_ | with_reducible refine Le.ite ?_ ?_ | with_reducible refine Le.bothD ?_ ?_ | with_reducible refine Le.loop ?_ _ | (intro o; rcases o with y | r <;> try dsimp only) | (intro _; show Le _ _) | dsimp only)
noncomputable def vmfleetlaw9_awake.g (fuel_ : Nat)  : Option Bool :=
  (vmfleetref1_New.f (1 : Int)).bind fun r1 =>
  (disk_Out.g fuel_ ((64 : Int), (64 : Int), (0 : Int), (0 : Int), (0 : Int), (0 : Int), (0 : Int), (⟨#[]⟩ : ByteArray)) r1 (6 : Int) (2 : Int) (0 : Int)).bind fun r2 =>
  (vmfleetref1_New.f (1 : Int)).bind fun r3 =>
  (disk_Out.g fuel_ ((64 : Int), (63 : Int), (0 : Int), (0 : Int), (0 : Int), (0 : Int), (0 : Int), (⟨#[]⟩ : ByteArray)) r3 (6 : Int) (1 : Int) (7 : Int)).bind fun r4 =>
  bif decide (r2.1.2.2.2.1 = 3) then
    bif decide ((r2.2.length : Int) = 0) then
      bif decide (r4.1.2.2.2.1 = 1) then
        bif decide ((r4.2.length : Int) = 1) then
          if 0 ≤ (0 : Int) ∧ (0 : Int) < (r4.2.length : Int) then
            some (decide (((nth ((0 : Int), (0 : Int), (0 : Int), (⟨#[]⟩ : ByteArray)) r4.2 (0 : Int)).1, ((nth ((0 : Int), (0 : Int), (0 : Int), (⟨#[]⟩ : ByteArray)) r4.2 (0 : Int)).2).1, (((nth ((0 : Int), (0 : Int), (0 : Int), (⟨#[]⟩ : ByteArray)) r4.2 (0 : Int)).2).2)) = ((3 : Int), (7 : Int), (63 : Int), (⟨#[]⟩ : ByteArray))))
          else none
        else
          some false
      else
        some false
    else
      some false
  else
    some false
theorem vmfleetlaw9_awake.mono (fuel_ : Nat)  : Le (vmfleetlaw9_awake.g fuel_) (vmfleetlaw9_awake.f) := by
  unfold vmfleetlaw9_awake.g vmfleetlaw9_awake.f
  repeat' (first | with_reducible exact Le.refl _ | with_reducible exact disk_Out.mono _ _ _ _ _ _ | with_reducible refine Le.bind ?_ ?_ | with_reducible refine Le.cond ?_ ?_ | with_reducible refine Le.ite ?_ ?_ | with_reducible refine Le.bothD ?_ ?_ | with_reducible refine Le.loop ?_ _ | (intro o; rcases o with y | r <;> try dsimp only) | (intro _; show Le _ _) | dsimp only)
theorem vmfleetlaw9_awake.ok : vmfleetlaw9_awake.f = some true := vmfleetlaw9_awake.mono 5000 true (by kernel_rfl)
noncomputable def nic_command.g (fuel_ : Nat) (n : Int × Int × Bool × Int × Bool × Int) (m : List Int) (v : Int) (at_ : Int) : Option ((Int × Int × Bool × Int × Bool × Int) × List (Int × Int × Int × ByteArray)) :=
  (memory_Page.g fuel_ m (IntKind.wrap .i64 n.1)).bind fun r1 =>
  bif decide (v = 0) then
    some ((n.1, n.2.1, n.2.2.1, n.2.2.2.1, false, (0 : Int)), [])
  else
    bif decide (v = 1) then
      (bif r1.2 then
        bif decide (n.2.1 ≥ 1) then
          some (.inl (decide (n.2.1 ≤ 128)))
        else
          some (.inl false)
      else
        some (.inl false) : Option ((Bool) ⊕ ((Int × Int × Bool × Int × Bool × Int) × List (Int × Int × Int × ByteArray)))).bind fun o => match o with
      | .inl y1 =>
        bif y1 then
          if 0 ≤ n.2.1 ∧ n.2.1 ≤ (r1.1.size : Int) then
            some (n, ([((2 : Int), at_, (0 : Int), cut r1.1 (0 : Int) n.2.1)] : List (Int × Int × Int × ByteArray)))
          else none
        else
          some (n, [])
      | .inr r => some r
    else
      bif decide (v = 2) then
        (bif r1.2 then
          bif !n.2.2.1 then
            some (.inl (!n.2.2.2.2.1))
          else
            some (.inl false)
        else
          some (.inl false) : Option ((Bool) ⊕ ((Int × Int × Bool × Int × Bool × Int) × List (Int × Int × Int × ByteArray)))).bind fun o => match o with
        | .inl y2 =>
          bif y2 then
            some ((n.1, n.2.1, true, n.1, n.2.2.2.2), [])
          else
            some (n, [])
        | .inr r => some r
      else
        some (n, [])
theorem nic_command.mono (fuel_ : Nat) (n : Int × Int × Bool × Int × Bool × Int) (m : List Int) (v : Int) (at_ : Int) : Le (nic_command.g fuel_ n m v at_) (nic_command.f n m v at_) := by
  unfold nic_command.g nic_command.f
  repeat' (first | with_reducible exact Le.refl _ | with_reducible exact memory_Page.mono _ _ _ | with_reducible refine Le.bind ?_ ?_ | with_reducible refine Le.cond ?_ ?_ | with_reducible refine Le.ite ?_ ?_ | with_reducible refine Le.bothD ?_ ?_ | with_reducible refine Le.loop ?_ _ | (intro o; rcases o with y | r <;> try dsimp only) | (intro _; show Le _ _) | dsimp only)
noncomputable def nic_Out.g (fuel_ : Nat) (n : Int × Int × Bool × Int × Bool × Int) (m : List Int) (port : Int) (v : Int) (at_ : Int) : Option ((Int × Int × Bool × Int × Bool × Int) × List (Int × Int × Int × ByteArray)) :=
  bif decide (port = 7) then
    some ((v, n.2), [])
  else
    bif decide (port = 8) then
      some ((n.1, v, n.2.2), [])
    else
      bif decide (port = 9) then
        (nic_command.g fuel_ n m v at_).bind fun r1 =>
        some r1
      else
        some (n, [])
theorem nic_Out.mono (fuel_ : Nat) (n : Int × Int × Bool × Int × Bool × Int) (m : List Int) (port : Int) (v : Int) (at_ : Int) : Le (nic_Out.g fuel_ n m port v at_) (nic_Out.f n m port v at_) := by
  unfold nic_Out.g nic_Out.f
  repeat' (first | with_reducible exact Le.refl _ | with_reducible exact nic_command.mono _ _ _ _ _ | with_reducible refine Le.bind ?_ ?_ | with_reducible refine Le.cond ?_ ?_ | with_reducible refine Le.ite ?_ ?_ | with_reducible refine Le.bothD ?_ ?_ | with_reducible refine Le.loop ?_ _ | (intro o; rcases o with y | r <;> try dsimp only) | (intro _; show Le _ _) | dsimp only)
noncomputable def slices_Clone_uint32_uint32.g (fuel_ : Nat) (s : List Int) : Option (List Int) :=
  bif s.isEmpty then
    bothD
      (some [])
      (if (([] : List Int).length + s.length) * 4 ≤ 70368744177664 then
        some (([] : List Int) ++ s)
      else none)
  else
    if (([] : List Int).length + s.length) * 4 ≤ 70368744177664 then
      some (([] : List Int) ++ s)
    else none
theorem slices_Clone_uint32_uint32.mono (fuel_ : Nat) (s : List Int) : Le (slices_Clone_uint32_uint32.g fuel_ s) (slices_Clone_uint32_uint32.f s) := by
  unfold slices_Clone_uint32_uint32.g slices_Clone_uint32_uint32.f
  repeat' (first | with_reducible exact Le.refl _ | with_reducible refine Le.bind ?_ ?_ | with_reducible refine Le.cond ?_ ?_ | with_reducible refine Le.ite ?_ ?_ | with_reducible refine Le.bothD ?_ ?_ | with_reducible refine Le.loop ?_ _ | (intro o; rcases o with y | r <;> try dsimp only) | (intro _; show Le _ _) | dsimp only)
noncomputable def memory_SetPage.g (fuel_ : Nat) (m : List Int) (frame : Int) (s : ByteArray) : Option (List Int × Bool) :=
  (memory_clone.f m).bind fun r1 =>
  (memory_has.f m frame).bind fun r2 =>
  bif !r2 then
    some (r1, false)
  else
    bif !decide ((s.size : Int) = 128) then
      some (r1, false)
    else
      (loopF fuel_ (Y := (List Int) ⊕ (List Int × Bool)) (fun (x1 : List Int × Int) =>
        bif decide (x1.2 < 32) then
          let v1 := IntKind.wrap .i64 ((IntKind.wrap .i64 (frame * 32)) + x1.2)
          if 0 ≤ (IntKind.wrap .i64 (4 * x1.2)) ∧ (IntKind.wrap .i64 (4 * x1.2)) < (s.size : Int) then
            let v3 := IntKind.wrap .i64 ((IntKind.wrap .i64 (4 * x1.2)) + 1)
            if 0 ≤ v3 ∧ v3 < (s.size : Int) then
              let v5 := IntKind.wrap .i64 ((IntKind.wrap .i64 (4 * x1.2)) + 2)
              if 0 ≤ v5 ∧ v5 < (s.size : Int) then
                let v7 := IntKind.wrap .i64 ((IntKind.wrap .i64 (4 * x1.2)) + 3)
                if 0 ≤ v7 ∧ v7 < (s.size : Int) then
                  if 0 ≤ v1 ∧ v1 < (x1.1.length : Int) then
                    some (.inl (put x1.1 v1 (orI .u32 (orI .u32 (orI .u32 (IntKind.wrap .u32 (bt s (IntKind.wrap .i64 (4 * x1.2)))) (shlI .u32 (IntKind.wrap .u32 (bt s v3)) (8 : Int))) (shlI .u32 (IntKind.wrap .u32 (bt s v5)) (16 : Int))) (shlI .u32 (IntKind.wrap .u32 (bt s v7)) (24 : Int))), IntKind.wrap .i64 (x1.2 + 1)))
                  else none
                else none
              else none
            else none
          else none
        else
          some (.inr (.inl x1.1))) (r1, (0 : Int))).bind fun o => match o with
      | .inl y2 =>
        some (y2, true)
      | .inr r => some r
theorem memory_SetPage.mono (fuel_ : Nat) (m : List Int) (frame : Int) (s : ByteArray) : Le (memory_SetPage.g fuel_ m frame s) (memory_SetPage.f m frame s) := by
  unfold memory_SetPage.g memory_SetPage.f
  repeat' (first | with_reducible exact Le.refl _ | with_reducible refine Le.bind ?_ ?_ | with_reducible refine Le.cond ?_ ?_ | with_reducible refine Le.ite ?_ ?_ | with_reducible refine Le.bothD ?_ ?_ | with_reducible refine Le.loop ?_ _ | (intro o; rcases o with y | r <;> try dsimp only) | (intro _; show Le _ _) | dsimp only)
noncomputable def nic_Receive.g (fuel_ : Nat) (n : Int × Int × Bool × Int × Bool × Int) (m : List Int) (frame : ByteArray) : Option ((Int × Int × Bool × Int × Bool × Int) × List Int × Bool) :=
  (memory_Page.g fuel_ m (IntKind.wrap .i64 n.2.2.2.1)).bind fun r1 =>
  (bif !n.2.2.1 then
    some (.inl true)
  else
    bif decide (frame = (⟨#[]⟩ : ByteArray)) then
      some (.inl true)
    else
      bif decide ((frame.size : Int) > 128) then
        some (.inl true)
      else
        some (.inl (!r1.2)) : Option ((Bool) ⊕ ((Int × Int × Bool × Int × Bool × Int) × List Int × Bool))).bind fun o => match o with
  | .inl y1 =>
    bif y1 then
      (slices_Clone_uint32_uint32.g fuel_ m).bind fun r2 =>
      some (n, r2, false)
    else
      if 0 ≤ (frame.size : Int) ∧ (frame.size : Int) ≤ (r1.1.size : Int) then
        if frame.size + (cut r1.1 (frame.size : Int) (r1.1.size : Int)).size ≤ 9223372036854775807 then
          (memory_SetPage.g fuel_ m (IntKind.wrap .i64 n.2.2.2.1) (frame ++ (cut r1.1 (frame.size : Int) (r1.1.size : Int)))).bind fun r3 =>
          some ((n.1, n.2.1, false, (0 : Int), true, IntKind.wrap .u32 (frame.size : Int)), r3.1, true)
        else none
      else none
  | .inr r => some r
theorem nic_Receive.mono (fuel_ : Nat) (n : Int × Int × Bool × Int × Bool × Int) (m : List Int) (frame : ByteArray) : Le (nic_Receive.g fuel_ n m frame) (nic_Receive.f n m frame) := by
  unfold nic_Receive.g nic_Receive.f
  repeat' (first | with_reducible exact Le.refl _ | with_reducible exact memory_Page.mono _ _ _ | with_reducible exact slices_Clone_uint32_uint32.mono _ _ | with_reducible exact memory_SetPage.mono _ _ _ _ | with_reducible refine Le.bind ?_ ?_ | with_reducible refine Le.cond ?_ ?_ | with_reducible refine Le.ite ?_ ?_ | with_reducible refine Le.bothD ?_ ?_ | with_reducible refine Le.loop ?_ _ | (intro o; rcases o with y | r <;> try dsimp only) | (intro _; show Le _ _) | dsimp only)
noncomputable def vmfleetlaw10_awake.g (fuel_ : Nat)  : Option Bool :=
  (vmfleetref1_New.f (2 : Int)).bind fun r1 =>
  (nic_Out.g fuel_ ((1 : Int), (0 : Int), false, (0 : Int), false, (0 : Int)) r1 (9 : Int) (2 : Int) (0 : Int)).bind fun r2 =>
  (vmfleetref1_New.f (2 : Int)).bind fun r3 =>
  (nic_Receive.g fuel_ r2.1 r3 (⟨#[97, 98, 99]⟩ : ByteArray)).bind fun r4 =>
  bif r4.2.2 then
    (nic_In.f r4.1 (8 : Int)).bind fun r5 =>
    bif decide (r5 = 3) then
      (nic_In.f r4.1 (9 : Int)).bind fun r6 =>
      bif decide (r6 = 2) then
        (nic_Pending.f r4.1).bind fun r7 =>
        bif r7 then
          bif decide ((r4.2.1.length : Int) = 64) then
            if 0 ≤ (32 : Int) ∧ (32 : Int) < (r4.2.1.length : Int) then
              some (decide ((nth (0 : Int) r4.2.1 (32 : Int)) = 6513249))
            else none
          else
            some false
        else
          some false
      else
        some false
    else
      some false
  else
    some false
theorem vmfleetlaw10_awake.mono (fuel_ : Nat)  : Le (vmfleetlaw10_awake.g fuel_) (vmfleetlaw10_awake.f) := by
  unfold vmfleetlaw10_awake.g vmfleetlaw10_awake.f
  repeat' (first | with_reducible exact Le.refl _ | with_reducible exact nic_Out.mono _ _ _ _ _ _ | with_reducible exact nic_Receive.mono _ _ _ _ | with_reducible refine Le.bind ?_ ?_ | with_reducible refine Le.cond ?_ ?_ | with_reducible refine Le.ite ?_ ?_ | with_reducible refine Le.bothD ?_ ?_ | with_reducible refine Le.loop ?_ _ | (intro o; rcases o with y | r <;> try dsimp only) | (intro _; show Le _ _) | dsimp only)
theorem vmfleetlaw10_awake.ok : vmfleetlaw10_awake.f = some true := vmfleetlaw10_awake.mono 5000 true (by kernel_rfl)
end Go.Proofs.Yteiepkkkphkncaa.Fn
