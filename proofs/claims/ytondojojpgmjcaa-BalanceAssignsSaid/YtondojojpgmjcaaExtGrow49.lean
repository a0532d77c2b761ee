/- slices.Grow of the nil slice: what it computes, by the kit's contract for it. -/
import Derived.Test.YtondojojpgmjcaaLLaw
import Derived.Test.YtondojojpgmjcaaProg
import Derived.Test.YtondojojpgmjcaaShelf49
namespace Go.Proofs.Ytondojojpgmjcaa.Fn
open Go Go.RowKit Lift

def slices_Grow_api_Demand_api_Demand.f (n : Int) : Option (List (Int × Int × Int × Int)) :=
  if 0 ≤ n ∧ n ≤ 4611686018427387904 ∧ n.toNat * 32 ≤ 140737488355328 then some [] else none
def slices_Grow_api_Demand_api_Demand.sp : FSpec := ⟨[.int .i64], [.own (.st (.pair (.int .i64) (.pair (.int .i64) (.pair (.int .i64) (.int .i64)))))], fun x => slices_Grow_api_Demand_api_Demand.f x⟩

theorem slices_Grow_api_Demand_api_Demand.sound : SoundN Try.prog 49 slices_Grow_api_Demand_api_Demand.sp := by
  refine ⟨⟨_, Try.func49, by kernel_rfl, by kernel_rfl⟩, by decide, fun S w vals x y hS hargs hy => ?_⟩
  obtain ⟨u, hu, h2⟩ := hargs
  have h2 : [u] = [Value.int .i64 x] := h2
  obtain rfl := List.singleton_inj.1 h2
  have hvals : vals = #[.int .i64 x] := by rw [← Array.toArray_toList (xs := vals), hu]
  subst hvals
  have hy : slices_Grow_api_Demand_api_Demand.f x = some y := hy
  unfold slices_Grow_api_Demand_api_Demand.f at hy
  split at hy
  case isFalse => cases hy
  rename_i hc
  cases hy
  obtain ⟨n, rfl⟩ := Int.eq_ofNat_of_zero_le hc.1
  rw [Int.toNat_natCast] at hc
  have hty : TyOk Try.prog ((.st (.pair (.int .i64) (.pair (.int .i64) (.pair (.int .i64) (.int .i64))))) : Ty) 43 := ⟨40, by kernel_rfl⟩
  obtain ⟨i, hi⟩ := hty.info
  obtain ⟨z, hz, hz0⟩ := hi.zeroE (w := w) (A := fun _ => False)
  have hzl : z.cells.size = ((.st (.pair (.int .i64) (.pair (.int .i64) (.pair (.int .i64) (.int .i64))))) : Ty).size := by have := hz0.length; simpa using this
  have hib : i.bytes = 32 := by
    have h1 := hi.info
    have h2 : (Try.prog.info? 43).map (·.bytes) = some 32 := by kernel_rfl
    rw [h1] at h2
    exact Option.some.inj h2
  by_cases h0 : n = 0
  · subst h0
    have h := Any8.slices_Grow_room grow_49 none 0 0 0 w (Nat.le_refl 0) (by decide) (by decide) (by decide)
    rw [fGrow_49] at h
    refine h.mono fun e w' ⟨he, hw⟩ => ⟨[.slice none 0 0], [⟨none, 0, 0, ((.st (.pair (.int .i64) (.pair (.int .i64) (.pair (.int .i64) (.int .i64))))) : Ty).size⟩], by rw [he]; rfl, by rw [hw]; exact Below.refl _ _, by simp [rows], by simp [rows], ?_⟩
    exact ⟨_, rfl, ⟨none, 0, 0, ((.st (.pair (.int .i64) (.pair (.int .i64) (.pair (.int .i64) (.int .i64))))) : Ty).size⟩, rfl, rfl, rfl, rfl, Nat.le_refl 0, .inl ⟨rfl, rfl, rfl⟩⟩
  · have h := Any8.slices_Grow_grow grow_49 i z (by rw [tGrow_49]; exact hi.info) hz (by rw [hi.size]; exact hi.pos) none 0 0 n [] w (Nat.le_refl 0) (by omega) (by rw [hib, Nat.zero_add]; exact hc.2.2) (by omega) (by simp) (fun _ => rfl) (fun a ha => by cases ha)
    rw [fGrow_49] at h
    refine h.mono fun e w' ⟨he, hw⟩ => ?_
    have hcap := grownCap_ge w (0 + n) 0 (grow_49_ren.t 25)
    generalize grownCap w (0 + n) 0 (grow_49_ren.t 25) = cap at he hw hcap
    have hheap : w'.heap = w.heap.push (.cells ((#[] : Array Value) ++ Builtin.zeroCells z.cells (0 + n - 0) ++ Builtin.zeroCells z.cells (cap - (0 + n))) (grow_49_ren.t 25) (0, 0)) := by rw [hw]; rfl
    have hcell : w'.heap[w.heap.size]? = some (.cells ((#[] : Array Value) ++ Builtin.zeroCells z.cells (0 + n - 0) ++ Builtin.zeroCells z.cells (cap - (0 + n))) (grow_49_ren.t 25) (0, 0)) := by
      rw [hheap]; exact Array.getElem?_push_size
    refine ⟨[.slice (some ⟨w.heap.size, 0, none⟩) 0 cap], [⟨some w.heap.size, 0, cap, ((.st (.pair (.int .i64) (.pair (.int .i64) (.pair (.int .i64) (.int .i64))))) : Ty).size⟩], by rw [he]; rfl, by rw [hw]; exact Below.alloc (Below.drew (Below.refl _ _)) (Nat.le_refl _) _, fun b hb => ?_, by simp [rows], ?_⟩
    · simp [rows] at hb
      subst hb
      rw [hheap, Array.size_push]
      omega
    · refine ⟨_, rfl, ⟨some w.heap.size, 0, cap, ((.st (.pair (.int .i64) (.pair (.int .i64) (.pair (.int .i64) (.int .i64))))) : Ty).size⟩, rfl, rfl, rfl, rfl, Nat.zero_le _, .inr ⟨w.heap.size, _, _, (0, 0), rfl, hcell, ?_, ?_, fun i x hi => by cases hi⟩⟩
      · intro o _; simp
      · simp only [Array.size_append, size_zeroCells, hzl]
        show 0 + (0 + n - 0) * ((.st (.pair (.int .i64) (.pair (.int .i64) (.pair (.int .i64) (.int .i64))))) : Ty).size + (cap - (0 + n)) * ((.st (.pair (.int .i64) (.pair (.int .i64) (.pair (.int .i64) (.int .i64))))) : Ty).size = cap * ((.st (.pair (.int .i64) (.pair (.int .i64) (.pair (.int .i64) (.int .i64))))) : Ty).size
        have : cap = n + (cap - (0 + n)) := by omega
        conv => rhs; rw [this]
        rw [Nat.add_mul]
        simp

end Go.Proofs.Ytondojojpgmjcaa.Fn
