/- strings.Repeat: what it computes, by the kit's contract for it. No condition but the specification's own bound. -/
import Derived.Test.YtklckjfafomlmaaLLaw
import Derived.Test.YtklckjfafomlmaaProg
import Derived.Test.YtklckjfafomlmaaShelf
namespace Go.Proofs.Ytklckjfafomlmaa.Fn
open Go Lift

def rep (s : ByteArray) (n : Nat) : ByteArray := ⟨(Lib.repeatL s.data.toList n).toArray⟩
def strings_Repeat.f (s : ByteArray) (n : Int) : Option ByteArray :=
  if 0 ≤ n ∧ n ≤ 9223372036854775807 ∧ s.size * n.toNat ≤ 140737488355328 then some (rep s n.toNat) else none
def strings_Repeat.sp : FSpec := ⟨[.str, .int .i64], [.str], fun x => strings_Repeat.f x.1 x.2⟩

theorem strings_Repeat.sound : Sound Try.prog 45 strings_Repeat.sp := by
  refine ⟨⟨_, Try.func45, by kernel_rfl, by kernel_rfl⟩, by decide, fun S w vals x y hS hargs hy => ?_⟩
  obtain ⟨v, us, hv, h1, u, hu, h2⟩ := hargs
  obtain ⟨s, n⟩ := x
  have h1 : [v] = [Value.string s] := h1
  have h2 : [u] = [Value.int .i64 n] := h2
  obtain rfl := List.singleton_inj.1 h1
  obtain rfl := List.singleton_inj.1 h2
  subst hu
  have hvals : vals = #[.string s, .int .i64 n] := by
    rw [← Array.toArray_toList (xs := vals), hv]
  have hy : strings_Repeat.f s n = some y := hy
  unfold strings_Repeat.f at hy
  split at hy
  case isFalse => cases hy
  rename_i hc
  cases hy
  obtain ⟨c, rfl⟩ := Int.eq_ofNat_of_zero_le hc.1
  rw [Int.toNat_natCast] at hc
  have h := Any.strings_Repeat laysRepeat extra s c w (by omega) hc.2.2
  rw [fRepeat] at h
  subst hvals
  refine h.mono fun e w' ⟨he, hb⟩ => ⟨[.string (rep s c)], [], ?_, hb, by simp [rows], by simp [rows], ?_⟩
  · rw [he]; rfl
  · exact ⟨_, rfl, rfl, rfl⟩

end Go.Proofs.Ytklckjfafomlmaa.Fn
