/- 'Lift': what an operation's result hangs on: its operands, and the entries that these name. -/
import Derived.Test.YtacmfiddaklkiabLMem6
set_option linter.unusedVariables false
set_option linter.unusedSimpArgs false
namespace Go.Proofs.Ytacmfiddaklkiab.Lift
open Go Go.RowKit

section
variable {ρ : Type} {E : Env} {T T' : Tab}

/-! ### What goes on behind does not matter -/
theorem binK_bind {t : Nat} {op : BinOp} {x y : Val} {K : Val → Option ρ} : binK E T t op x y K = (binK E T t op x y some).bind K := by
  unfold binK
  repeat' (first | rfl | split)
  all_goals (cases List.isEmpty _ <;> rfl)

theorem unK_bind {op : UnOp} {x : Val} {K : Val → Option ρ} : unK op x K = (unK op x some).bind K := by
  unfold unK
  repeat' (first | rfl | split)

theorem pickK_bind {c x y : Val} {K : Val → Option ρ} : pickK c x y K = (pickK c x y some).bind K := by
  unfold pickK
  split
  · rename_i b
    split
    · rfl
    · split <;> rfl
    · cases b <;> rfl
  · rfl

theorem convK_bind {nm s d : Nat} {x : Val} {K : Val → List (Nat × Option Entry) → Option ρ} : convK E T nm s d x K = (convK E T nm s d x fun v u => some (v, u)).bind fun p => K p.1 p.2 := by
  unfold convK
  repeat' (first | rfl | split)

theorem addrK_bind {t f : Nat} {x : Val} {K : Val → Option ρ} : addrK E T t x f K = (addrK E T t x f some).bind K := by
  unfold addrK
  repeat' (first | rfl | split)

theorem loadK_bind {t : Nat} {x : Val} {K : Val → Option ρ} : loadK E T t x K = (loadK E T t x some).bind K := by
  unfold loadK
  dsimp only
  repeat' (first | rfl | split)

theorem storeK_bind {t : Nat} {a x : Val} {K : Val → List (Nat × Option Entry) → Option ρ} : storeK E T t a x K = (storeK E T t a x fun v u => some (v, u)).bind fun p => K p.1 p.2 := by
  unfold storeK
  repeat' (first | rfl | split)

theorem indexAddrK_bind {t : Nat} {x i : Val} {K : Val → Option ρ} : indexAddrK E T t x i K = (indexAddrK E T t x i some).bind K := by
  unfold indexAddrK rangeK
  repeat' (first | rfl | split)

theorem toV_some {τ : Ty} {x : τ.den} {K : Val → Option ρ} : K (toV τ x) = (some (toV τ x)).bind K := rfl

theorem indexK_bind {t : Nat} {x i : Val} {K : Val → Option ρ} : indexK E t x i K = (indexK E t x i some).bind K := by
  unfold indexK rangeK
  repeat' (first | rfl | split)

theorem sliceK_bind {t : Nat} {x : Val} {lo hi mx : Option Val} {K : Val → Option ρ} : sliceK E T t x lo hi mx K = (sliceK E T t x lo hi mx some).bind K := by
  unfold sliceK
  dsimp only
  repeat' (first | rfl | split)

theorem lenK_bind {t : Nat} {x : Val} {K : Val → Option ρ} : lenK E T t x K = (lenK E T t x some).bind K := by
  unfold lenK
  repeat' (first | rfl | split)

theorem appendK_bind {nm t t2 : Nat} {s x : Val} {K : Val → List (Nat × Option Entry) → Option ρ} : appendK E T nm t t2 s x K = (appendK E T nm t t2 s x fun v u => some (v, u)).bind fun p => K p.1 p.2 := by
  unfold appendK
  repeat' (first | rfl | split)

theorem copyK_bind {t : Nat} {s x : Val} {K : Val → List (Nat × Option Entry) → Option ρ} : copyK E T t s x K = (copyK E T t s x fun v u => some (v, u)).bind fun p => K p.1 p.2 := by
  unfold copyK
  repeat' (first | rfl | split)

theorem makeK_bind {nm t : Nat} {s x : Val} {K : Val → List (Nat × Option Entry) → Option ρ} : makeK E nm t s x K = (makeK E nm t s x fun v u => some (v, u)).bind fun p => K p.1 p.2 := by
  unfold makeK
  repeat' (first | rfl | split)

theorem minK_bind {m : Bool} {xs : List Val} {K : Val → Option ρ} : minK m xs K = (minK m xs some).bind K := by
  unfold minK
  repeat' (first | rfl | split)

theorem extractK_bind {j : Nat} {x : Val} {K : Val → Option ρ} : extractK x j K = (extractK x j some).bind K := by
  unfold extractK
  repeat' (first | rfl | split)

theorem callS_bind {s : FSpec} {nm : Nat} {vs : List Val} {K : Val → List (Nat × Option Entry) → Option ρ} : callS s T nm vs K = (callS s T nm vs fun v u => some (v, u)).bind fun p => K p.1 p.2 := by
  unfold callS
  split
  · rfl
  · split
    · rfl
    · rename_i x _
      cases s.f x <;> rfl

theorem callK_bind {nm f : Nat} {vs : List Val} {K : Val → List (Nat × Option Entry) → Option ρ} : callK E T nm f vs K = (callK E T nm f vs fun v u => some (v, u)).bind fun p => K p.1 p.2 := by
  unfold callK
  split
  · exact callS_bind
  · split
    · exact callS_bind
    · rfl

theorem opK_bind {nm : Nat} {ev : Operand → Val} {o : Op} {K : Val → List (Nat × Option Entry) → Option ρ} : opK E T nm ev o K = (opK E T nm ev o fun v u => some (v, u)).bind fun p => K p.1 p.2 := by
  have lift : ∀ {X : Option Val} {k : Option ρ}, k = X.bind (fun v => K v []) → k = (X.bind fun v => some (v, ([] : List (Nat × Option Entry)))).bind fun p => K p.1 p.2 := by
    intro X k h; rw [h]; cases X <;> rfl
  cases o <;> simp only [opK] <;> try (first | rfl | done)
  case pick => rw [pickK_bind (K := fun v => some (v, []))]; exact lift pickK_bind
  case alloc => split <;> rfl
  case box => split <;> (try rfl); split <;> rfl
  case build => (repeat' (first | rfl | split))
  case buildSlice => (repeat' (first | rfl | split))
  case load => rw [loadK_bind (K := fun v => some (v, []))]; exact lift loadK_bind
  case store => exact storeK_bind
  case nilCheck => (repeat' (first | rfl | split))
  case binOp => rw [binK_bind (K := fun v => some (v, []))]; exact lift binK_bind
  case unOp => rw [unK_bind (K := fun v => some (v, []))]; exact lift unK_bind
  case convert => exact convK_bind
  case makeSlice => exact makeK_bind
  case slice => rw [sliceK_bind (K := fun v => some (v, []))]; exact lift sliceK_bind
  case fieldAddr => rw [addrK_bind (K := fun v => some (v, []))]; exact lift addrK_bind
  case field => (repeat' (first | rfl | split))
  case indexAddr => rw [indexAddrK_bind (K := fun v => some (v, []))]; exact lift indexAddrK_bind
  case index => rw [indexK_bind (K := fun v => some (v, []))]; exact lift indexK_bind
  case extract => rw [extractK_bind (K := fun v => some (v, []))]; exact lift extractK_bind
  case call c =>
    split
    · split
      · rw [lenK_bind (K := fun v => some (v, []))]; exact lift lenK_bind
      · rfl
    · split
      · exact appendK_bind
      · rfl
    · split
      · exact copyK_bind
      · rfl
    · rw [minK_bind (K := fun v => some (v, []))]; exact lift minK_bind
    · rw [minK_bind (K := fun v => some (v, []))]; exact lift minK_bind
    · exact callK_bind
    · rfl
  case makeFunc => split <;> rfl

/-! ### What is looked at -/
theorem content_congr {e : Ty} {l : Leaf} (h : ∀ n ∈ leafNames l, T n = T' n) : content T e l = content T' e l := by
  cases l <;> simp only [content]
  case own n => rw [h n (by simp [leafNames])]
  case view n lo hi => rw [h n (by simp [leafNames])]

theorem ownContent_congr {e : Ty} {l : Leaf} (h : ∀ n ∈ leafNames l, T n = T' n) : ownContent T e l = ownContent T' e l := by
  cases l <;> simp only [ownContent]
  case own n => rw [h n (by simp [leafNames])]

theorem ofC_rest {τ : Ty} : ∀ {cs : List Leaf} {x : τ.den} {r : List Leaf}, ofC T τ cs = some (x, r) → ∀ n ∈ namesV r, n ∈ namesV cs := by
  induction τ with
  | pair a b iha ihb =>
    intro cs x r h
    simp only [ofC] at h
    obtain ⟨⟨xa, ra⟩, h1, h⟩ := Option.bind_eq_some_iff.1 h
    obtain ⟨⟨xb, rb⟩, h2, h⟩ := Option.bind_eq_some_iff.1 h
    cases h
    exact fun n hn => iha h1 n (ihb h2 n hn)
  | st t ih => intro cs x r h; exact ih (x := x) h
  | unit => intro cs x r h; simp [ofC] at h; subst h; exact fun n hn => hn
  | bool =>
    intro cs x r h
    cases cs with
    | nil => simp [ofC] at h
    | cons l cs => cases l <;> simp [ofC] at h; obtain ⟨_, rfl⟩ := h; exact fun n hn => by rw [namesV_cons]; exact List.mem_append_right _ hn
  | int k =>
    intro cs x r h
    cases cs with
    | nil => simp [ofC] at h
    | cons l cs => cases l <;> simp [ofC] at h; obtain ⟨_, _, rfl⟩ := h; exact fun n hn => by rw [namesV_cons]; exact List.mem_append_right _ hn
  | str =>
    intro cs x r h
    cases cs with
    | nil => simp [ofC] at h
    | cons l cs => cases l <;> simp [ofC] at h; obtain ⟨_, rfl⟩ := h; exact fun n hn => by rw [namesV_cons]; exact List.mem_append_right _ hn
  | sl e _ =>
    intro cs x r h
    cases cs with
    | nil => simp [ofC] at h
    | cons l cs =>
      simp only [ofC] at h
      obtain ⟨_, _, h⟩ := Option.map_eq_some_iff.1 h
      cases h
      exact fun n hn => by rw [namesV_cons]; exact List.mem_append_right _ hn
  | own e _ =>
    intro cs x r h
    cases cs with
    | nil => simp [ofC] at h
    | cons l cs =>
      simp only [ofC] at h
      obtain ⟨_, _, h⟩ := Option.map_eq_some_iff.1 h
      cases h
      exact fun n hn => by rw [namesV_cons]; exact List.mem_append_right _ hn
  | arr m e _ =>
    intro cs x r h
    cases cs with
    | nil => simp [ofC] at h
    | cons l cs =>
      cases l <;> simp only [ofC] at h <;> try (cases h; done)
      split at h
      · obtain ⟨_, _, h⟩ := Option.map_eq_some_iff.1 h
        cases h
        exact fun n hn => by rw [namesV_cons]; exact List.mem_append_right _ hn
      · cases h

theorem ofC_congr {τ : Ty} : ∀ {cs : List Leaf}, (∀ n ∈ namesV cs, T n = T' n) → ofC T τ cs = ofC T' τ cs := by
  induction τ with
  | pair a b iha ihb =>
    intro cs h
    simp only [ofC]
    rw [iha h]
    cases hx : ofC T' a cs with
    | none => rfl
    | some p =>
      simp only [Option.bind_some]
      rw [ihb fun n hn => h n (ofC_rest (T := T') (x := p.1) (r := p.2) hx n hn)]
  | st t ih => intro cs h; exact ih h
  | sl e _ =>
    intro cs h
    cases cs with
    | nil => rfl
    | cons l cs => simp only [ofC]; rw [content_congr fun n hn => h n (by rw [namesV_cons]; exact List.mem_append_left _ hn)]
  | own e _ =>
    intro cs h
    cases cs with
    | nil => rfl
    | cons l cs => simp only [ofC]; rw [ownContent_congr fun n hn => h n (by rw [namesV_cons]; exact List.mem_append_left _ hn)]
  | _ => intro cs h; rfl

theorem ofCs_congr {τ : Ty} {cs : List Leaf} (h : ∀ n ∈ namesV cs, T n = T' n) : ofCs T τ cs = ofCs T' τ cs := by
  unfold ofCs; rw [ofC_congr h]

theorem source_congr {e : Ty} {x : Val} (h : ∀ n ∈ namesOf x, T n = T' n) : source T e x = source T' e x := by
  unfold source
  split
  · rfl
  · exact content_congr fun n hn => h n (by simp only [namesOf]; rw [namesV_cons]; exact List.mem_append_left _ hn)
  · rfl

theorem binK_congr {t : Nat} {op : BinOp} {x y : Val} {K : Val → Option ρ} (hx : ∀ n ∈ namesOf x, T n = T' n) (hy : ∀ n ∈ namesOf y, T n = T' n) : binK E T t op x y K = binK E T' t op x y K := by
  unfold binK
  split
  · rfl
  · rfl
  · rfl
  · split
    · split
      · rw [ofCs_congr hx, ofCs_congr hy]
      · rfl
    · rfl
  · rfl
  · rfl

theorem convK_congr {nm s d : Nat} {x : Val} {K : Val → List (Nat × Option Entry) → Option ρ} (hx : ∀ n ∈ namesOf x, T n = T' n) : convK E T nm s d x K = convK E T' nm s d x K := by
  unfold convK
  split <;> try rfl
  rw [content_congr fun n hn => hx n (by simp only [namesOf]; rw [namesV_cons]; exact List.mem_append_left _ hn)]

theorem addrK_congr {t f : Nat} {x : Val} {K : Val → Option ρ} (hx : ∀ n ∈ namesOf x, T n = T' n) : addrK E T t x f K = addrK E T' t x f K := by
  unfold addrK
  split <;> try rfl
  split <;> try rfl
  split <;> first | rfl | rw [hx _ (by simp [namesOf, namesV])]

theorem loadK_congr {t : Nat} {x : Val} {K : Val → Option ρ} (hx : ∀ n ∈ namesOf x, T n = T' n) : loadK E T t x K = loadK E T' t x K := by
  unfold loadK
  split <;> try rfl
  dsimp only
  split <;> first | rfl | rw [hx _ (by simp [namesOf, namesV])]

theorem storeK_congr {t : Nat} {a x : Val} {K : Val → List (Nat × Option Entry) → Option ρ} (ha : ∀ n ∈ namesOf a, T n = T' n) (hx : ∀ n ∈ namesOf x, T n = T' n) : storeK E T t a x K = storeK E T' t a x K := by
  unfold storeK
  split <;> try rfl
  split <;> try rfl
  have hset : ∀ {e : Ty} {y : e.den} {inner n : Nat} {new cs' : List Leaf}, setC (toC e y) inner n new = some cs' → (∀ n ∈ namesV new, T n = T' n) → ofCs T e cs' = ofCs T' e cs' := by
    intro e y inner n new cs' hs hn
    refine ofCs_congr fun m hm => ?_
    rcases names_set hs m hm with hm | hm
    · rw [names_toC] at hm; cases hm
    · exact hn m hm
  split
  · rw [ha _ (by simp [namesOf, namesV])]
  · rw [ha _ (by simp [namesOf, namesV])]
    split <;> try rfl
    split <;> try rfl
    split <;> try rfl
    split <;> try rfl
    rename_i hs
    rw [hset hs hx]
  · rw [ha _ (by simp [namesOf, namesV])]
    split <;> try rfl
    split <;> try rfl
    split <;> try rfl
    rename_i hs
    rw [hset hs hx]
  · rfl

theorem indexAddrK_congr {t : Nat} {x i : Val} {K : Val → Option ρ} (hx : ∀ n ∈ namesOf x, T n = T' n) : indexAddrK E T t x i K = indexAddrK E T' t x i K := by
  unfold indexAddrK
  split <;> first | rfl | rw [hx _ (by simp [namesOf, namesV])]

theorem sliceK_congr {t : Nat} {x : Val} {lo hi mx : Option Val} {K : Val → Option ρ} (hx : ∀ n ∈ namesOf x, T n = T' n) : sliceK E T t x lo hi mx K = sliceK E T' t x lo hi mx K := by
  unfold sliceK
  split <;> try rfl
  dsimp only
  split <;> first | rfl | rw [hx _ (by simp [namesOf, namesV])]

theorem lenK_congr {t : Nat} {x : Val} {K : Val → Option ρ} (hx : ∀ n ∈ namesOf x, T n = T' n) : lenK E T t x K = lenK E T' t x K := by
  unfold lenK
  split <;> first | rfl | rw [hx _ (by simp [namesOf, namesV])]

theorem appendK_congr {nm t t2 : Nat} {s x : Val} {K : Val → List (Nat × Option Entry) → Option ρ} (hs : ∀ n ∈ namesOf s, T n = T' n) (hx : ∀ n ∈ namesOf x, T n = T' n) : appendK E T nm t t2 s x K = appendK E T' nm t t2 s x K := by
  unfold appendK
  split <;> try rfl
  rw [source_congr hx]
  split <;> try rfl
  split <;> first | rfl | rw [hs _ (by simp [namesOf, namesV])]

theorem copyK_congr {t : Nat} {s x : Val} {K : Val → List (Nat × Option Entry) → Option ρ} (hs : ∀ n ∈ namesOf s, T n = T' n) (hx : ∀ n ∈ namesOf x, T n = T' n) : copyK E T t s x K = copyK E T' t s x K := by
  unfold copyK
  split <;> try rfl
  rw [hs _ (by simp [namesOf, namesV]), source_congr hx]

theorem lk_names {α : Type} {f : α → Val} : ∀ {l : List (Nat × α)} {j : Nat} {v : Val}, lk (l.map fun p => (p.1, f p.2)) j = some v → ∃ p ∈ l, v = f p.2
  | [], _, _, h => by cases h
  | p :: l, j, v, h => by
    simp only [List.map_cons, lk] at h
    split at h
    · cases h; exact ⟨p, by simp, rfl⟩
    · obtain ⟨q, hq, e⟩ := lk_names h
      exact ⟨q, by simp [hq], e⟩

theorem elems_congr {e : Ty} {vals : List (Nat × Val)} (h : ∀ j v, lk vals j = some v → ∀ n ∈ namesOf v, T n = T' n) : ∀ n j, elems T e vals n j = elems T' e vals n j
  | 0, j => rfl
  | n + 1, j => by
    simp only [elems]
    split
    · rw [elems_congr h n]
    · rename_i ag cs hl
      split
      · rw [elems_congr h n, ofCs_congr (h _ _ hl)]
      · rfl
    · rfl

theorem ofVal_congr {τ : Ty} {g : Bool} {cs : List Leaf} (h : ∀ n ∈ namesV cs, T n = T' n) : ofVal T τ g cs = ofVal T' τ g cs := by
  unfold ofVal
  split
  · exact ofCs_congr h
  · exact ofCs_congr h
  · rfl

theorem lstVal_congr {τ : Ty} {ls : List Leaf} (h : ∀ n ∈ namesV ls, T n = T' n) : lstVal T τ ls = lstVal T' τ ls := by
  have key : ∀ (e : Ty) (ls : List Leaf), (∀ n ∈ namesV ls, T n = T' n) → lstL T e ls = lstL T' e ls := by
    intro e ls
    induction ls with
    | nil => intro _; rfl
    | cons l ls ih =>
      intro h
      simp only [lstL]
      rw [ofCs_congr (T := T) (T' := T') fun n hn => h n (by rw [namesV_cons] at hn ⊢; rcases List.mem_append.1 hn with hn | hn; exact List.mem_append_left _ hn; cases hn), ih fun n hn => h n (by rw [namesV_cons]; exact List.mem_append_right _ hn)]
  unfold lstVal
  split
  · split
    · exact key _ ls h
    · rfl
  · rfl

theorem args1_congr : ∀ {l : List Ty} {vs : List Val}, (∀ n ∈ namesL vs, T n = T' n) → args1 T l vs = args1 T' l vs
  | [], [], _ => rfl
  | [], _ :: _, _ => rfl
  | [a], [], _ => rfl
  | [a], [.v g cs], h => ofVal_congr fun n hn => h n (by simp [namesL, namesOf, hn])
  | [a], [.tup _], _ => rfl
  | [a], [.clo _ _], _ => rfl
  | [a], [.lst ls], h => lstVal_congr fun n hn => h n (by simp [namesL, namesOf, hn])
  | [a], .v _ _ :: _ :: _, _ => rfl
  | [a], .tup _ :: _ :: _, _ => rfl
  | [a], .clo _ _ :: _ :: _, _ => rfl
  | [a], .lst _ :: _ :: _, _ => rfl
  | a :: b :: r, [], _ => rfl
  | a :: b :: r, .tup _ :: vs, _ => rfl
  | a :: b :: r, .clo _ _ :: vs, _ => rfl
  | a :: b :: r, .lst ls :: vs, h => by
    have e1 : lstVal T a ls = lstVal T' a ls := lstVal_congr fun n hn => h n (by simp only [namesL, namesOf]; exact List.mem_append_left _ hn)
    have e2 : args1 T (b :: r) vs = args1 T' (b :: r) vs := args1_congr fun n hn => h n (by simp only [namesL]; exact List.mem_append_right _ hn)
    show (lstVal T a ls).bind (fun x => (args1 T (b :: r) vs).bind fun y => some (x, y)) = (lstVal T' a ls).bind (fun x => (args1 T' (b :: r) vs).bind fun y => some (x, y))
    rw [e1, e2]
  | a :: b :: r, .v g cs :: vs, h => by
    have e1 : ofVal T a g cs = ofVal T' a g cs := ofVal_congr fun n hn => h n (by simp only [namesL, namesOf]; exact List.mem_append_left _ hn)
    have e2 : args1 T (b :: r) vs = args1 T' (b :: r) vs := args1_congr fun n hn => h n (by simp only [namesL]; exact List.mem_append_right _ hn)
    show (ofVal T a g cs).bind (fun x => (args1 T (b :: r) vs).bind fun y => some (x, y)) = (ofVal T' a g cs).bind (fun x => (args1 T' (b :: r) vs).bind fun y => some (x, y))
    rw [e1, e2]

theorem own_namesN : ∀ (l : List Leaf) (n : Nat), n ∈ ownNames l → n ∈ namesV l := by
  intro l n
  induction l with
  | nil => intro h; cases h
  | cons x l ih => intro h; cases x <;> simp_all [ownNames, namesV] <;> (rcases h with h | h <;> simp_all)

theorem ownL_names : ∀ {vs : List Val} {n : Nat}, n ∈ ownNamesL vs → n ∈ namesL vs
  | [], n, h => by cases h
  | .tup l :: r, n, h => by simp only [namesL]; exact List.mem_append_right _ (ownL_names (vs := r) h)
  | .clo f l :: r, n, h => by simp only [namesL]; exact List.mem_append_right _ (ownL_names (vs := r) h)
  | .v g cs :: r, n, h => by
    simp only [ownNamesL] at h
    simp only [namesL]
    rcases List.mem_append.1 h with h | h
    · exact List.mem_append_left _ (own_namesN cs n h)
    · exact List.mem_append_right _ (ownL_names h)
  | .lst ls :: r, n, h => by
    simp only [ownNamesL] at h
    simp only [namesL]
    rcases List.mem_append.1 h with h | h
    · exact List.mem_append_left _ (own_namesN ls n h)
    · exact List.mem_append_right _ (ownL_names h)

theorem callS_congr {s : FSpec} {nm : Nat} {vs : List Val} {K : Val → List (Nat × Option Entry) → Option ρ} (h : ∀ n ∈ namesL vs, T n = T' n) : callS s T nm vs K = callS s T' nm vs K := by
  unfold callS
  have hk : ∀ n ∈ killed s vs, T n = T' n := fun n hn => by
    have hn' : n ∈ ownNamesL vs := by
      unfold killed at hn
      split at hn
      · exact hn
      · cases hn
    exact h n (ownL_names hn')
  have e : ∀ l : List Nat, (∀ n ∈ l, T n = T' n) → l.all (own T) = l.all (own T') := by
    intro l
    induction l with
    | nil => intro _; rfl
    | cons n l ih => intro hl; simp only [List.all_cons]; rw [show own T n = own T' n by unfold own; rw [hl n (by simp)], ih fun m hm => hl m (by simp [hm])]
  rw [e _ hk, args1_congr h]

theorem callK_congr {nm f : Nat} {vs : List Val} {K : Val → List (Nat × Option Entry) → Option ρ} (h : ∀ n ∈ namesL vs, T n = T' n) : callK E T nm f vs K = callK E T' nm f vs K := by
  unfold callK
  split
  · exact callS_congr h
  · split
    · exact callS_congr fun n hn => h n (by simp only [namesL]; exact List.mem_append_right _ hn)
    · rfl

theorem namesL_mem {l : List Val} {v : Val} (h : v ∈ l) : ∀ n ∈ namesOf v, n ∈ namesL l := by
  induction l with
  | nil => cases h
  | cons x l ih =>
    intro n hn
    simp only [namesL]
    rcases List.mem_cons.1 h with rfl | h
    · exact List.mem_append_left _ hn
    · exact List.mem_append_right _ (ih h n hn)

theorem namesL_sub {l l' : List Val} (h : ∀ v ∈ l, v ∈ l') : ∀ n ∈ namesL l, n ∈ namesL l' := by
  induction l with
  | nil => intro n hn; cases hn
  | cons x l ih =>
    intro n hn
    simp only [namesL] at hn
    rcases List.mem_append.1 hn with hn | hn
    · exact namesL_mem (h x (by simp)) n hn
    · exact ih (fun v hv => h v (by simp [hv])) n hn

theorem opK_congr {nm : Nat} {ev ev' : Operand → Val} {o : Op} {K : Val → List (Nat × Option Entry) → Option ρ} (he : ∀ x ∈ o.operands.toList, ev x = ev' x) (hT : ∀ n ∈ namesL (o.operands.toList.map ev), T n = T' n) :
    opK E T nm ev o K = opK E T' nm ev' o K := by
  have at1 : ∀ x, x ∈ o.operands.toList → ∀ n ∈ namesOf (ev x), T n = T' n := fun x hx n hn => hT n (namesL_mem (List.mem_map_of_mem hx) n hn)
  cases o <;> simp only [opK]
  case move x => rw [he x (by simp [Op.operands])]
  case assign x => rw [he x (by simp [Op.operands])]
  case pick c x y => rw [he c (by simp [Op.operands]), he x (by simp [Op.operands]), he y (by simp [Op.operands])]
  case box t x => rw [he x (by simp [Op.operands])]
  case build t ps =>
    have hm : (ps.toList.map fun p => (p.1, ev p.2)) = ps.toList.map fun p => (p.1, ev' p.2) := List.map_congr_left fun p hp => by
      rw [he p.2 (by simp only [Op.operands, List.toList_toArray]; exact List.mem_map_of_mem hp)]
    split
    · rw [hm]
    · rw [elems_congr (T := T) (T' := T') fun j v hl => by
        obtain ⟨p, hp, rfl⟩ := lk_names hl
        exact at1 _ (by simp only [Op.operands, List.toList_toArray]; exact List.mem_map_of_mem hp), hm]
    · rfl
  case buildSlice t n ps =>
    have hm : (ps.toList.map fun p => (p.1, ev p.2)) = ps.toList.map fun p => (p.1, ev' p.2) := List.map_congr_left fun p hp => by
      rw [he p.2 (by simp only [Op.operands, List.toList_toArray]; exact List.mem_map_of_mem hp)]
    split
    · rw [elems_congr (T := T) (T' := T') fun j v hl => by
        obtain ⟨p, hp, rfl⟩ := lk_names hl
        exact at1 _ (by simp only [Op.operands, List.toList_toArray]; exact List.mem_map_of_mem hp), hm]
    · rfl
  case load t x => rw [loadK_congr (at1 x (by simp [Op.operands])), he x (by simp [Op.operands])]
  case store t x y => rw [storeK_congr (at1 x (by simp [Op.operands])) (at1 y (by simp [Op.operands])), he x (by simp [Op.operands]), he y (by simp [Op.operands])]
  case nilCheck x =>
    have h1 := at1 x (by simp [Op.operands])
    rw [← he x (by simp [Op.operands])]
    split
    · rename_i e; rw [e] at h1; rw [h1 _ (by simp [namesOf, namesV])]
    · rename_i e; rw [e] at h1; rw [h1 _ (by simp [namesOf, namesV])]
    · rfl
  case binOp op t x y z => rw [binK_congr (at1 x (by simp [Op.operands])) (at1 y (by simp [Op.operands])), he x (by simp [Op.operands]), he y (by simp [Op.operands])]
  case unOp op t x => rw [he x (by simp [Op.operands])]
  case convert s d x => rw [convK_congr (at1 x (by simp [Op.operands])), he x (by simp [Op.operands])]
  case makeSlice t x y => rw [he x (by simp [Op.operands]), he y (by simp [Op.operands])]
  case slice t x lo hi mx =>
    have e1 : lo.map ev = lo.map ev' := by cases lo with
      | none => rfl
      | some y => simp only [Option.map_some]; rw [he y (by simp [Op.operands])]
    have e2 : hi.map ev = hi.map ev' := by cases hi with
      | none => rfl
      | some y => simp only [Option.map_some]; rw [he y (by simp [Op.operands])]
    have e3 : mx.map ev = mx.map ev' := by cases mx with
      | none => rfl
      | some y => simp only [Option.map_some]; rw [he y (by simp [Op.operands])]
    rw [sliceK_congr (at1 x (by simp [Op.operands])), he x (by simp [Op.operands]), e1, e2, e3]
  case fieldAddr t x f => rw [addrK_congr (at1 x (by simp [Op.operands])), he x (by simp [Op.operands])]
  case field t x f => rw [he x (by simp [Op.operands])]
  case indexAddr t x i => rw [indexAddrK_congr (at1 x (by simp [Op.operands])), he x (by simp [Op.operands]), he i (by simp [Op.operands])]
  case index t x i => rw [he x (by simp [Op.operands]), he i (by simp [Op.operands])]
  case extract x j => rw [he x (by simp [Op.operands])]
  case makeFunc fn first caps =>
    have e1 : first.toList.map ev = first.toList.map ev' := List.map_congr_left fun x hx => he x (by simp only [Op.operands, Array.toList_append]; exact List.mem_append_left _ hx)
    have e2 : caps.toList.map ev = caps.toList.map ev' := List.map_congr_left fun x hx => he x (by simp only [Op.operands, Array.toList_append]; exact List.mem_append_right _ hx)
    rw [e1, e2]
  case call c =>
    have ha : ∀ x ∈ c.args.toList, x ∈ (Op.call c).operands.toList := fun x hx => by
      simp only [Op.operands, Call.operands, Array.toList_append]
      exact List.mem_append_right _ hx
    have hm : c.args.toList.map ev = c.args.toList.map ev' := List.map_congr_left fun x hx => he x (ha x hx)
    split
    · split
      · rename_i x t hl _
        have hx := ha x (by rw [hl]; simp)
        rw [lenK_congr (at1 x hx), he x hx]
      · rfl
    · split
      · rename_i s x t t2 hl _
        have hs := ha s (by rw [hl]; simp)
        have hx := ha x (by rw [hl]; simp)
        rw [appendK_congr (at1 s hs) (at1 x hx), he x hx, he s hs]
      · rfl
    · split
      · rename_i s x t t2 hl _
        have hs := ha s (by rw [hl]; simp)
        have hx := ha x (by rw [hl]; simp)
        rw [copyK_congr (at1 s hs) (at1 x hx), he x hx, he s hs]
      · rfl
    · rw [hm]
    · rw [hm]
    · rw [← hm]
      exact callK_congr fun n hn => hT n (namesL_sub (fun v hv => by
        obtain ⟨x, hx, rfl⟩ := List.mem_map.1 hv
        exact List.mem_map_of_mem (ha x hx)) n hn)
    · rfl

end
end Go.Proofs.Ytacmfiddaklkiab.Lift
