/- The idle tax's functions (chapter 37), in plain Lean: what each computes. -/
import Derived.Test.YtdpldckcbdeojaaFns
set_option linter.unusedVariables false
set_option linter.unusedSimpArgs false
namespace Go.Proofs.Ytdpldckcbdeojaa.Fn
open Go Lift

abbrev Clm := Int × Int × Int × Int × Int
local notation "cl(" l ", " i ")" => nth ((0 : Int), (0 : Int), (0 : Int), (0 : Int), (0 : Int)) l i

def okC (c : Clm) : Prop := 1 ≤ c.1 ∧ c.1 ≤ c.2.1 ∧ c.2.1 ≤ 96 ∧ 1 ≤ c.2.2.1 ∧ c.2.2.1 ≤ 1000 ∧ 0 ≤ c.2.2.2.1 ∧ c.2.2.2.1 ≤ 96 ∧ 0 ≤ c.2.2.2.2 ∧ c.2.2.2.2 ≤ 1000
instance (c : Clm) : Decidable (okC c) := by unfold okC; infer_instance
def okT (t : Int) : Prop := 0 ≤ t ∧ t ≤ 99
instance (t : Int) : Decidable (okT t) := by unfold okT; infer_instance
def price (a t : Int) : Int := 100000 - a * t
def costOf (c : Clm) (t : Int) : Int := c.2.2.2.1 * price c.2.2.2.2 t
def poor (x y : Clm) (t : Int) : Bool := decide (okC x ∧ okC y ∧ okT t ∧ x.2.2.1 * costOf y t < y.2.2.1 * costOf x t)

theorem eta5 (c : Clm) : (c.1, c.2.1, c.2.2.1, c.2.2.2) = c := rfl

theorem tax_eq (t : Int) : idletax_taxable.f t = some (decide (okT t)) := by
  unfold idletax_taxable.f okT
  by_cases h1 : 0 ≤ t
  · simp [h1]
  · simp [h1]

theorem valid_eq (c : Clm) : idletax_Valid.f c = some (decide (okC c)) := by
  unfold idletax_Valid.f okC
  simp only [ge_iff_le]
  by_cases h1 : 1 ≤ c.1
  case neg => simp [h1]
  by_cases h2 : c.1 ≤ c.2.1
  case neg => simp [h1, h2]
  by_cases h3 : c.2.1 ≤ 96
  case neg => simp [h1, h2, h3]
  by_cases h4 : 1 ≤ c.2.2.1
  case neg => simp [h1, h2, h3, h4]
  by_cases h5 : c.2.2.1 ≤ 1000
  case neg => simp [h1, h2, h3, h4, h5]
  by_cases h6 : 0 ≤ c.2.2.2.1
  case neg => simp [h1, h2, h3, h4, h5, h6]
  by_cases h7 : c.2.2.2.1 ≤ 96
  case neg => simp [h1, h2, h3, h4, h5, h6, h7]
  by_cases h8 : 0 ≤ c.2.2.2.2
  case neg => simp [h1, h2, h3, h4, h5, h6, h7, h8]
  simp [h1, h2, h3, h4, h5, h6, h7, h8]

theorem price_range {a t : Int} (h0 : 0 ≤ a) (h1 : a ≤ 1000) (ht : okT t) : 1000 ≤ price a t ∧ price a t ≤ 100000 := by
  have k1 : 0 ≤ a * t := Int.mul_nonneg h0 ht.1
  have k2 : a * t ≤ 1000 * 99 := Int.mul_le_mul h1 ht.2 ht.1 (by decide)
  unfold price
  omega

theorem cost_range {c : Clm} {t : Int} (h : okC c) (ht : okT t) : 0 ≤ costOf c t ∧ costOf c t ≤ 9600000 := by
  obtain ⟨_, _, _, _, _, h6, h7, h8, h9⟩ := h
  have k := price_range h8 h9 ht
  have k1 : 0 ≤ c.2.2.2.1 * price c.2.2.2.2 t := Int.mul_nonneg h6 (by omega)
  have k2 : c.2.2.2.1 * price c.2.2.2.2 t ≤ 96 * 100000 := Int.mul_le_mul h7 k.2 (by omega) (by decide)
  unfold costOf
  omega

theorem cost_eq {c : Clm} {t : Int} (h : okC c) (ht : okT t) : idletax_Cost.f c t = some (costOf c t) := by
  have hr := cost_range h ht
  unfold idletax_Cost.f
  rw [valid_eq, decide_eq_true h, Option.bind_some, Bool.not_true, cond_false, tax_eq, decide_eq_true ht, Option.bind_some, Bool.not_true, cond_false]
  obtain ⟨_, _, _, _, _, h6, h7, h8, h9⟩ := h
  have k1 : 0 ≤ c.2.2.2.2 * t := Int.mul_nonneg h8 ht.1
  have k2 : c.2.2.2.2 * t ≤ 1000 * 99 := Int.mul_le_mul h9 ht.2 ht.1 (by decide)
  have e0 : c.2.2.2.2 * (100 - t) = 100 * c.2.2.2.2 - c.2.2.2.2 * t := by rw [Int.mul_sub, Int.mul_comm]
  have e1 : IntKind.wrap .i64 (100 - t) = 100 - t := wrap_i64 (by have := ht.1; have := ht.2; omega) (by have := ht.1; omega)
  have e2 : IntKind.wrap .i64 (1000 - c.2.2.2.2) = 1000 - c.2.2.2.2 := wrap_i64 (by omega) (by omega)
  have e3 : IntKind.wrap .i64 (100 * (1000 - c.2.2.2.2)) = 100 * (1000 - c.2.2.2.2) := wrap_i64 (by omega) (by omega)
  rw [e1, e2, e3, e0]
  generalize hz : c.2.2.2.2 * t = z at k1 k2
  have e4 : IntKind.wrap .i64 (100 * c.2.2.2.2 - z) = 100 * c.2.2.2.2 - z := wrap_i64 (by omega) (by omega)
  rw [e4]
  have e5 : 100 * c.2.2.2.2 - z + 100 * (1000 - c.2.2.2.2) = price c.2.2.2.2 t := by unfold price; omega
  rw [e5]
  have e6 := price_range h8 h9 ht
  rw [wrap_i64 (n := price c.2.2.2.2 t) (by omega) (by omega)]
  have e7 : c.2.2.2.1 * price c.2.2.2.2 t = costOf c t := rfl
  rw [e7, wrap_i64 (by omega) (by omega)]

theorem cost_some (c : Clm) (t : Int) : ∃ v, idletax_Cost.f c t = some v := by
  by_cases h : okC c
  · by_cases ht : okT t
    · exact ⟨_, cost_eq h ht⟩
    · refine ⟨0, ?_⟩
      unfold idletax_Cost.f
      rw [valid_eq, decide_eq_true h, Option.bind_some, Bool.not_true, cond_false, tax_eq, decide_eq_false ht]
      rfl
  · refine ⟨0, ?_⟩
    unfold idletax_Cost.f
    rw [valid_eq, decide_eq_false h]
    rfl

theorem poorer_eq (x y : Clm) (t : Int) : idletax_Poorer.f x y t = some (poor x y t) := by
  unfold idletax_Poorer.f poor
  rw [valid_eq, Option.bind_some]
  by_cases h1 : okC x
  case neg => simp [h1]
  rw [decide_eq_true h1, cond_true, valid_eq, Option.bind_some]
  by_cases h2 : okC y
  case neg => simp [h2]
  rw [decide_eq_true h2, cond_true, tax_eq, Option.bind_some]
  by_cases h3 : okT t
  case neg => simp [h3]
  rw [decide_eq_true h3, cond_true, cost_eq h2 h3, Option.bind_some, cost_eq h1 h3, Option.bind_some]
  have k1 := cost_range h1 h3
  have k2 := cost_range h2 h3
  have b1 := h1; have b2 := h2
  obtain ⟨_, _, _, x4, x5, _⟩ := b1
  obtain ⟨_, _, _, y4, y5, _⟩ := b2
  have m1 : 0 ≤ x.2.2.1 * costOf y t := Int.mul_nonneg (by omega) k2.1
  have m2 : x.2.2.1 * costOf y t ≤ 1000 * 9600000 := Int.mul_le_mul x5 k2.2 k2.1 (by decide)
  have m3 : 0 ≤ y.2.2.1 * costOf x t := Int.mul_nonneg (by omega) k1.1
  have m4 : y.2.2.1 * costOf x t ≤ 1000 * 9600000 := Int.mul_le_mul y5 k1.2 k1.1 (by decide)
  rw [wrap_i64 (n := x.2.2.1 * costOf y t) (by omega) (by omega), wrap_i64 (n := y.2.2.1 * costOf x t) (by omega) (by omega)]
  simp [h1, h2, h3]

/-- The first pays no more for a share than the second. -/
def rle (t : Int) (x y : Clm) : Prop := costOf x t * y.2.2.1 ≤ costOf y t * x.2.2.1

theorem rle_refl (t : Int) (x : Clm) : rle t x x := Int.le_refl _

theorem rle_trans {t : Int} {x y z : Clm} (hx : okC x) (hy : okC y) (hz : okC z) (h1 : rle t x y) (h2 : rle t y z) : rle t x z := by
  have a1 : costOf x t * y.2.2.1 * z.2.2.1 ≤ costOf y t * x.2.2.1 * z.2.2.1 := Int.mul_le_mul_of_nonneg_right h1 (by have := hz.2.2.2.1; omega)
  have a2 : costOf y t * z.2.2.1 * x.2.2.1 ≤ costOf z t * y.2.2.1 * x.2.2.1 := Int.mul_le_mul_of_nonneg_right h2 (by have := hx.2.2.2.1; omega)
  have e1 : costOf y t * x.2.2.1 * z.2.2.1 = costOf y t * z.2.2.1 * x.2.2.1 := by ac_rfl
  have e2 : costOf x t * y.2.2.1 * z.2.2.1 = y.2.2.1 * (costOf x t * z.2.2.1) := by ac_rfl
  have e3 : costOf z t * y.2.2.1 * x.2.2.1 = y.2.2.1 * (costOf z t * x.2.2.1) := by ac_rfl
  refine Int.le_of_mul_le_mul_left (a := y.2.2.1) ?_ (by have := hy.2.2.2.1; omega)
  rw [← e2, ← e3]
  exact Int.le_trans a1 (e1 ▸ a2)

theorem poor_iff {t : Int} {x y : Clm} (hx : okC x) (hy : okC y) (ht : okT t) : poor x y t = true ↔ ¬ rle t x y := by
  unfold poor rle
  rw [decide_eq_true_eq, Int.mul_comm x.2.2.1, Int.mul_comm y.2.2.1]
  constructor
  · rintro ⟨_, _, _, h⟩; omega
  · intro h; exact ⟨hx, hy, ht, by omega⟩

theorem poor_false {t : Int} {x y : Clm} (hx : okC x) (hy : okC y) (ht : okT t) (h : poor x y t = false) : rle t x y := by
  refine Classical.byContradiction fun hn => ?_
  rw [(poor_iff hx hy ht).2 hn] at h
  cases h

/-- Of two, one pays no more. -/
theorem rle_total (t : Int) (x y : Clm) : rle t x y ∨ rle t y x := by unfold rle; omega

/-- A loop whose states are known, from a given state. -/
theorem loop_from {X Z : Type} {step : X → Option (X ⊕ Z)} (x0 : X) (enc : Nat → X) (n : Nat) (z : Z) (h0 : enc 0 = x0) (h1 : ∀ i, i < n → step (enc i) = some (.inl (enc (i + 1)))) (h2 : step (enc n) = some (.inr z)) : loop step x0 = some z := by
  rw [← h0]; exact loop_at enc n z h1 h2

theorem bind_of {α β : Type} {o : Option α} {a : α} {K : α → Option β} {r : Option β} (h : o = some a) (hk : K a = r) : o.bind K = r := by rw [h]; exact hk

/-! ### The victim -/
def vict (l : List Clm) (t : Int) : Nat → Int
  | 0 => -1
  | i + 1 => if okC cl(l, i) ∧ cl(l, i).2.2.2.1 > cl(l, i).1 then (if vict l t i < 0 then (i : Int) else if poor cl(l, i) cl(l, vict l t i) t = true then (i : Int) else vict l t i) else vict l t i

theorem vict_range (l : List Clm) (t : Int) : ∀ i, -1 ≤ vict l t i ∧ vict l t i < i := by
  intro i
  induction i with
  | zero => unfold vict; decide
  | succ i ih =>
    unfold vict
    repeat' split
    all_goals omega

def victimOf (l : List Clm) (t : Int) : Int × Bool := if okT t then (if vict l t l.length < 0 then (0, false) else (vict l t l.length, true)) else (0, false)

theorem victim_eq (l : List Clm) (t : Int) (hl : l.length ≤ 1000) : idletax_Victim.f l t = some (victimOf l t) := by
  unfold idletax_Victim.f victimOf
  rw [tax_eq, Option.bind_some]
  by_cases ht : okT t
  case neg => rw [decide_eq_false ht, if_neg ht]; rfl
  rw [decide_eq_true ht, if_pos ht, Bool.not_true, cond_false]
  rw [loop_from ((-1 : Int), (0 : Int)) (fun i : Nat => (vict l t i, (i : Int))) l.length (.inl (vict l t l.length)) rfl ?h1 ?h2, Option.bind_some]
  case h2 =>
    have : ¬ (l.length : Int) < l.length := by omega
    simp only [this, decide_false, cond_false]
  case h1 =>
    intro i hi
    have b1 : (i : Int) < l.length := by omega
    have b2 : 0 ≤ (i : Int) ∧ (i : Int) < l.length := by omega
    have b3 : IntKind.wrap .i64 ((i : Int) + 1) = ((i + 1 : Nat) : Int) := by rw [wrap_i64 (by omega) (by omega)]; omega
    have hv := vict_range l t i
    simp only [eta5, b1, decide_true, cond_true, b2, and_self, if_true, valid_eq, Option.bind_some, poorer_eq, b3]
    have he : vict l t (i + 1) = if okC cl(l, i) ∧ cl(l, i).2.2.2.1 > cl(l, i).1 then (if vict l t i < 0 then (i : Int) else if poor cl(l, i) cl(l, vict l t i) t = true then (i : Int) else vict l t i) else vict l t i := rfl
    by_cases c1 : okC cl(l, i)
    case neg =>
      rw [if_neg (fun hh => c1 hh.1)] at he
      rw [he, decide_eq_false c1]; rfl
    rw [decide_eq_true c1, cond_true]
    by_cases c2 : cl(l, i).2.2.2.1 > cl(l, i).1
    case neg =>
      rw [if_neg (fun hh => c2 hh.2)] at he
      rw [he, decide_eq_false c2]; rfl
    rw [if_pos ⟨c1, c2⟩] at he
    rw [decide_eq_true c2, cond_true]
    by_cases c3 : vict l t i < 0
    · rw [if_pos c3] at he
      rw [he, decide_eq_true c3]; rfl
    · have b4 : 0 ≤ vict l t i ∧ vict l t i < (l.length : Int) := by omega
      rw [if_neg c3] at he
      rw [he, decide_eq_false c3, cond_false, if_pos b4]
      cases poor cl(l, i) cl(l, vict l t i) t <;> rfl
  dsimp only
  by_cases c : vict l t l.length < 0
  · rw [if_pos c, decide_eq_true c]; rfl
  · rw [if_neg c, decide_eq_false c]; rfl

theorem payer_eq (l : List Clm) (t : Int) (hl : l.length ≤ 1000) : vmfleetref35_Payer.f l t = some (victimOf l t) := by
  rw [← victim_eq l t hl]
  unfold vmfleetref35_Payer.f idletax_Victim.f
  have et : vmfleetref35_taxed.f t = idletax_taxable.f t := rfl
  rw [et, tax_eq]
  by_cases ht : okT t
  · rw [decide_eq_true ht]
    simp only [Option.bind_some, cond_true, Bool.not_true, cond_false]
    congr 1
    congr 1
    funext x
    by_cases c1 : x.2 < (l.length : Int)
    case neg => rw [decide_eq_false c1]; rfl
    by_cases c2 : 0 ≤ x.2 ∧ x.2 < (l.length : Int)
    case neg => rw [decide_eq_true c1, cond_true, cond_true, if_neg c2, if_neg c2]
    simp only [c2, and_self, if_true]
    rfl
  · rw [decide_eq_false ht]
    simp only [Option.bind_some, cond_false, Bool.not_false, cond_true]
    rw [loop_eq]
    by_cases c1 : (0 : Int) < (l.length : Int)
    · rw [decide_eq_true c1]; rfl
    · rw [decide_eq_false c1]; rfl

/-! ### Sums -/
/-- The sum of the first values. -/
def upto (f : Int → Int) : Nat → Int
  | 0 => 0
  | i + 1 => upto f i + f i

theorem upto_congr {f g : Int → Int} : ∀ {n : Nat}, (∀ i : Nat, i < n → f i = g i) → upto f n = upto g n := by
  intro n
  induction n with
  | zero => intro _; rfl
  | succ n ih => intro h; simp only [upto]; rw [ih fun i hi => h i (by omega), h n (by omega)]

theorem upto_le {f g : Int → Int} : ∀ {n : Nat}, (∀ i : Nat, i < n → f i ≤ g i) → upto f n ≤ upto g n := by
  intro n
  induction n with
  | zero => intro _; exact Int.le_refl _
  | succ n ih => intro h; simp only [upto]; have := ih fun i hi => h i (by omega); have := h n (by omega); omega

theorem upto_mono {f : Int → Int} {n : Nat} (h : ∀ i : Nat, i < n → 0 ≤ f i) : ∀ {i : Nat}, i ≤ n → upto f i ≤ upto f n := by
  intro i hi
  induction n with
  | zero => have : i = 0 := by omega
            subst this; exact Int.le_refl _
  | succ n ih =>
    by_cases he : i = n + 1
    · subst he; exact Int.le_refl _
    · have := ih (fun j hj => h j (by omega)) (by omega)
      have := h n (by omega)
      simp only [upto]; omega

theorem upto_bump {f g : Int → Int} {j : Nat} {n : Nat} (h : ∀ i : Nat, i ≠ j → f i = g i) : upto f n = upto g n + if j < n then f j - g j else 0 := by
  induction n with
  | zero => rfl
  | succ n ih =>
    simp only [upto]
    rw [ih]
    by_cases he : n = j
    · subst he
      rw [if_neg (by omega), if_pos (by omega)]; omega
    · rw [h n he]
      by_cases hj : j < n
      · rw [if_pos hj, if_pos (by omega)]; omega
      · rw [if_neg hj, if_neg (by omega)]; omega

theorem nth_put {α : Type} {d v : α} {p : List α} {j i : Int} (h0 : 0 ≤ j) (h1 : j < p.length) (hi : 0 ≤ i) : nth d (put p j v) i = if i = j then v else nth d p i := by
  unfold nth put
  rw [List.getD_eq_getElem?_getD, List.getElem?_set]
  by_cases hij : i = j
  · subst hij
    rw [if_pos rfl, if_pos (by omega), if_pos rfl]; rfl
  · rw [if_neg (by omega), if_neg hij, List.getD_eq_getElem?_getD]

/-! ### The targets -/
def cand (l : List Clm) (p : List Int) (i : Int) : Clm := (cl(l, i).1, cl(l, i).2.1, cl(l, i).2.2.1, nth (0 : Int) p i + 1, cl(l, i).2.2.2.2)

def pickN (l : List Clm) (t : Int) (p : List Int) : Nat → Int
  | 0 => -1
  | i + 1 => if nth (0 : Int) p i < cl(l, i).2.1 then (if pickN l t p i < 0 then (i : Int) else if poor (cand l p (pickN l t p i)) (cand l p i) t = true then (i : Int) else pickN l t p i) else pickN l t p i

theorem pickN_range (l : List Clm) (t : Int) (p : List Int) : ∀ i, -1 ≤ pickN l t p i ∧ pickN l t p i < i := by
  intro i
  induction i with
  | zero => unfold pickN; decide
  | succ i ih =>
    unfold pickN
    repeat' split
    all_goals omega

def pick (l : List Clm) (t : Int) (p : List Int) : Int := pickN l t p l.length
def grant (l : List Clm) (t : Int) (p : List Int) : List Int := if pick l t p < 0 then p else put p (pick l t p) (nth (0 : Int) p (pick l t p) + 1)
def grants (l : List Clm) (t : Int) (p : List Int) : Nat → List Int
  | 0 => p
  | k + 1 => grant l t (grants l t p k)

theorem grants_fix {l : List Clm} {t : Int} {p : List Int} {k : Nat} (h : pick l t (grants l t p k) < 0) : ∀ j, grants l t p (k + j) = grants l t p k := by
  intro j
  induction j with
  | zero => rfl
  | succ j ih =>
    show grant l t (grants l t p (k + j)) = _
    rw [ih]
    unfold grant
    rw [if_pos h]

def okL (l : List Clm) : Prop := ∀ i : Nat, i < l.length → okC cl(l, i)
def okP (l : List Clm) (p : List Int) : Prop := p.length = l.length ∧ ∀ i : Nat, i < l.length → cl(l, i).1 ≤ nth (0 : Int) p i ∧ nth (0 : Int) p i ≤ cl(l, i).2.1

theorem cand_ok {l : List Clm} {p : List Int} (hl : okL l) (hp : okP l p) {i : Nat} (hi : i < l.length) (h : nth (0 : Int) p i < cl(l, i).2.1) : okC (cand l p i) := by
  obtain ⟨h1, h2, h3, h4, h5, h6, h7, h8, h9⟩ := hl i hi
  have := (hp.2 i hi).1
  exact ⟨h1, h2, h3, h4, h5, (by show 0 ≤ nth (0 : Int) p i + 1; omega), (by show nth (0 : Int) p i + 1 ≤ 96; omega), h8, h9⟩

theorem pickN_spec {l : List Clm} {t : Int} {p : List Int} (hl : okL l) (hp : okP l p) (ht : okT t) : ∀ n : Nat, n ≤ l.length →
    (pickN l t p n < 0 ∧ ∀ i : Nat, i < n → cl(l, i).2.1 ≤ nth (0 : Int) p i) ∨
    (∃ j : Nat, j < n ∧ pickN l t p n = j ∧ nth (0 : Int) p j < cl(l, j).2.1 ∧ ∀ i : Nat, i < n → nth (0 : Int) p i < cl(l, i).2.1 → rle t (cand l p j) (cand l p i)) := by
  intro n
  induction n with
  | zero => intro _; left; exact ⟨by unfold pickN; decide, fun i hi => by omega⟩
  | succ n ih =>
    intro hn
    have ih := ih (by omega)
    by_cases c1 : nth (0 : Int) p n < cl(l, n).2.1
    · have e1 : pickN l t p (n + 1) = (if pickN l t p n < 0 then (n : Int) else if poor (cand l p (pickN l t p n)) (cand l p n) t = true then (n : Int) else pickN l t p n) := by
        rw [pickN, if_pos c1]
      right
      rcases ih with ⟨h1, h2⟩ | ⟨j, h1, h2, h3, h4⟩
      · refine ⟨n, by omega, by rw [e1, if_pos h1], c1, fun i hi hc => ?_⟩
        by_cases hin : i = n
        · subst hin; exact rle_refl _ _
        · have := h2 i (by omega); omega
      · have kn := cand_ok hl hp (i := n) (by omega) c1
        have kj := cand_ok hl hp (i := j) (by omega) h3
        rw [h2, if_neg (by omega)] at e1
        cases hpo : poor (cand l p j) (cand l p n) t with
        | true =>
          rw [hpo, if_pos rfl] at e1
          have hlt := (poor_iff kj kn ht).1 hpo
          have hle : rle t (cand l p n) (cand l p j) := (rle_total t (cand l p j) (cand l p n)).resolve_left hlt
          refine ⟨n, by omega, e1, c1, fun i hi hc => ?_⟩
          by_cases hin : i = n
          · subst hin; exact rle_refl _ _
          · exact rle_trans kn kj (cand_ok hl hp (by omega) hc) hle (h4 i (by omega) hc)
        | false =>
          rw [hpo, if_neg (by decide)] at e1
          have hle := poor_false kj kn ht hpo
          refine ⟨j, by omega, e1, h3, fun i hi hc => ?_⟩
          by_cases hin : i = n
          · subst hin; exact hle
          · exact h4 i (by omega) hc
    · have e1 : pickN l t p (n + 1) = pickN l t p n := by rw [pickN, if_neg c1]
      rw [e1]
      rcases ih with ⟨h1, h2⟩ | ⟨j, h1, h2, h3, h4⟩
      · left
        refine ⟨h1, fun i hi => ?_⟩
        by_cases hin : i = n
        · subst hin; omega
        · exact h2 i (by omega)
      · right
        refine ⟨j, by omega, h2, h3, fun i hi hc => ?_⟩
        by_cases hin : i = n
        · subst hin; omega
        · exact h4 i (by omega) hc

/-- What one grant does. -/
theorem grant_spec {l : List Clm} {t : Int} {p : List Int} (hl : okL l) (hp : okP l p) (ht : okT t) :
    (pick l t p < 0 ∧ grant l t p = p ∧ ∀ i : Nat, i < l.length → cl(l, i).2.1 = nth (0 : Int) p i) ∨
    (∃ j : Nat, j < l.length ∧ pick l t p = j ∧ nth (0 : Int) p j < cl(l, j).2.1 ∧ (∀ i : Nat, i < l.length → nth (0 : Int) p i < cl(l, i).2.1 → rle t (cand l p j) (cand l p i)) ∧
      (grant l t p).length = l.length ∧ ∀ i : Nat, nth (0 : Int) (grant l t p) i = if i = j then nth (0 : Int) p j + 1 else nth (0 : Int) p i) := by
  rcases pickN_spec hl hp ht l.length (Nat.le_refl _) with ⟨h1, h2⟩ | ⟨j, h1, h2, h3, h4⟩
  · left
    refine ⟨h1, by unfold grant; exact if_pos h1, fun i hi => ?_⟩
    have := h2 i hi
    have := (hp.2 i hi).2
    omega
  · right
    have e : grant l t p = put p (j : Int) (nth (0 : Int) p (j : Int) + 1) := by
      unfold grant pick
      rw [h2, if_neg (by omega)]
    refine ⟨j, h1, h2, h3, h4, by rw [e]; unfold put; rw [List.length_set]; exact hp.1, fun i => ?_⟩
    rw [e, nth_put (by omega) (by rw [hp.1]; omega) (by omega)]
    by_cases hij : i = j
    · subst hij; rw [if_pos rfl, if_pos rfl]
    · rw [if_neg (by omega), if_neg hij]

theorem grant_ok {l : List Clm} {t : Int} {p : List Int} (hl : okL l) (hp : okP l p) (ht : okT t) : okP l (grant l t p) := by
  rcases grant_spec hl hp ht with ⟨h1, h2, h3⟩ | ⟨j, h1, h2, h3, h4, h5, h6⟩
  · rw [h2]; exact hp
  · refine ⟨h5, fun i hi => ?_⟩
    rw [h6]
    have := hp.2 i hi
    by_cases hij : i = j
    · subst hij; rw [if_pos rfl]; omega
    · rw [if_neg hij]; exact this

theorem grants_ok {l : List Clm} {t : Int} {p : List Int} (hl : okL l) (hp : okP l p) (ht : okT t) : ∀ k, okP l (grants l t p k) := by
  intro k
  induction k with
  | zero => exact hp
  | succ k ih => exact grant_ok hl ih ht

def reserve (l : List Clm) : Nat → Int := upto fun i => cl(l, i).1
def limit (l : List Clm) : Nat → Int := upto fun i => cl(l, i).2.1
def start (l : List Clm) : List Int := l.map (·.1)

theorem start_nth {l : List Clm} {i : Nat} (hi : i < l.length) : nth (0 : Int) (start l) i = cl(l, i).1 := by
  unfold nth start
  rw [List.getD_eq_getElem?_getD, List.getD_eq_getElem?_getD, List.getElem?_map, Int.toNat_natCast, List.getElem?_eq_getElem hi]
  rfl

theorem start_ok {l : List Clm} (hl : okL l) : okP l (start l) := by
  refine ⟨by unfold start; rw [List.length_map], fun i hi => ?_⟩
  rw [start_nth hi]
  have := hl i hi
  exact ⟨Int.le_refl _, this.2.1⟩

def targetsOf (l : List Clm) (total t : Int) : List Int × Bool :=
  if l.length ≤ 8 ∧ 0 ≤ total ∧ total ≤ 96 ∧ okT t ∧ (∀ i : Nat, i < l.length → okC cl(l, i)) ∧ reserve l l.length ≤ total then (grants l t (start l) (total - reserve l l.length).toNat, true) else ([], false)

theorem reserve_pos {l : List Clm} (hl : okL l) {i : Nat} (hi : i ≤ l.length) : 0 ≤ reserve l i ∧ reserve l i ≤ reserve l l.length := by
  refine ⟨?_, upto_mono (fun j hj => by have := (hl j hj).1; show 0 ≤ cl(l, j).1; omega) hi⟩
  exact upto_mono (f := fun i => cl(l, i).1) (fun j hj => by have := (hl j (by omega)).1; show 0 ≤ cl(l, j).1; omega) (Nat.zero_le i)

theorem reserve_le {l : List Clm} (hl : okL l) : ∀ {i : Nat}, i ≤ l.length → reserve l i ≤ 96 * i := by
  intro i
  induction i with
  | zero => intro _; exact Int.le_refl _
  | succ i ih =>
    intro hi
    have := ih (by omega)
    obtain ⟨_, h2, h3, _⟩ := hl i (by omega)
    have e : reserve l (i + 1) = reserve l i + cl(l, i).1 := rfl
    omega

end Go.Proofs.Ytdpldckcbdeojaa.Fn
