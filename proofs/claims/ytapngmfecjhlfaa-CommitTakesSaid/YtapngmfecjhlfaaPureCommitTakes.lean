/- The law CommitTakes, in plain Lean: at every input its function is true. -/
import Derived.Test.YtapngmfecjhlfaaPureCh25c
set_option linter.unusedVariables false
set_option linter.unusedSimpArgs false
namespace Go.Proofs.Ytapngmfecjhlfaa.Fn
open Go Lift

theorem text_loop (out : List OutT) (h : out.length ≤ 1000) (hd : ∀ o ∈ out, is1 o = true → o.2.2.2.size = 1) : loop (Y := (ByteArray) ⊕ (Bool)) (fun (x5 : ByteArray × Int) =>
              bif decide (x5.2 < (out.length : Int)) then
                if 0 ≤ x5.2 ∧ x5.2 < (out.length : Int) then
                  bif decide (((nth ((0 : Int), (0 : Int), (0 : Int), (⟨#[]⟩ : ByteArray)) out x5.2).1) = 1) then
                    if 0 ≤ x5.2 ∧ x5.2 < (out.length : Int) then
                      if x5.1.size + ((((nth ((0 : Int), (0 : Int), (0 : Int), (⟨#[]⟩ : ByteArray)) out x5.2).2).2).2).size ≤ 9223372036854775807 then
                        some (.inl ((x5.1 ++ ((((nth ((0 : Int), (0 : Int), (0 : Int), (⟨#[]⟩ : ByteArray)) out x5.2).2).2).2)), IntKind.wrap .i64 (x5.2 + 1)))
                      else none
                    else none
                  else
                    some (.inl (x5.1, IntKind.wrap .i64 (x5.2 + 1)))
                else none
              else
                some (.inr (.inl x5.1))) ((⟨#[]⟩ : ByteArray), (0 : Int)) = some (.inl (cat (out.filter is1))) := by
  have e : cat (out.filter is1) = out.foldl (fun s (o : OutT) => if is1 o = true then s ++ o.2.2.2 else s) (⟨#[]⟩ : ByteArray) := by
    unfold cat
    rw [List.foldl_filter]
  rw [e, ← foldE_foldl (fun s (o : OutT) => if is1 o = true then s ++ o.2.2.2 else s) (fun s => (Sum.inl s : ByteArray ⊕ Bool))]
  refine loop_list (fun (s : ByteArray) i => (s, i)) out _ _ (⟨#[]⟩ : ByteArray) (fun s i => s.size ≤ i) (Nat.le_refl _) (fun i x s hx hI => ⟨?_, fun s' hs => ?_⟩) (fun s _ => ?_)
  · have hj := idx_lt hx
    have h2 : 0 ≤ (i : Int) ∧ (i : Int) < out.length := ⟨by omega, hj⟩
    have hm : x ∈ out := List.mem_of_getElem? hx
    try dsimp only
    rw [decide_eq_true hj, cond_true, if_pos h2, nth_some hx, wrap_i64 (by omega) (by omega)]
    by_cases c : x.1 = 1
    · have c1 : is1 x = true := decide_eq_true c
      have := hd x hm c1
      rw [decide_eq_true c, cond_true, if_pos h2, if_pos (by omega), if_pos c1]
    · have c1 : ¬ is1 x = true := fun hh => c (of_decide_eq_true hh)
      rw [decide_eq_false c, cond_false, if_neg c1]
  · cases hs
    have hm : x ∈ out := List.mem_of_getElem? hx
    by_cases c : is1 x = true
    · rw [if_pos c, ByteArray.size_append, hd x hm c]; omega
    · rw [if_neg c]; omega
  · have : ¬ ((out.length : Int) < out.length) := by omega
    try dsimp only
    rw [decide_eq_false this]; rfl

theorem commitTakes (l : List Int) (acked mark : Int) (hm : 0 ≤ mark) (ha0 : 0 ≤ acked) : vmfleetlaw25_CommitTakes.f l acked mark = some true := by
  unfold vmfleetlaw25_CommitTakes.f
  rw [vmfleetlaw25_awake.ok]
  by_cases c1 : (l.length : Int) > 40
  · rw [decide_eq_true c1]; rfl
  by_cases c2 : mark > acked
  · rw [decide_eq_false c1, decide_eq_true c2]; rfl
  by_cases c3 : acked > 1000
  · rw [decide_eq_false c1, decide_eq_false c2, decide_eq_true c3]; rfl
  rw [decide_eq_false c1, decide_eq_false c2, decide_eq_false c3, cond_false, cond_false, cond_false]
  obtain ⟨out, e, h⟩ := outs_ok l (by omega)
  have hlen := h.len
  have hF : (out.filter gateB).length ≤ 40 := Nat.le_trans (List.length_filter_le _ _) (by omega)
  have hO : Ordered (out.filter gateB) := List.Pairwise.filter _ h.ord
  rw [e, Option.bind_some, hold_eq _ _ (by simp) (by omega), Option.bind_some, Option.bind_some, hold00 h (by omega)]
  dsimp only
  have hat : ∀ o ∈ out.filter gateB, 1 ≤ o.2.1 ∧ o.2.1 < 2000 := fun o ho => by
    have := h.at1 o (List.mem_filter.1 ho).1
    omega
  have hok : ∀ o ∈ out.filter gateB, okO o = true := fun o ho => h.ok o (List.mem_filter.1 ho).1 (List.mem_filter.1 ho).2
  have hgb : ∀ o ∈ out.filter gateB, gateB o = true := fun o ho => (List.mem_filter.1 ho).2
  have hkey : out.filter is1 = (out.filter gateB).filter is1 := by
    rw [List.filter_filter]
    refine List.filter_congr fun o _ => ?_
    cases hi : is1 o with
    | false => rfl
    | true => rw [is1_gate hi]; rfl
  have hsize : ∀ o : OutT, okO o = true → is1 o = true → o.2.2.2.size = 1 := fun o h1 h2 => by
    have c : o.1 = 1 := of_decide_eq_true h2
    unfold okO at h1
    rw [if_pos c, Bool.and_eq_true] at h1
    exact of_decide_eq_true h1.1
  have htext : ∀ o ∈ out, is1 o = true → o.2.2.2.size = 1 := fun o ho h1 => hsize o (h.ok o ho (is1_gate h1)) h1
  have hv0 := fil_valid h (a := 0) (by decide)
  generalize out.filter gateB = F at *
  have hK : ∀ o ∈ F.filter is1, o.1 = 1 ∧ o.2.2.2.size = 1 := fun o ho => by
    obtain ⟨h1, h2⟩ := List.mem_filter.1 ho
    exact ⟨of_decide_eq_true h2, hsize o (hok o h1) h2⟩
  -- what is released: at acked, at mark, and the rest
  have first : (relC (F, 0, 0) acked).2 = relL 0 (tw acked F) := by
    by_cases c : 0 < acked
    · rw [relC_eq (F, 0, 0) acked hv0 c (Int.le_refl 0) (by simp only; omega)]
    · have : acked = 0 := by omega
      subst this
      rw [relC_no _ _ (Int.le_refl 0)]
      have : tw 0 F = [] := by
        rw [tw_filter _ _ hO, List.filter_eq_nil_iff]
        intro o ho
        have := hat o ho
        rw [decide_eq_false (by omega)]
        decide
      rw [this]; rfl
  have hdwv : validL mark (dw mark F) = true := by
    rw [dw_filter _ _ hO]
    refine valid_of _ mark (List.Pairwise.filter _ hO) (fun o ho => hok o (List.mem_filter.1 ho).1) (fun o ho => ?_)
    exact of_decide_eq_true (List.mem_filter.1 ho).2
  have middle : (relC (F, 0, 0) mark).1 = (dw mark F, mark, (n1 (tw mark F) : Int)) := by
    by_cases c : 0 < mark
    · rw [relC_eq (F, 0, 0) mark hv0 c (Int.le_refl 0) (by simp only; omega)]
      dsimp only
      rw [Int.zero_add]
    · have : mark = 0 := by omega
      subst this
      rw [relC_no _ _ (Int.le_refl 0)]
      have h1 : tw 0 F = [] := by
        rw [tw_filter _ _ hO, List.filter_eq_nil_iff]
        intro o ho
        have := hat o ho
        rw [decide_eq_false (by omega)]
        decide
      have h2 := tw_dw 0 F
      rw [h1, List.nil_append] at h2
      rw [h1, h2]
      rfl
  have hsp := tw_dw mark F
  have hspl : (tw mark F).length + (dw mark F).length = F.length := by
    have := congrArg List.length hsp
    rw [List.length_append] at this
    exact this
  have hn1 := n1_le (tw mark F)
  have second : (relC (dw mark F, mark, (n1 (tw mark F) : Int)) 2000).2 = relL (n1 (tw mark F)) (dw mark F) := by
    rw [relC_eq _ 2000 hdwv (by simp only; omega) (by simp only; omega) (by simp only; omega)]
    dsimp only
    have hO2 : Ordered (dw mark F) := by rw [dw_filter _ _ hO]; exact List.Pairwise.filter _ hO
    rw [tw_filter _ _ hO2]
    have : (dw mark F).filter (fun o => decide (o.2.1 < 2000)) = dw mark F := by
      rw [List.filter_eq_self]
      intro o ho
      rw [dw_filter _ _ hO] at ho
      have := hat o (List.mem_filter.1 ho).1
      exact decide_eq_true this.2
    rw [this]
  rw [rel_eq _ _ (by simp only; omega), Option.bind_some, rel_eq _ _ (by simp only; omega), Option.bind_some, middle, rel_eq _ _ (by simp only; omega), Option.bind_some, first, second]
  -- the counts
  have hspa := tw_dw acked F
  have hspla : (tw acked F).length + (dw acked F).length = F.length := by
    have := congrArg List.length hspa
    rw [List.length_append] at this
    exact this
  have hfa : F.filter is1 = (tw acked F).filter is1 ++ (dw acked F).filter is1 := by rw [← List.filter_append, hspa]
  have hfm : F.filter is1 = (tw mark F).filter is1 ++ (dw mark F).filter is1 := by rw [← List.filter_append, hsp]
  have hla : (F.filter is1).length = n1 (tw acked F) + n1 (dw acked F) := by rw [hfa, List.length_append]; rfl
  have hlm : (F.filter is1).length = n1 (tw mark F) + n1 (dw mark F) := by rw [hfm, List.length_append]; rfl
  have hle : n1 (tw mark F) ≤ n1 (tw acked F) := by
    have e1 : tw mark F = (tw acked F).filter (fun o => decide (o.2.1 < mark)) := by
      rw [tw_filter _ _ hO, tw_filter _ _ hO, List.filter_filter]
      refine List.filter_congr fun o _ => ?_
      by_cases c : o.2.1 < mark
      · rw [decide_eq_true c, decide_eq_true (show o.2.1 < acked by omega)]; rfl
      · rw [decide_eq_false c]; rfl
    have e2 : n1 (tw mark F) = (((tw acked F).filter is1).filter (fun o => decide (o.2.1 < mark))).length := by
      rw [e1]
      unfold n1
      rw [List.filter_filter, List.filter_filter]
      congr 1
      refine List.filter_congr fun o _ => Bool.and_comm _ _
    rw [e2]
    exact List.length_filter_le _ _
  have memTw : ∀ m, ∀ o ∈ tw m F, o ∈ F := fun m o ho => by rw [tw_filter _ _ hO] at ho; exact (List.mem_filter.1 ho).1
  have memDw : ∀ m, ∀ o ∈ dw m F, o ∈ F := fun m o ho => by rw [dw_filter _ _ hO] at ho; exact (List.mem_filter.1 ho).1
  obtain ⟨fr1, s1, s2⟩ := show_part (F.filter is1) hK (tw acked F) 0 0 [] (fun o ho => hgb o (memTw _ o ho)) (by rw [List.drop_zero, hfa]; exact (@List.take_left _ ((tw acked F).filter is1) ((dw acked F).filter is1)).symm) (by omega) (Nat.le_refl 0) (Nat.zero_le _)
  rw [List.take_zero, Nat.zero_add, Nat.max_eq_right (Nat.zero_le _)] at s1
  obtain ⟨fr2, s3, s4⟩ := show_part (F.filter is1) hK (dw mark F) (n1 (tw mark F)) (n1 (tw acked F)) fr1 (fun o ho => hgb o (memDw _ o ho))
    (by
      have : (F.filter is1).drop (n1 (tw mark F)) = (dw mark F).filter is1 := by rw [hfm]; exact @List.drop_left _ ((tw mark F).filter is1) ((dw mark F).filter is1)
      rw [this]
      exact (List.take_of_length_le (Nat.le_refl _)).symm) (by omega) hle (by omega)
  have hmax : max (n1 (tw acked F)) (n1 (tw mark F) + n1 (dw mark F)) = (F.filter is1).length := by omega
  rw [hmax, List.take_of_length_le (Nat.le_refl _)] at s3
  have hF1 : (F.filter is1).length ≤ 40 := Nat.le_trans (List.length_filter_le _ _) hF
  have hfr : fr1.length ≤ 1000 := by
    have h3 := s2
    simp only [List.length_nil] at h3
    omega
  have hcat : (cat ((F.filter is1).take (n1 (tw acked F)))).size ≤ 1000 := by
    rw [cat_size _ fun o ho => (hK o (List.mem_of_mem_take ho)).2, List.length_take]; omega
  have hR1 : (relL 0 (tw acked F)).length ≤ 1000 := by rw [relL_len]; omega
  have hR2 : (relL (n1 (tw mark F) : Int) (dw mark F)).length ≤ 1000 := by rw [relL_len]; omega
  have l1 := show_loop (relL 0 (tw acked F)) ((⟨#[]⟩ : ByteArray), []) (show (0 : Nat) ≤ 1000 by omega) (by simp) hR1 (relL_nonneg _ _ (Int.le_refl 0))
  have l2 := show_loop (relL (n1 (tw mark F) : Int) (dw mark F)) (cat ((F.filter is1).take (n1 (tw acked F))), fr1) hcat hfr hR2 (relL_nonneg _ _ (by omega))
  have s1' : foldE showF (fun s => (.inl s : Seen ⊕ Bool)) ((⟨#[]⟩ : ByteArray), []) (relL 0 (tw acked F)) = .inl (cat ((F.filter is1).take (n1 (tw acked F))), fr1) := s1
  rw [s1'] at l1
  rw [s3] at l2
  refine bind25 l1 ?_
  dsimp only
  refine bind25 l2 ?_
  dsimp only
  refine bind25 (text_loop out (by omega) htext) ?_
  dsimp only
  rw [cond_true, cond_true, hkey, decide_eq_true rfl, cond_true]
  rfl

theorem vmfleetlaw25_CommitTakes.pure (x : (tup vmfleetlaw25_CommitTakes.sp.args).den) (h : WfL vmfleetlaw25_CommitTakes.sp.args x) : vmfleetlaw25_CommitTakes.sp.f x = some true :=
  commitTakes x.1 x.2.1 x.2.2 h.2.2.1 h.2.1.1

end Go.Proofs.Ytapngmfecjhlfaa.Fn
