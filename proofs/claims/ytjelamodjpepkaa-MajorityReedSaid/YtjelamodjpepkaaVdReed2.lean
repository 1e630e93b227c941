/- What the program's Reed answers. -/
import Derived.Test.YtjelamodjpepkaaVdReed1
namespace Go.Proofs.Ytjelamodjpepkaa.B
open Go.RowKit Go.Proofs.YtjelamodjpepkaaW.PrintWords Go.Proofs.YtjelamodjpepkaaW.PrintMore Go.Proofs.Ytjelamodjpepkaa.P
set_option linter.unusedVariables false

theorem mons_check : ∀ m : Nat, m < 7 → ∀ s, s < 8 → ((monsTo m s).all fun vs => decide (vs.length < s) && ascB m (-1) vs) = true ∧ ((combs1 s m 0 []).all fun vs => decide (vs.length = s) && ascB m (-1) vs) = true ∧ (s ≤ m → 0 < (combs1 s m 0 []).length) := by decide +kernel
theorem mons_at (m : Nat) (hm : m < 7) (s : Nat) (hs : s < 8) : (∀ vs ∈ monsTo m s, vs.length < s ∧ ascB m (-1) vs = true) ∧ (∀ vs ∈ combs1 s m 0 [], vs.length = s ∧ ascB m (-1) vs = true) ∧ (s ≤ m → 0 < (combs1 s m 0 []).length) := by
  obtain ⟨h1, h2, h3⟩ := mons_check m hm s hs
  rw [List.all_eq_true] at h1 h2
  refine ⟨fun vs hv => ?_, fun vs hv => ?_, h3⟩
  · have := h1 vs hv; simpa using this
  · have := h2 vs hv; simpa using this
theorem tog_bit (n : Nat) (y : List Int) (T p : Nat) : Bit (tog n y T p) := by
  unfold tog
  cases maj n T y with
  | true => exact evp_bit T p
  | false => exact .inl rfl
theorem getD_append_mid {α : Type} (A : List α) (b : α) (C : List α) (d : α) : (A ++ b :: C).getD A.length d = b := by simp [List.getD_eq_getElem?_getD]
/-- One degree: the monomials B, from the last to the first. -/
theorem p_block (m : Nat) (hm : m < 7) (x0 : Int) (x2 : List Int) (A C : List (List Int)) (x12 : List Int) (s : Nat) (hA : ∀ vs ∈ A, vs.length < s) (hAl : A.length < 1000) (r : Nat → Int) (hr : ∀ p, p < 2 ^ m → Bit (r p)) (R : List Int × List Int × Int) (hx2 : x2.length = 2 ^ m) (x9 : List (List Int)) (Bf : List (List Int))
    (hk : Tl (fun k => majority_Reed.l4 k x0 (m : Int) x2 x9 (tab (2 ^ m) r) x12 (A.length : Int) (tab (2 ^ m) fun p => pol (2 ^ m) (tab (2 ^ m) r) Bf p % 2) ((2 ^ m : Nat) : Int) 0) R) :
    ∀ (B D : List (List Int)), (∀ vs ∈ B, vs.length = s ∧ ascB m (-1) vs = true) → B.length < 1000 → Bf = B ++ D → x9 = A ++ (B ++ (D ++ C)) →
      Tl (fun k => majority_Reed.l1 k x0 (m : Int) x2 x9 (tab (2 ^ m) r) x12 ((A.length + B.length : Nat) : Int) (s : Int) (tab (2 ^ m) fun p => pol (2 ^ m) (tab (2 ^ m) r) D p % 2)) R := by
  have h64 : 2 ^ m ≤ 2 ^ 6 := Nat.pow_le_pow_right (by decide) (by omega)
  intro B
  induction hb : B.length generalizing B with
  | zero =>
    intro D hB hBl e1 e2
    have hB0 : B = [] := List.length_eq_zero_iff.1 hb
    subst hB0
    rw [List.nil_append] at e1
    subst e1
    have hj3 : Tl (fun k => majority_Reed.j3 k x0 (m : Int) x2 x9 (tab (2 ^ m) r) x12 (A.length : Int) (s : Int) (tab (2 ^ m) fun p => pol (2 ^ m) (tab (2 ^ m) r) Bf p % 2) false) R := by
      refine Tl.step (fun k => by rw [majority_Reed.j3]) ?_
      rw [tab_length]
      exact Tl.neg (by decide) hk
    rw [Nat.add_zero]
    refine Tl.step (fun k => by rw [majority_Reed.l1]) ?_
    by_cases hA0 : A.length = 0
    · exact Tl.neg (by omega) hj3
    · rw [w64 (by omega) (by omega)]
      refine Tl.pos (by omega) (Tl.pos (by omega) (Tl.pos (by rw [e2]; simp; omega) ?_))
      have hlast : rd_L1 x9 ((A.length : Int) - 1) = A.getD (A.length - 1) [] := by
        unfold rd_L1
        rw [e2, show ((A.length : Int) - 1).toNat = A.length - 1 from by omega, List.getD_eq_getElem?_getD, List.getD_eq_getElem?_getD, List.getElem?_append_left (by omega)]
      have hmem : A.getD (A.length - 1) [] ∈ A := by
        rw [List.getD_eq_getElem?_getD, List.getElem?_eq_getElem (by omega)]
        exact List.getElem_mem _
      have hlt := hA _ hmem
      rw [hlast, show (((A.getD (A.length - 1) []).length : Int) == (s : Int)) = false from beq_eq_false_iff_ne.2 (by omega)]
      exact hj3
  | succ l ih =>
    intro D hB hBl e1 e2
    have hBne : B ≠ [] := by intro e; rw [e] at hb; simp at hb
    obtain ⟨B', vs, rfl⟩ : ∃ B' vs, B = B' ++ [vs] := ⟨B.dropLast, B.getLast hBne, (List.dropLast_concat_getLast hBne).symm⟩
    have hl' : B'.length = l := by simpa using hb
    obtain ⟨hvl, hva⟩ := hB vs (by simp)
    have hT := asc_mask_lt hva
    have hnn := asc_nonneg _ vs (-1) (by omega) hva
    have hs6 : vs.length < 9223372036854775808 := by
      have := asc_vars (m := m) (by omega) hva
      rw [this, varsOf_length _ (by omega)]
      have := popc_le m hm _ hT
      omega
    have hrd : rd_L1 x9 (((A.length + (l + 1) : Nat) : Int) - 1) = vs := by
      unfold rd_L1
      rw [e2, show (((A.length + (l + 1) : Nat) : Int) - 1).toNat = A.length + B'.length from by omega, show A ++ (B' ++ [vs] ++ (D ++ C)) = (A ++ B') ++ vs :: (D ++ C) from by simp, ← List.length_append]
      exact getD_append_mid (A ++ B') vs (D ++ C) []
    have hlen9 : ((A.length + (l + 1) : Nat) : Int) - 1 < (x9.length : Int) := by rw [e2]; simp; omega
    have hBits : isBits (tab (2 ^ m) r) = true := isBits_tab _ _ hr
    have hnext : Tl (fun k => majority_Reed.l1 k x0 (m : Int) x2 x9 (tab (2 ^ m) r) x12 ((A.length + l : Nat) : Int) (s : Int) (tab (2 ^ m) fun p => pol (2 ^ m) (tab (2 ^ m) r) (vs :: D) p % 2)) R :=
      ih B' hl' (vs :: D) (fun v hv => hB v (by simp [hv])) (by omega) (by simpa using e1) (by simpa using e2)
    have ew : wrap64 (((A.length + (l + 1) : Nat) : Int) - 1) = ((A.length + l : Nat) : Int) := by rw [w64 (by omega) (by omega)]; omega
    have ew2 : ((A.length + (l + 1) : Nat) : Int) - 1 = ((A.length + l : Nat) : Int) := by omega
    rw [ew2] at hrd hlen9
    refine Tl.step (fun k => by rw [majority_Reed.l1]) ?_
    rw [ew]
    refine Tl.pos (by omega) (Tl.pos (by omega) (Tl.pos hlen9 ?_))
    rw [hrd, hvl, show ((s : Int) == (s : Int)) = true from by simp]
    refine Tl.step (fun k => by rw [majority_Reed.j3]) ?_
    rw [ew]
    refine Tl.pos rfl (Tl.pos (by omega) (Tl.pos hlen9 ?_))
    rw [hrd]
    refine Tl.bind (mask_tl vs hs6 (fun v hv => by have := hnn v hv; omega)) (Tl.bind (votes_tl m hm _ hBits (by simp) _ hT) ?_)
    have hvb := bitsum _ (votes_bit (2 ^ m) (maskOf vs 0) (tab (2 ^ m) r))
    have hvl64 := votes_len (2 ^ m) (maskOf vs 0) (tab (2 ^ m) r)
    refine p_ones x0 m x2 x9 _ x12 _ _ _ _ _ (votes_bit _ _ _) (by omega) R ?_ _ 0 rfl (Nat.zero_le _)
    rw [w64 (by omega) (by omega), ew]
    by_cases hmaj : maj (2 ^ m) (maskOf vs 0) (tab (2 ^ m) r) = true
    · have h2 := of_decide_eq_true hmaj
      refine Tl.neg (by omega) ?_
      rw [tab_length]
      have hg := p_tog x0 m x2 x9 (tab (2 ^ m) r) x12 ((A.length + (l + 1) : Nat) : Int) s (maskOf vs 0) (2 ^ m) (by omega) h64 (fun p => pol (2 ^ m) (tab (2 ^ m) r) D p % 2) (fun p _ => bit_mod _) R ?_ _ 0 rfl (Nat.zero_le _)
      · rw [tab_congr (n := 2 ^ m) (g := fun p => if p < 0 then (pol (2 ^ m) (tab (2 ^ m) r) D p % 2 + evp (maskOf vs 0) p) % 2 else pol (2 ^ m) (tab (2 ^ m) r) D p % 2) (h := fun p => pol (2 ^ m) (tab (2 ^ m) r) D p % 2) (fun p _ => if_neg (by omega))] at hg
        exact hg
      · rw [ew, tab_congr (n := 2 ^ m) (g := fun p => (pol (2 ^ m) (tab (2 ^ m) r) D p % 2 + evp (maskOf vs 0) p) % 2) (h := fun p => pol (2 ^ m) (tab (2 ^ m) r) (vs :: D) p % 2)]
        · exact hnext
        · intro p _
          rw [pol_cons, tog, hmaj]
          show _ = (evp (maskOf vs 0) p + _) % 2
          omega
    · have hmf : maj (2 ^ m) (maskOf vs 0) (tab (2 ^ m) r) = false := by simpa using hmaj
      have h2 := of_decide_eq_false hmf
      refine Tl.pos (by omega) ?_
      rw [tab_congr (n := 2 ^ m) (g := fun p => pol (2 ^ m) (tab (2 ^ m) r) D p % 2) (h := fun p => pol (2 ^ m) (tab (2 ^ m) r) (vs :: D) p % 2)]
      · exact hnext
      · intro p _
        rw [pol_cons, tog, hmf]
        show _ = (0 + _) % 2
        omega
end Go.Proofs.Ytjelamodjpepkaa.B
