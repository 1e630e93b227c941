/- The reference's list of monomials is the program's (a check by the kernel over the 35 cases). -/
import Derived.Test.YtjelamodjpepkaaVcEv1
import Derived.Test.YtjelamodjpepkaaVcHMono2
namespace Go.Proofs.Ytjelamodjpepkaa.B
open Go.RowKit Go.Proofs.YtjelamodjpepkaaW.PrintWords Go.Proofs.YtjelamodjpepkaaW.PrintMore Go.Proofs.Ytjelamodjpepkaa.P
set_option linter.unusedVariables false
theorem Tl.of {α : Type} {g : Nat → Option α} {r : α} (hg : ∀ k, LeO (g k) (g (k + 1))) {k : Nat} (h : g k = some r) : Tl g r := ⟨k, fun _ hk => at_rounds hg hk h⟩
set_option maxRecDepth 100000 in
theorem rmons_check : ((List.range 7).all fun m => (List.range (m + 2)).all fun s => decide (codewrightref15_Monomials.f 400 ((s : Int) - 1) (m : Int) = some (monsTo m s, 0))) = true := by decide +kernel
theorem rmons_all (m : Nat) (hm : m < 7) (s : Nat) (hs : s < m + 2) : codewrightref15_Monomials.f 400 ((s : Int) - 1) (m : Int) = some (monsTo m s, 0) := by
  have h := rmons_check
  rw [List.all_eq_true] at h
  have h2 := h m (by simpa using hm)
  rw [List.all_eq_true] at h2
  exact of_decide_eq_true (h2 s (by simpa using hs))
/-- What Monomials answers. -/
def monS (r m : Int) : List (List Int) × Int := if m < 0 ∨ m > 6 ∨ r < -1 ∨ r > m then ([], 6) else (monsTo m.toNat (r + 1).toNat, 0)
theorem rMon_tl (r m : Int) : Tl (fun k => codewrightref15_Monomials.f k r m) (monS r m) := by
  unfold monS
  by_cases hbad : m < 0 ∨ m > 6 ∨ r < -1 ∨ r > m
  · rw [if_pos hbad]
    unfold codewrightref15_Monomials.f
    by_cases h1 : m < 0
    · refine Tl.pos h1 ?_
      refine Tl.step (fun k => by rw [codewrightref15_Monomials.j0]) ?_
      exact Tl.pos rfl (Tl.now _)
    refine Tl.neg h1 ?_
    by_cases h2 : m > 6
    · refine Tl.pos h2 ?_
      refine Tl.step (fun k => by rw [codewrightref15_Monomials.j0]) ?_
      exact Tl.pos rfl (Tl.now _)
    refine Tl.neg h2 ?_
    by_cases h3 : r < -1
    · refine Tl.pos h3 ?_
      refine Tl.step (fun k => by rw [codewrightref15_Monomials.j0]) ?_
      exact Tl.pos rfl (Tl.now _)
    refine Tl.neg h3 ?_
    refine Tl.step (fun k => by rw [codewrightref15_Monomials.j0]) ?_
    exact Tl.pos (by simp; omega) (Tl.now _)
  · rw [if_neg hbad]
    obtain ⟨n, rfl⟩ := Int.eq_ofNat_of_zero_le (show 0 ≤ m by omega)
    obtain ⟨s, hs⟩ := Int.eq_ofNat_of_zero_le (show 0 ≤ r + 1 by omega)
    obtain rfl : r = (s : Int) - 1 := by omega
    have h := rmons_all n (by omega) s (by omega)
    rw [show ((s : Int) - 1 + 1).toNat = s from by omega, toNat_nat]
    exact Tl.of (codewrightref15_Monomials.mono _ _) h
theorem cMon_eq (r m : Int) : classic_Monomials.f r m = some (monS r m) := by
  unfold classic_Monomials.f monS
  split <;> rfl
theorem monS_len (r m : Int) : (monS r m).1.length < 9223372036854775808 ∧ ∀ x ∈ (monS r m).1, x.length < 9223372036854775808 := by
  have H : ∀ m, m < 7 → ∀ s, s < m + 2 → (monsTo m s).length ≤ 64 ∧ (monsTo m s).all (fun x => decide (x.length ≤ 6)) = true := by decide +kernel
  unfold monS
  by_cases hbad : m < 0 ∨ m > 6 ∨ r < -1 ∨ r > m
  · rw [if_pos hbad]; simp
  · rw [if_neg hbad]
    obtain ⟨h1, h2⟩ := H m.toNat (by omega) (r + 1).toNat (by omega)
    rw [List.all_eq_true] at h2
    refine ⟨by show (monsTo m.toNat (r + 1).toNat).length < _; omega, fun x hx => ?_⟩
    have := h2 x hx
    simp at this
    omega
theorem alive15_tl : Tl (fun k => codewrightlaw15_alive.f k) true := by
  unfold codewrightlaw15_alive.f
  refine Tl.bind (cE_tl 2 [0, 1] (by decide)) ?_
  have e : evS 2 [0, 1] = ([0, 0, 0, 1], 0) := by decide +kernel
  rw [e]
  exact Tl.one (by decide +kernel)
theorem evS_len (m : Int) (vars : List Int) : (evS m vars).1.length < 9223372036854775808 := by
  unfold evS
  by_cases hb : m < 0 ∨ 6 < m
  · rw [if_pos hb]; exact (by decide : 0 < 9223372036854775808)
  · rw [if_neg hb]
    cases ascB m (-1) vars with
    | false => exact (by decide : 0 < 9223372036854775808)
    | true =>
      show (evT m.toNat (maskOf vars 0)).length < _
      unfold evT
      rw [tab_length]
      have : 2 ^ m.toNat ≤ 2 ^ 6 := Nat.pow_le_pow_right (by decide) (by omega)
      omega
end Go.Proofs.Ytjelamodjpepkaa.B
