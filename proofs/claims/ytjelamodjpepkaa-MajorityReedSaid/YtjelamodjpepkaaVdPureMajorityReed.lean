import Derived.Test.YtjelamodjpepkaaVdReed4
import Derived.Test.YtjelamodjpepkaaVdP3
namespace Go.Proofs.Ytjelamodjpepkaa.B
open Go.RowKit Go.Proofs.YtjelamodjpepkaaW.PrintWords Go.Proofs.YtjelamodjpepkaaW.PrintMore Go.Proofs.Ytjelamodjpepkaa.P
theorem same43_tl (a1 a2 b1 b2 : List Int) (h1 : a1.length < 9223372036854775808) (h2 : a2.length < 9223372036854775808) : Tl (fun k => codewrightref43_Same.f k a1 a2 b1 b2) (decide (a1 = b1) && decide (a2 = b2)) := by
  unfold codewrightref43_Same.f
  refine Tl.bind (same_tl a1 b1 h1) ?_
  by_cases h : a1 = b1
  · rw [decide_eq_true h]
    exact Tl.pos rfl (Tl.bind (same_tl a2 b2 h2) (Tl.now _))
  · rw [decide_eq_false h]
    exact Tl.neg (by decide) (Tl.now _)
theorem reedS_len (r m : Int) (y : List Int) : (reedS r m y).1.length < 9223372036854775808 ∧ (reedS r m y).2.1.length < 9223372036854775808 := by
  unfold reedS
  by_cases hbad : m < 0 ∨ m > 6 ∨ r < 0 ∨ r > m
  · rw [if_pos hbad]; simp
  · rw [if_neg hbad]
    have h64 : 2 ^ m.toNat ≤ 2 ^ 6 := Nat.pow_le_pow_right (by decide) (by omega)
    by_cases hb : bitsS (2 ^ m.toNat) y = 0
    · rw [if_pos hb]
      unfold fin
      split
      · simp
      · have := errsTo_len (tab (2 ^ m.toNat) (runW m.toNat y (r.toNat + 1) fun _ => 0)) y (tab (2 ^ m.toNat) (runW m.toNat y (r.toNat + 1) fun _ => 0)).length
        rw [tab_length] at this
        simp only [tab_length]
        omega
    · rw [if_neg hb]; simp
end Go.Proofs.Ytjelamodjpepkaa.B
namespace Go.Proofs.Ytjelamodjpepkaa.Pure
open Go.RowKit Go.Proofs.Ytjelamodjpepkaa.P Go.Proofs.Ytjelamodjpepkaa.B
theorem MajorityReed : codewrightlaw43_MajorityReed.Pure := by
  intro r m y h1 h2 h3 h4 h5
  refine Tl.get ?_
  simp only [maxLen] at h3
  have hl : y.length < 9223372036854775808 := by omega
  unfold codewrightlaw43_MajorityReed.f
  refine Tl.bind (pReed_tl r m y hl) (Tl.bind (rReed_tl r m y hl) (Tl.pos rfl (Tl.bind (same43_tl _ _ _ _ (reedS_len r m y).1 (reedS_len r m y).2) (Tl.pos (by simp) (Tl.bind alive43_tl (Tl.now _))))))
end Go.Proofs.Ytjelamodjpepkaa.Pure
