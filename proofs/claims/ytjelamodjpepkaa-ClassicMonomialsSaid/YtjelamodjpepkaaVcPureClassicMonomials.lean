/- The law ClassicMonomials, in numbers and lists: the program's monomials and their values are the reference's, for every input. -/
import Derived.Test.YtjelamodjpepkaaVcMon
import Derived.Test.YtjelamodjpepkaaVcEv2
namespace Go.Proofs.Ytjelamodjpepkaa.Pure
open Go.RowKit Go.Proofs.Ytjelamodjpepkaa.P Go.Proofs.Ytjelamodjpepkaa.B
theorem ClassicMonomials : codewrightlaw15_ClassicMonomials.Pure := by
  intro r m vars _ _ h1 _ _
  simp only [maxLen] at h1
  have hl : vars.length < 9223372036854775808 := by omega
  refine Tl.get ?_
  unfold codewrightlaw15_ClassicMonomials.f
  refine Tl.bind1 (cMon_eq r m) (Tl.bind (rMon_tl r m) (Tl.bind (cE_tl m vars hl) (Tl.bind (rE_tl m vars hl) ?_)))
  refine Tl.pos rfl (Tl.bind (sameLists_tl _ _ (monS_len r m).1 (monS_len r m).2) (Tl.pos (by simp) (Tl.pos rfl ?_)))
  exact Tl.bind (same_tl _ _ (evS_len m vars)) (Tl.pos (by simp) (Tl.bind alive15_tl (Tl.now _)))
end Go.Proofs.Ytjelamodjpepkaa.Pure
