/- The law MajorityVotes, in numbers and lists: the program's votes and the reference's are the same for every input. No condition but the sizes that the row gives. -/
import Derived.Test.YtjelamodjpepkaaVaEv3
namespace Go.Proofs.Ytjelamodjpepkaa.Pure
open Go.RowKit Go.Proofs.Ytjelamodjpepkaa.P Go.Proofs.Ytjelamodjpepkaa.B
theorem MajorityVotes : codewrightlaw43_MajorityVotes.Pure := by
  intro m vars y _ _ h1 _ _ h2 _
  exact (MajorityVotes_tl m vars y (by omega) (by omega)).get
end Go.Proofs.Ytjelamodjpepkaa.Pure
