/- A check by the kernel: of all monomials of at most as many variables, just the same one has odd votes. -/
import Derived.Test.YtjelamodjpepkaaVdEv3
namespace Go.Proofs.Ytjelamodjpepkaa.B
def popc (x : Nat) : Nat := (List.range 6).countP fun i => x.testBit i
def voteCheck (S p T : Nat) : Bool := (((subL 64 S S).map fun s => if (p ||| s) &&& T == T then (1 : Int) else 0).sum % 2 == if T == S then 1 else 0)
theorem vote_mono_all : ∀ S, S < 64 → ∀ p, p < 64 → p &&& S = 0 → ∀ T, T < 64 → popc T ≤ popc S → voteCheck S p T = true := by decide +kernel
end Go.Proofs.Ytjelamodjpepkaa.B
