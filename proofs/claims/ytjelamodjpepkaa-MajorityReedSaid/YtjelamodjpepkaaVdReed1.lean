/- What the program's Reed computes: from the highest degree down, the sum of the monomials with a majority of votes. -/
import Derived.Test.YtjelamodjpepkaaVdHMono2
import Derived.Test.YtjelamodjpepkaaVdRm1
import Derived.Test.YtjelamodjpepkaaVdP3
namespace Go.Proofs.Ytjelamodjpepkaa.B
open Go.RowKit Go.Proofs.YtjelamodjpepkaaW.PrintWords Go.Proofs.YtjelamodjpepkaaW.PrintMore Go.Proofs.Ytjelamodjpepkaa.P
set_option linter.unusedVariables false

theorem Tl.of2 {α : Type} {g : Nat → Option α} {r : α} (hg : ∀ k, LeO (g k) (g (k + 1))) {k : Nat} (h : g k = some r) : Tl g r := ⟨k, fun _ hk => at_rounds hg hk h⟩
/-- More than half of the votes are ones. -/
def maj (n T : Nat) (y : List Int) : Bool := decide (2 * (votesS n T y).sum > ((votesS n T y).length : Int))
def tog (n : Nat) (y : List Int) (T p : Nat) : Int := bif maj n T y then evp T p else 0
/-- The sum of the monomials that have a majority. -/
def pol (n : Nat) (y : List Int) (ms : List (List Int)) (p : Nat) : Int := (ms.map fun vs => tog n y (maskOf vs 0) p).sum
theorem pol_cons (n : Nat) (y : List Int) (vs : List Int) (ms : List (List Int)) (p : Nat) : pol n y (vs :: ms) p = tog n y (maskOf vs 0) p + pol n y ms p := rfl
theorem pol_append (n : Nat) (y : List Int) (a b : List (List Int)) (p : Nat) : pol n y (a ++ b) p = pol n y a p + pol n y b p := by simp [pol]
/-- The word, from the degrees below s. -/
def runW (m : Nat) (y : List Int) : Nat → (Nat → Int) → (Nat → Int)
  | 0, b => b
  | s + 1, b => runW m y s (fun p => (b p + pol (2 ^ m) (tab (2 ^ m) fun q => (y.getD q 0 + b q) % 2) (combs1 s m 0 []) p) % 2)
theorem bitsum : ∀ L : List Int, (∀ v ∈ L, Bit v) → 0 ≤ L.sum ∧ L.sum ≤ L.length
  | [], _ => by simp
  | a :: l, h => by
    have h1 := bitsum l fun v hv => h v (List.mem_cons_of_mem _ hv)
    have h2 := h a (List.mem_cons_self ..)
    simp only [List.sum_cons, List.length_cons]
    unfold Bit at h2
    omega
theorem sum_take_succ (L : List Int) (i : Nat) (h : i < L.length) : (L.take (i + 1)).sum = (L.take i).sum + L.getD i 0 := by
  rw [List.take_add_one, List.sum_append, List.getD_eq_getElem?_getD, List.getElem?_eq_getElem h]
  simp
theorem bit_mem_take {L : List Int} (hb : ∀ v ∈ L, Bit v) (i : Nat) : ∀ v ∈ L.take i, Bit v := fun v hv => hb v (List.mem_of_mem_take hv)
theorem votes_bit (n T : Nat) (y : List Int) : ∀ v ∈ votesS n T y, Bit v := by
  intro v hv
  obtain ⟨p, _, rfl⟩ := List.mem_map.1 hv
  exact bit_mod _
theorem votes_len (n T : Nat) (y : List Int) : (votesS n T y).length ≤ n := by
  unfold votesS
  rw [List.length_map]
  have := List.length_filter_le (fun p => p &&& T == 0) (List.range n)
  simpa using this
theorem p_ones (x0 x1 : Int) (x2 : List Int) (x9 : List (List Int)) (x11 x12 : List Int) (x13 x14 : Int) (x15 : List Int) (x16 : Int) (L : List Int) (hb : ∀ v ∈ L, Bit v) (hl : L.length ≤ 64) (R : List Int × List Int × Int)
    (hk : Tl (fun k => if wrap64 (2 * L.sum) ≤ (L.length : Int) then majority_Reed.l1 k x0 x1 x2 x9 x11 x12 (wrap64 (x13 - 1)) x14 x15 else majority_Reed.l3 k x0 x1 x2 x9 x11 x12 x13 x14 x15 x16 (x15.length : Int) 0) R) :
    ∀ (d i : Nat), L.length - i = d → i ≤ L.length → Tl (fun k => majority_Reed.l2 k x0 x1 x2 x9 x11 x12 x13 x14 x15 x16 (L.take i).sum L L (L.length : Int) (i : Int)) R := by
  intro d
  induction d with
  | zero =>
    intro i hd hi
    rw [List.take_of_length_le (by omega)]
    refine Tl.step (fun k => by rw [majority_Reed.l2]) ?_
    exact Tl.neg (by omega) hk
  | succ d ih =>
    intro i hd hi
    have hlt : i < L.length := by omega
    have hs := bitsum (L.take (i + 1)) (bit_mem_take hb _)
    rw [List.length_take] at hs
    refine Tl.step (fun k => by rw [majority_Reed.l2]) ?_
    rw [rd_nat, ← sum_take_succ L i hlt, w64 (n := (L.take (i + 1)).sum) (by omega) (by omega), w64s i (by omega)]
    exact Tl.pos (by omega) (Tl.pos (by omega) (Tl.pos (by omega) (ih (i + 1) (by omega) (by omega))))
theorem evp_bit (T p : Nat) : Bit (evp T p) := by
  unfold evp Bit
  split <;> simp
theorem p_tog (x0 x1 : Int) (x2 : List Int) (x9 : List (List Int)) (x11 x12 : List Int) (x13 x14 : Int) (T n : Nat) (hT : T < 64) (hn : n ≤ 64) (g : Nat → Int) (hg : ∀ p, p < n → Bit (g p)) (R : List Int × List Int × Int)
    (hk : Tl (fun k => majority_Reed.l1 k x0 x1 x2 x9 x11 x12 (wrap64 (x13 - 1)) x14 (tab n fun p => (g p + evp T p) % 2)) R) :
    ∀ (d i : Nat), n - i = d → i ≤ n → Tl (fun k => majority_Reed.l3 k x0 x1 x2 x9 x11 x12 x13 x14 (tab n fun p => if p < i then (g p + evp T p) % 2 else g p) (T : Int) (n : Int) (i : Int)) R := by
  intro d
  induction d with
  | zero =>
    intro i hd hi
    rw [tab_congr (h := fun p => (g p + evp T p) % 2) (fun p hp => if_pos (by omega))]
    refine Tl.step (fun k => by rw [majority_Reed.l3]) ?_
    exact Tl.neg (by omega) hk
  | succ d ih =>
    intro i hd hi
    have hb := (bits_nat i T (by omega) (by omega)).1
    have hgi := hg i (by omega)
    have hnext : Tl (fun k => majority_Reed.l3 k x0 x1 x2 x9 x11 x12 x13 x14 (tab n fun p => if p < i + 1 then (g p + evp T p) % 2 else g p) (T : Int) (n : Int) ((i + 1 : Nat) : Int)) R := ih (i + 1) (by omega) (by omega)
    refine Tl.step (fun k => by rw [majority_Reed.l3]) ?_
    refine Tl.pos (by omega) ?_
    rw [hb, w64s i (by omega)]
    by_cases e : i &&& T = T
    · refine Tl.pos (by rw [e]) (Tl.pos (by omega) (Tl.pos (by simp; omega) ?_))
      rw [toNat_nat, tab_rd i (by omega), if_neg (by omega), xor_bit hgi (.inr rfl), tab_set _ _ (by omega)]
      rw [tab_congr (h := fun p => if p < i + 1 then (g p + evp T p) % 2 else g p)]
      · exact hnext
      · intro p hp
        by_cases e2 : p = i
        · subst e2; rw [if_pos rfl, if_pos (by omega), evp, if_pos e]
        · rw [if_neg e2]; exact ite_iff ⟨fun h => by omega, fun h => by omega⟩
    · refine Tl.neg (by omega) ?_
      rw [tab_congr (h := fun p => if p < i + 1 then (g p + evp T p) % 2 else g p)]
      · exact hnext
      · intro p hp
        by_cases e2 : p = i
        · subst e2; rw [if_neg (by omega), if_pos (by omega), evp, if_neg e]; unfold Bit at hgi; omega
        · exact ite_iff ⟨fun h => by omega, fun h => by omega⟩
theorem p_add (x0 x1 : Int) (x2 : List Int) (x9 : List (List Int)) (x13 : Int) (n : Nat) (hn : n ≤ 64) (s a b : Nat → Int) (hs : ∀ p, p < n → Bit (s p)) (ha : ∀ p, p < n → Bit (a p)) (hb : ∀ p, p < n → Bit (b p)) (R : List Int × List Int × Int)
    (hk : Tl (fun k => majority_Reed.l0 k x0 x1 x2 x9 (tab n fun p => (a p + s p) % 2) (tab n fun p => (b p + s p) % 2) x13) R) :
    ∀ (d i : Nat), n - i = d → i ≤ n → Tl (fun k => majority_Reed.l4 k x0 x1 x2 x9 (tab n fun p => if p < i then (a p + s p) % 2 else a p) (tab n fun p => if p < i then (b p + s p) % 2 else b p) x13 (tab n s) (n : Int) (i : Int)) R := by
  intro d
  induction d with
  | zero =>
    intro i hd hi
    rw [tab_congr (h := fun p => (a p + s p) % 2) (fun p hp => if_pos (by omega)), tab_congr (h := fun p => (b p + s p) % 2) (fun p hp => if_pos (by omega))]
    refine Tl.step (fun k => by rw [majority_Reed.l4]) ?_
    exact Tl.neg (by omega) hk
  | succ d ih =>
    intro i hd hi
    have hnext := ih (i + 1) (by omega) (by omega)
    refine Tl.step (fun k => by rw [majority_Reed.l4]) ?_
    refine Tl.pos (by omega) (Tl.pos (by omega) (Tl.pos (by simp; omega) (Tl.pos (by simp; omega) (Tl.pos (by simp; omega) ?_))))
    rw [toNat_nat, tab_rd i (by omega), tab_rd i (by omega), tab_rd i (by omega), if_neg (by omega), if_neg (by omega), xor_bit (ha i (by omega)) (hs i (by omega)), xor_bit (hb i (by omega)) (hs i (by omega)), tab_set _ _ (by omega), tab_set _ _ (by omega), w64s i (by omega)]
    rw [tab_congr (h := fun p => if p < i + 1 then (a p + s p) % 2 else a p), tab_congr (n := n) (g := fun p => if p = i then (b i + s i) % 2 else if p < i then (b p + s p) % 2 else b p) (h := fun p => if p < i + 1 then (b p + s p) % 2 else b p)]
    · exact hnext
    · intro p hp
      by_cases e2 : p = i
      · subst e2; rw [if_pos rfl, if_pos (by omega)]
      · rw [if_neg e2]; exact ite_iff ⟨fun h => by omega, fun h => by omega⟩
    · intro p hp
      by_cases e2 : p = i
      · subst e2; rw [if_pos rfl, if_pos (by omega)]
      · rw [if_neg e2]; exact ite_iff ⟨fun h => by omega, fun h => by omega⟩
end Go.Proofs.Ytjelamodjpepkaa.B
