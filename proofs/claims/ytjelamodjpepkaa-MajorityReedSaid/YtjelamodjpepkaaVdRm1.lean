/- Votes of polynomials: plain facts on bits and lists. -/
import Derived.Test.YtjelamodjpepkaaVdRm0
namespace Go.Proofs.Ytjelamodjpepkaa.B
open Go.RowKit Go.Proofs.YtjelamodjpepkaaW.PrintWords Go.Proofs.YtjelamodjpepkaaW.PrintMore
set_option linter.unusedVariables false

def varsOf (mask : Nat) : List Int := ((List.range 6).filter fun i => mask.testBit i).map Int.ofNat
theorem asc_pw (m : Int) : ∀ (vs : List Int) (prev : Int), ascB m prev vs = true → (∀ v ∈ vs, prev < v) ∧ vs.Pairwise (· < ·)
  | [], _, _ => by simp
  | v :: vs, prev, h => by
    simp only [ascB, Bool.and_eq_true, decide_eq_true_eq] at h
    obtain ⟨h1, h2⟩ := asc_pw m vs v h.2
    refine ⟨fun u hu => ?_, List.pairwise_cons.2 ⟨h1, h2⟩⟩
    rcases List.mem_cons.1 hu with rfl | hu
    · exact h.1.1
    · have := h1 u hu; omega
theorem pw_ext : ∀ (a b : List Int), a.Pairwise (· < ·) → b.Pairwise (· < ·) → (∀ x, x ∈ a ↔ x ∈ b) → a = b
  | [], [], _, _, _ => rfl
  | [], y :: b, _, _, h => absurd ((h y).2 (by simp)) (by simp)
  | x :: a, [], _, _, h => absurd ((h x).1 (by simp)) (by simp)
  | x :: a, y :: b, ha, hb, h => by
    rw [List.pairwise_cons] at ha hb
    have hxy : x = y := by
      rcases List.mem_cons.1 ((h x).1 (by simp)) with e | e
      · exact e
      · rcases List.mem_cons.1 ((h y).2 (by simp)) with e2 | e2
        · exact e2.symm
        · have h1 := hb.1 x e; have h2 := ha.1 y e2; omega
    subst hxy
    have : a = b := pw_ext a b ha.2 hb.2 fun z => by
      constructor
      · intro hz
        rcases List.mem_cons.1 ((h z).1 (by simp [hz])) with e | e
        · subst e; have := ha.1 z hz; omega
        · exact e
      · intro hz
        rcases List.mem_cons.1 ((h z).2 (by simp [hz])) with e | e
        · subst e; have := hb.1 z hz; omega
        · exact e
    rw [this]
theorem varsOf_mem (mask : Nat) (x : Int) : x ∈ varsOf mask ↔ ∃ i : Nat, x = i ∧ i < 6 ∧ mask.testBit i = true := by
  simp only [varsOf, List.mem_map, List.mem_filter, List.mem_range]
  constructor
  · rintro ⟨i, ⟨h1, h2⟩, rfl⟩; exact ⟨i, rfl, h1, h2⟩
  · rintro ⟨i, rfl, h1, h2⟩; exact ⟨i, ⟨h1, h2⟩, rfl⟩
theorem varsOf_pw (mask : Nat) : (varsOf mask).Pairwise (· < ·) := by
  unfold varsOf
  rw [List.pairwise_map]
  refine (List.Pairwise.filter _ List.pairwise_lt_range).imp ?_
  intro a b h
  exact Int.ofNat_lt.2 h
/-- A list of variables is known by its mask. -/
theorem asc_vars {m : Int} (hm : m ≤ 6) {vars : List Int} (h : ascB m (-1) vars = true) : vars = varsOf (maskOf vars 0) := by
  have hn := asc_nonneg m vars (-1) (by omega) h
  refine pw_ext _ _ (asc_pw m vars (-1) h).2 (varsOf_pw _) fun x => ?_
  rw [varsOf_mem]
  constructor
  · intro hx
    obtain ⟨i, rfl⟩ := Int.eq_ofNat_of_zero_le (hn x hx).1
    have := hn _ hx
    exact ⟨i, rfl, by omega, (maskOf_bit i vars 0 fun v hv => (hn v hv).1).2 (.inr hx)⟩
  · rintro ⟨i, rfl, hi, hb⟩
    rcases (maskOf_bit i vars 0 fun v hv => (hn v hv).1).1 hb with h' | h'
    · simp at h'
    · exact h'
theorem asc_mask_lt {m : Nat} {vars : List Int} (h : ascB m (-1) vars = true) : maskOf vars 0 < 2 ^ m := maskOf_lt m vars 0 (-1) (by omega) h (Nat.pow_pos (by decide))
theorem varsOf_length (mask : Nat) (h : mask < 64) : (varsOf mask).length = popc mask := by
  have H : ∀ mask, mask < 64 → (varsOf mask).length = popc mask := by decide +kernel
  exact H mask h
theorem maskOf_varsOf (mask : Nat) (h : mask < 64) : maskOf (varsOf mask) 0 = mask := by
  have H : ∀ mask, mask < 64 → maskOf (varsOf mask) 0 = mask := by decide +kernel
  exact H mask h
theorem varsOf_asc (m : Nat) (hm : m ≤ 6) (mask : Nat) (h : mask < 2 ^ m) : ascB m (-1) (varsOf mask) = true := by
  have H : ∀ m : Nat, m < 7 → ∀ mask, mask < 2 ^ m → ascB m (-1) (varsOf mask) = true := by decide +kernel
  exact H m (by omega) mask h
/-! ### Votes -/
def evp (T p : Nat) : Int := if p &&& T = T then 1 else 0
theorem evT_tab (m T : Nat) : evT m T = tab (2 ^ m) (evp T) := rfl
theorem voteS_subs (m : Nat) (hm : m < 7) (S : Nat) (hS : S < 2 ^ m) (p : Nat) (hp : p < 2 ^ m) (h0 : p &&& S = 0) (y : List Int) : voteS (2 ^ m) S y p = sumL y ((subL 64 S S).map (p ||| ·)) % 2 := by
  unfold voteS
  rw [← pts_subs m hm S hS p hp h0, sumL_reverse]
theorem sub_bound (S : Nat) : ∀ (f s : Nat), s ≤ S → ∀ q ∈ subL f S s, q ≤ S
  | 0, _, _, q, hq => by simp [subL] at hq
  | f + 1, s, hs, q, hq => by
    unfold subL at hq
    rcases List.mem_cons.1 hq with rfl | hq
    · exact hs
    · by_cases h0 : s = 0
      · simp [h0] at hq
      · rw [if_neg h0] at hq
        exact sub_bound S f _ (Nat.le_trans Nat.and_le_left (by omega)) q hq
theorem sumL_tab (n : Nat) (g : Nat → Int) (l : List Nat) (h : ∀ q ∈ l, q < n) : sumL (tab n g) l = (l.map g).sum := by
  unfold sumL
  congr 1
  exact List.map_congr_left fun q hq => tab_getD q 0 (h q hq)
theorem sum_map_add (l : List Nat) (f g : Nat → Int) : (l.map fun q => f q + g q).sum = (l.map f).sum + (l.map g).sum := by
  induction l with
  | nil => rfl
  | cons a l ih => simp only [List.map_cons, List.sum_cons, ih]; omega
theorem sum_map_mod (l : List Nat) (f : Nat → Int) : (l.map fun q => f q % 2).sum % 2 = (l.map f).sum % 2 := by
  induction l with
  | nil => rfl
  | cons a l ih => simp only [List.map_cons, List.sum_cons]; omega
theorem voteS_tab (m : Nat) (hm : m < 7) (S : Nat) (hS : S < 2 ^ m) (p : Nat) (hp : p < 2 ^ m) (h0 : p &&& S = 0) (g : Nat → Int) : voteS (2 ^ m) S (tab (2 ^ m) g) p = (((subL 64 S S).map (p ||| ·)).map g).sum % 2 := by
  rw [voteS_subs m hm S hS p hp h0, sumL_tab]
  intro q hq
  obtain ⟨s, hs, rfl⟩ := List.mem_map.1 hq
  exact Nat.or_lt_two_pow hp (Nat.lt_of_le_of_lt (sub_bound S 64 S (Nat.le_refl _) s hs) hS)
/-- The vote of a sum is the sum of the votes. -/
theorem voteS_add (m : Nat) (hm : m < 7) (S : Nat) (hS : S < 2 ^ m) (p : Nat) (hp : p < 2 ^ m) (h0 : p &&& S = 0) (f g : Nat → Int) :
    voteS (2 ^ m) S (tab (2 ^ m) fun q => (f q + g q) % 2) p = (voteS (2 ^ m) S (tab (2 ^ m) f) p + voteS (2 ^ m) S (tab (2 ^ m) g) p) % 2 := by
  rw [voteS_tab m hm S hS p hp h0, voteS_tab m hm S hS p hp h0, voteS_tab m hm S hS p hp h0, sum_map_mod, sum_map_add]
  omega
theorem vote_mono (m : Nat) (hm : m < 7) (S T : Nat) (hS : S < 2 ^ m) (hT : T < 2 ^ m) (hle : popc T ≤ popc S) (p : Nat) (hp : p < 2 ^ m) (h0 : p &&& S = 0) : voteS (2 ^ m) S (evT m T) p = if T = S then 1 else 0 := by
  have h64 : 2 ^ m ≤ 2 ^ 6 := Nat.pow_le_pow_right (by decide) (by omega)
  have h := vote_mono_all S (by omega) p (by omega) h0 T (by omega) hle
  rw [evT_tab, voteS_tab m hm S hS p hp h0]
  unfold voteCheck at h
  rw [beq_iff_eq] at h
  have e1 : (((subL 64 S S).map (p ||| ·)).map (evp T)) = (subL 64 S S).map fun s => if ((p ||| s) &&& T == T) = true then 1 else 0 := by
    rw [List.map_map]
    refine List.map_congr_left fun s _ => ?_
    unfold evp
    exact ite_iff (by simp)
  rw [e1]
  refine h.trans ?_
  exact ite_iff (by simp)
/-- As many votes as points that are 0 at the variables. -/
theorem votes_length (m : Nat) (hm : m < 7) (S : Nat) (hS : S < 2 ^ m) (y : List Int) : (votesS (2 ^ m) S y).length = 2 ^ (m - popc S) := by
  have H : ∀ m, m < 7 → ∀ S, S < 2 ^ m → ((List.range (2 ^ m)).filter fun p => p &&& S == 0).length = 2 ^ (m - popc S) := by decide +kernel
  unfold votesS
  rw [List.length_map]
  exact H m hm S hS
theorem isBits_tab (n : Nat) (g : Nat → Int) (h : ∀ p, p < n → Bit (g p)) : isBits (tab n g) = true := by
  unfold isBits
  rw [List.all_eq_true]
  intro x hx
  obtain ⟨p, hp, rfl⟩ := List.mem_map.1 hx
  rcases h p (by simpa using hp) with e | e <;> simp [e]
theorem popc_le (m : Nat) (hm : m < 7) (S : Nat) (hS : S < 2 ^ m) : popc S ≤ m := by
  have H : ∀ m, m < 7 → ∀ S, S < 2 ^ m → popc S ≤ m := by decide +kernel
  exact H m hm S hS
end Go.Proofs.Ytjelamodjpepkaa.B
