/- What the program's Reed answers: all degrees, the errors and the radius. -/
import Derived.Test.YtjelamodjpepkaaVdReed2
namespace Go.Proofs.Ytjelamodjpepkaa.B
open Go.RowKit Go.Proofs.YtjelamodjpepkaaW.PrintWords Go.Proofs.YtjelamodjpepkaaW.PrintMore Go.Proofs.Ytjelamodjpepkaa.P
set_option linter.unusedVariables false

def radius (r m : Nat) : Nat := (2 ^ (m - r) - 1) / 2
def fin (r m : Nat) (y w : List Int) : List Int × List Int × Int := if (errsTo w y w.length).length > radius r m then ([], [], 12) else (w, errsTo w y w.length, 0)
theorem rad_all : ∀ d : Nat, d < 7 → wrap64 (Int.tdiv (wrap64 ((shl .i64 1 (d : Int)) - 1)) 2) = (((2 ^ d - 1) / 2 : Nat) : Int) := by decide +kernel
theorem runW_bit (m : Nat) (y : List Int) : ∀ (s : Nat) (b : Nat → Int), (∀ p, p < 2 ^ m → Bit (b p)) → ∀ p, p < 2 ^ m → Bit (runW m y s b p)
  | 0, b, h, p, hp => h p hp
  | s + 1, b, h, p, hp => runW_bit m y s _ (fun q _ => bit_mod _) p hp
theorem p_last (r m : Nat) (hm : m < 7) (hr : r ≤ m) (y : List Int) (hy : y.length = 2 ^ m) (x9 : List (List Int)) (x11 : List Int) (b : Nat → Int) :
    Tl (fun k => majority_Reed.l0 k (r : Int) (m : Int) y x9 x11 (tab (2 ^ m) b) ((0 : Nat) : Int)) (fin r m y (tab (2 ^ m) b)) := by
  have h64 : 2 ^ m ≤ 2 ^ 6 := Nat.pow_le_pow_right (by decide) (by omega)
  have hd : majority_decoded.f (tab (2 ^ m) b) y = some (tab (2 ^ m) b, errsTo (tab (2 ^ m) b) y (tab (2 ^ m) b).length) := by
    unfold majority_decoded.f
    exact if_pos ⟨by simp [hy], by simp; omega⟩
  refine Tl.step (fun k => by rw [majority_Reed.l0]) ?_
  refine Tl.neg (by omega) (Tl.bind1 hd ?_)
  have e : wrap64 ((m : Int) - (r : Int)) = ((m - r : Nat) : Int) := by rw [w64 (by omega) (by omega)]; omega
  rw [e]
  have e2 := rad_all (m - r) (by omega)
  rw [e2]
  refine Tl.pos (by omega) ?_
  unfold fin radius
  by_cases hc : (errsTo (tab (2 ^ m) b) y (tab (2 ^ m) b).length).length > (2 ^ (m - r) - 1) / 2
  · rw [if_pos hc]
    exact Tl.pos (by show (((2 ^ (m - r) - 1) / 2 : Nat) : Int) < ((errsTo (tab (2 ^ m) b) y (tab (2 ^ m) b).length).length : Int); omega) (Tl.now _)
  · rw [if_neg hc]
    exact Tl.neg (by show ¬ (((2 ^ (m - r) - 1) / 2 : Nat) : Int) < ((errsTo (tab (2 ^ m) b) y (tab (2 ^ m) b).length).length : Int); omega) (Tl.now _)
theorem p_outer (r m : Nat) (hm : m < 7) (hr : r ≤ m) (y : List Int) (hy : y.length = 2 ^ m) (x9 : List (List Int)) :
    ∀ (s : Nat), s ≤ r + 1 → ∀ (C : List (List Int)), x9 = monsTo m s ++ C → ∀ (b : Nat → Int), (∀ p, p < 2 ^ m → Bit (b p)) →
      Tl (fun k => majority_Reed.l0 k (r : Int) (m : Int) y x9 (tab (2 ^ m) fun p => (y.getD p 0 + b p) % 2) (tab (2 ^ m) b) ((monsTo m s).length : Int)) (fin r m y (tab (2 ^ m) (runW m y s b))) := by
  have h64 : 2 ^ m ≤ 2 ^ 6 := Nat.pow_le_pow_right (by decide) (by omega)
  intro s
  induction s with
  | zero =>
    intro _ C e b hb
    exact p_last r m hm hr y hy x9 _ b
  | succ s ih =>
    intro hs C e b hb
    have hB := mons_at m hm s (by omega)
    have hsm := monsTo_small m hm s (by omega)
    have hBl := hB.2.2 (by omega)
    obtain ⟨B', vs, hBe⟩ : ∃ B' vs, combs1 s m 0 [] = B' ++ [vs] := by
      have hne : combs1 s m 0 [] ≠ [] := by intro e; rw [e] at hBl; simp at hBl
      exact ⟨_, _, (List.dropLast_concat_getLast hne).symm⟩
    have hB' : B'.length + 1 = (combs1 s m 0 []).length := by rw [hBe]; simp
    have hvs : vs.length = s := (hB.2.1 vs (by rw [hBe]; simp)).1
    have e' : x9 = monsTo m s ++ (combs1 s m 0 [] ++ C) := by rw [e, monsTo, List.append_assoc]
    have elen : ((monsTo m (s + 1)).length : Int) = (((monsTo m s).length + (combs1 s m 0 []).length : Nat) : Int) := by rw [monsTo, List.length_append]
    rw [elen]
    have ew : wrap64 ((((monsTo m s).length + (combs1 s m 0 []).length : Nat) : Int) - 1) = (((monsTo m s).length + B'.length : Nat) : Int) := by rw [w64 (by omega) (by omega)]; omega
    have hrd : rd_L1 x9 (((monsTo m s).length + B'.length : Nat) : Int) = vs := by
      unfold rd_L1
      rw [e', hBe, toNat_nat, show monsTo m s ++ (B' ++ [vs] ++ C) = (monsTo m s ++ B') ++ vs :: C from by simp, ← List.length_append]
      exact getD_append_mid _ vs C []
    have hlen9 : (((monsTo m s).length + B'.length : Nat) : Int) < (x9.length : Int) := by rw [e', hBe]; simp; omega
    refine Tl.step (fun k => by rw [majority_Reed.l0]) ?_
    rw [ew, hy]
    refine Tl.pos (by omega) (Tl.pos (by omega) (Tl.pos hlen9 (Tl.pos (Int.natCast_nonneg _) (Tl.pos (by rw [toNat_nat]; omega) ?_))))
    rw [hrd, hvs, toNat_nat, tab_rep]
    have hr2 : ∀ p, p < 2 ^ m → Bit ((y.getD p 0 + b p) % 2) := fun p _ => bit_mod _
    have hblock := p_block m hm r y (monsTo m s) C (tab (2 ^ m) b) s (fun v hv => (hB.1 v hv).1) (by omega) (fun p => (y.getD p 0 + b p) % 2) hr2 (fin r m y (tab (2 ^ m) (runW m y (s + 1) b))) hy x9 (combs1 s m 0 []) ?_ (combs1 s m 0 []) [] hB.2.1 (by omega) (by simp) (by simpa using e')
    · exact hblock
    · have hadd := p_add r m y x9 ((monsTo m s).length : Int) (2 ^ m) h64 (fun p => pol (2 ^ m) (tab (2 ^ m) fun q => (y.getD q 0 + b q) % 2) (combs1 s m 0 []) p % 2) (fun p => (y.getD p 0 + b p) % 2) b (fun p _ => bit_mod _) hr2 hb (fin r m y (tab (2 ^ m) (runW m y (s + 1) b))) ?_ _ 0 rfl (Nat.zero_le _)
      · rw [tab_congr (n := 2 ^ m) (g := fun p => if p < 0 then ((y.getD p 0 + b p) % 2 + pol (2 ^ m) (tab (2 ^ m) fun q => (y.getD q 0 + b q) % 2) (combs1 s m 0 []) p % 2) % 2 else (y.getD p 0 + b p) % 2) (h := fun p => (y.getD p 0 + b p) % 2) (fun p _ => if_neg (by omega)),
          tab_congr (n := 2 ^ m) (g := fun p => if p < 0 then (b p + pol (2 ^ m) (tab (2 ^ m) fun q => (y.getD q 0 + b q) % 2) (combs1 s m 0 []) p % 2) % 2 else b p) (h := b) (fun p _ => if_neg (by omega))] at hadd
        exact hadd
      · have hih := ih (by omega) _ e' (fun p => (b p + pol (2 ^ m) (tab (2 ^ m) fun q => (y.getD q 0 + b q) % 2) (combs1 s m 0 []) p) % 2) (fun p _ => bit_mod _)
        rw [tab_congr (n := 2 ^ m) (g := fun p => (b p + pol (2 ^ m) (tab (2 ^ m) fun q => (y.getD q 0 + b q) % 2) (combs1 s m 0 []) p % 2) % 2) (h := fun p => (b p + pol (2 ^ m) (tab (2 ^ m) fun q => (y.getD q 0 + b q) % 2) (combs1 s m 0 []) p) % 2) (fun p _ => by omega),
          tab_congr (n := 2 ^ m) (g := fun p => ((y.getD p 0 + b p) % 2 + pol (2 ^ m) (tab (2 ^ m) fun q => (y.getD q 0 + b q) % 2) (combs1 s m 0 []) p % 2) % 2) (h := fun p => (y.getD p 0 + (b p + pol (2 ^ m) (tab (2 ^ m) fun q => (y.getD q 0 + b q) % 2) (combs1 s m 0 []) p) % 2) % 2) (fun p _ => by omega)]
        exact hih
/-- What Reed answers. -/
def reedS (r m : Int) (y : List Int) : List Int × List Int × Int :=
  if m < 0 ∨ m > 6 ∨ r < 0 ∨ r > m then ([], [], 6) else
  if bitsS (2 ^ m.toNat) y = 0 then fin r.toNat m.toNat y (tab (2 ^ m.toNat) (runW m.toNat y (r.toNat + 1) (fun _ => 0))) else ([], [], bitsS (2 ^ m.toNat) y)
theorem pReed_tl (r m : Int) (y : List Int) (hl : y.length < 9223372036854775808) : Tl (fun k => majority_Reed.f k r m y) (reedS r m y) := by
  unfold reedS majority_Reed.f
  by_cases hbad : m < 0 ∨ m > 6 ∨ r < 0 ∨ r > m
  · rw [if_pos hbad]
    have hj : Tl (fun k => majority_Reed.j0 k r m y true) (([], [], 6) : List Int × List Int × Int) := by
      refine Tl.step (fun k => by rw [majority_Reed.j0]) ?_
      exact Tl.pos rfl (Tl.now _)
    by_cases h1 : m < 0
    · exact Tl.pos h1 hj
    refine Tl.neg h1 ?_
    by_cases h2 : m > 6
    · exact Tl.pos h2 hj
    refine Tl.neg h2 ?_
    by_cases h3 : r < 0
    · exact Tl.pos h3 hj
    refine Tl.neg h3 ?_
    rw [decide_eq_true (show r > m by omega)]
    exact hj
  · rw [if_neg hbad]
    obtain ⟨n, rfl⟩ := Int.eq_ofNat_of_zero_le (show 0 ≤ m by omega)
    obtain ⟨s, rfl⟩ := Int.eq_ofNat_of_zero_le (show 0 ≤ r by omega)
    rw [toNat_nat, toNat_nat]
    refine Tl.neg (by omega) (Tl.neg (by omega) (Tl.neg (by omega) ?_))
    rw [decide_eq_false (show ¬ (s : Int) > (n : Int) by omega)]
    refine Tl.step (fun k => by rw [majority_Reed.j0]) ?_
    refine Tl.neg (by decide) (Tl.bind (bits_tl n (by omega) y hl) ?_)
    by_cases hb : bitsS (2 ^ n) y = 0
    · rw [if_pos hb]
      obtain ⟨hlen, hbits⟩ := bitsS_ok hb
      have h64 : 2 ^ n ≤ 2 ^ 6 := Nat.pow_le_pow_right (by decide) (by omega)
      have hm : classic_Monomials.f (s : Int) (n : Int) = some (monsTo n (s + 1), 0) := by
        unfold classic_Monomials.f
        rw [if_neg (by omega), toNat_nat, show ((s : Int) + 1).toNat = s + 1 from by omega]
      refine Tl.pos hb (Tl.bind1 hm ?_)
      rw [List.nil_append, hlen]
      refine Tl.pos (by simp; omega) (Tl.pos (Int.natCast_nonneg _) (Tl.pos (by rw [toNat_nat]; omega) ?_))
      rw [toNat_nat, tab_rep]
      have := p_outer s n (by omega) (by omega) y hlen (monsTo n (s + 1)) (s + 1) (Nat.le_refl _) [] (by simp) (fun _ => 0) (fun _ _ => .inl rfl)
      rw [tab_congr (n := 2 ^ n) (g := fun p => (y.getD p 0 + 0) % 2) (h := fun p => y.getD p 0)] at this
      · have e := tab_of y
        rw [hlen] at e
        rw [← e] at this
        exact this
      · intro p _
        have := isBits_get hbits p
        unfold Bit at this
        omega
    · rw [if_neg hb]
      exact Tl.neg hb (Tl.now _)
end Go.Proofs.Ytjelamodjpepkaa.B
