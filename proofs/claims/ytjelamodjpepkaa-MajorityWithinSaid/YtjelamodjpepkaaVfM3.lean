/- Reed answers a codeword within the radius, and fails just if there is none. -/
import Derived.Test.YtjelamodjpepkaaVfM2
import Derived.Test.YtjelamodjpepkaaVfP8
namespace Go.Proofs.Ytjelamodjpepkaa.B
open Go.RowKit Go.Proofs.YtjelamodjpepkaaW.PrintWords Go.Proofs.YtjelamodjpepkaaW.PrintMore Go.Proofs.Ytjelamodjpepkaa.P
set_option linter.unusedVariables false
/-- A word of the code within the radius is what the majorities give. -/
theorem near_right (n s : Nat) (hn : n < 7) (hs : s ≤ n) (y : List Int) (hlen : y.length = 2 ^ n) (hbits : isBits y = true) (w : List Int) (hw : IsPoly n s w) (hle : (errsTo w y (2 ^ n)).length ≤ radius s n) : tab (2 ^ n) (runW n y (s + 1) fun _ => 0) = w := by
 obtain ⟨c, hc, hd, rfl⟩ := hw
 have hpw : 1 ≤ 2 ^ (n - s) := Nat.pow_pos (by decide)
 have hE : ∀ p, Bit ((polyL c (List.range (2 ^ n)) p + y.getD p 0) % 2) := fun p => bit_mod _
 have hEb : isBits (tab (2 ^ n) fun p => (polyL c (List.range (2 ^ n)) p + y.getD p 0) % 2) = true := isBits_tab _ _ fun p _ => hE p
 have hcnt := errs_count _ hEb (2 ^ n)
 have hsup : errsTo (tab (2 ^ n) fun p => polyL c (List.range (2 ^ n)) p % 2) y (2 ^ n) = errsTo (tab (2 ^ n) fun p => (polyL c (List.range (2 ^ n)) p + y.getD p 0) % 2) (List.replicate (tab (2 ^ n) fun p => (polyL c (List.range (2 ^ n)) p + y.getD p 0) % 2).length 0) (2 ^ n) := by
  refine errs_supp _ _ _ (2 ^ n) fun i hi => ?_
  have := isBits_get hbits i
  unfold Bit at this
  rw [tab_getD i 0 hi, tab_getD i 0 hi]
  omega
 rw [hsup] at hle
 have hrad : radius s n = (2 ^ (n - s) - 1) / 2 := rfl
 have hsum : ((List.range (2 ^ n)).map fun p => (tab (2 ^ n) fun p => (polyL c (List.range (2 ^ n)) p + y.getD p 0) % 2).getD p 0) = (List.range (2 ^ n)).map fun p => (polyL c (List.range (2 ^ n)) p + y.getD p 0) % 2 := List.map_congr_left fun p hp => tab_getD p 0 (by simpa using hp)
 rw [hsum] at hcnt
 refine reed_right n hn s hs c (fun p => (polyL c (List.range (2 ^ n)) p + y.getD p 0) % 2) hc hd (fun p _ => hE p) (by omega) y fun p hp => ?_
 have := isBits_get hbits p
 unfold Bit at this
 show y.getD p 0 = (polyL c (List.range (2 ^ n)) p + (polyL c (List.range (2 ^ n)) p + y.getD p 0) % 2) % 2
 omega
theorem within_tl (r m : Int) (msg y : List Int) (hm : msg.length < 9223372036854775808) (hy : y.length < 9223372036854775808) : Tl (fun k => l43MajorityWithin.f k r m msg y) true := by
 unfold l43MajorityWithin.f
 refine Tl.bind alive43_tl (Tl.pos rfl (Tl.bind (pReed_tl r m y hy) (Tl.bind (rArgs_tl r m y hy) ?_)))
 by_cases hbad : m < 0 ∨ m > 6 ∨ r < 0 ∨ r > m
 ·have e : reedS r m y = ([], [], 6) := if_pos hbad
  rw [e, if_pos hbad]
  exact Tl.neg (by decide) (Tl.val (by decide) (Tl.now _))
 rw [if_neg hbad]
 obtain ⟨n, rfl⟩ := Int.eq_ofNat_of_zero_le (show 0 ≤ m by omega)
 obtain ⟨s, rfl⟩ := Int.eq_ofNat_of_zero_le (show 0 ≤ r by omega)
 rw [toNat_nat]
 by_cases hb : bitsS (2 ^ n) y = 0
 ·obtain ⟨hlen, hbits⟩ := bitsS_ok hb
  have h64 : 2 ^ n ≤ 2 ^ 6 := Nat.pow_le_pow_right (by decide) (by omega)
  have h1 : 1 ≤ 2 ^ n := Nat.pow_pos (by decide)
  have hn : n < 7 := by omega
  have hs : s ≤ n := by omega
  have e : reedS (s : Int) (n : Int) y = fin s n y (tab (2 ^ n) (runW n y (s + 1) fun _ => 0)) := by
   unfold reedS
   rw [if_neg hbad, toNat_nat, toNat_nat, if_pos hb]
  have hpoly : IsPoly n s (tab (2 ^ n) (runW n y (s + 1) fun _ => 0)) := runW_poly n hn s hs y (s + 1) (Nat.le_refl _) _ (isPoly_zero n s)
  have hnear := near_right n s hn hs y hlen hbits
  rw [e]
  generalize tab (2 ^ n) (runW n y (s + 1) fun _ => 0) = w at hpoly hnear
  have hwl := isPoly_len hpoly
  have hM : Mat G2 (2 ^ n) (monRows n s) := poly_mat (mons_poly n hn s hs)
  have hgen := poly_mat (gen_poly n hn s hs)
  have hgl := gen_len n hn s hs
  refine Tl.pos hb (Tl.bind (rm_tl n hn s hs) (Tl.bind1 (rad_ref s n hn hs) ?_))
  have hel := errsTo_len w y w.length
  by_cases hlong : (errsTo w y w.length).length > radius s n
  ·have e2 : fin s n y w = ([], [], 12) := if_pos hlong
   rw [e2]
   refine Tl.neg (by decide) (Tl.pos rfl (Tl.pos rfl ?_))
   refine Tl.step (fun k => by rw [l43MajorityWithin.j0]) ?_
   refine Tl.neg (by decide) (Tl.bind (enc_tl (2 ^ n) h1 (by omega) _ hgen (by omega) msg hm) ?_)
   by_cases he : (encS (2 ^ n) (genS n s) msg).2 = 0
   ·have hp := enc_poly n hn s hs msg he
    generalize (encS (2 ^ n) (genS n s) msg).1 = u at hp
    have hul := isPoly_len hp
    refine Tl.pos he (Tl.bind (differ_tl u y (by omega) (by omega)) (Tl.val ?_ (Tl.now _)))
    rw [hul, decide_eq_true]
    by_cases hle : (errsTo u y (2 ^ n)).length ≤ radius s n
    ·have := hnear u hp hle
     rw [this, hul] at hlong
     omega
    ·omega
   ·exact Tl.neg he (Tl.now _)
  ·have e2 : fin s n y w = (w, errsTo w y w.length, 0) := if_neg hlong
   rw [e2]
   have hml : (monRows n s).length ≤ 256 := by
    have := (monsTo_small n hn (s + 1) (by omega)).1
    unfold monRows
    rw [List.length_map]; omega
   have hhas := has2_tl (2 ^ n) h1 (by omega) (monRows n s) hM hml w (poly_span n hn s hs w hpoly)
   rw [← genS_canon] at hhas
   exact Tl.pos rfl (Tl.bind hhas (Tl.pos rfl (Tl.pos rfl (Tl.pos (by show ((errsTo w y w.length).length : Int) ≤ _; omega) (Tl.bind (differ_tl w y (by omega) (by omega)) (Tl.bind (same_tl _ _ (by show (errsTo w y w.length).length < _; omega)) (Tl.val (by simp) (Tl.now _))))))))
 ·have e : reedS (s : Int) (n : Int) y = ([], [], bitsS (2 ^ n) y) := by
   unfold reedS
   rw [if_neg hbad, toNat_nat, toNat_nat, if_neg hb]
  rw [e]
  exact Tl.neg hb (Tl.val (by simp) (Tl.now _))
end Go.Proofs.Ytjelamodjpepkaa.B
