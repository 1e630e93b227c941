/- Reed corrects up to the radius's errors. -/
import Derived.Test.YtjelamodjpepkaaVeM2
import Derived.Test.YtjelamodjpepkaaVeP8
namespace Go.Proofs.Ytjelamodjpepkaa.B
open Go.RowKit Go.Proofs.YtjelamodjpepkaaW.PrintWords Go.Proofs.YtjelamodjpepkaaW.PrintMore Go.Proofs.Ytjelamodjpepkaa.P
set_option linter.unusedVariables false
theorem corrects_tl (r m : Int) (msg y : List Int) (hm : msg.length < 9223372036854775808) (hy : y.length < 9223372036854775808) : Tl (fun k => l43MajorityCorrects.f k r m msg y) true := by
 have hj : Tl (fun k => l43MajorityCorrects.j0 k true r m msg y) true := by
  refine Tl.step (fun k => by rw [l43MajorityCorrects.j0]) ?_
  exact Tl.pos rfl (Tl.now _)
 unfold l43MajorityCorrects.f
 refine Tl.bind alive43_tl (Tl.pos rfl (Tl.bind (rArgs_tl r m y hy) ?_))
 by_cases hbad : m < 0 ∨ m > 6 ∨ r < 0 ∨ r > m
 ·rw [if_pos hbad]
  exact Tl.neg (by decide) hj
 rw [if_neg hbad]
 obtain ⟨n, rfl⟩ := Int.eq_ofNat_of_zero_le (show 0 ≤ m by omega)
 obtain ⟨s, rfl⟩ := Int.eq_ofNat_of_zero_le (show 0 ≤ r by omega)
 rw [toNat_nat]
 by_cases hb : bitsS (2 ^ n) y = 0
 ·refine Tl.pos hb (Tl.bind1 (a := (2, 1, [])) (by decide) ?_)
  obtain ⟨hlen, hbits⟩ := bitsS_ok hb
  have h64 : 2 ^ n ≤ 2 ^ 6 := Nat.pow_le_pow_right (by decide) (by omega)
  have h1 : 1 ≤ 2 ^ n := Nat.pow_pos (by decide)
  refine Tl.bind (weight2_tl y hbits (by omega)) (Tl.bind1 (rad_ref s n (by omega) (by omega)) ?_)
  by_cases hw : ((suppS y).length : Int) > (radius s n : Int)
  ·rw [decide_eq_true hw]; exact hj
  ·rw [decide_eq_false hw]
   refine Tl.step (fun k => by rw [l43MajorityCorrects.j0]) ?_
   have hgen := poly_mat (gen_poly n (by omega) s (by omega))
   refine Tl.neg (by decide) (Tl.bind (rm_tl n (by omega) s (by omega)) (Tl.bind (enc_tl (2 ^ n) h1 (by omega) _ hgen (by have := gen_len n (by omega) s (by omega); omega) msg hm) ?_))
   by_cases he : (encS (2 ^ n) (genS n s) msg).2 = 0
   ·obtain ⟨c, hc, hd, hwd⟩ := enc_poly n (by omega) s (by omega) msg he
    refine Tl.pos he ?_
    generalize (encS (2 ^ n) (genS n s) msg).1 = w at hwd
    subst hwd
    have hwb : isBits (tab (2 ^ n) fun p => polyL c (List.range (2 ^ n)) p % 2) = true := isBits_tab _ _ fun p _ => bit_mod _
    refine Tl.bind (add2_tl _ y hwb hbits (by simp [hlen]) (by simp; omega)) ?_
    have hz : (tab (tab (2 ^ n) fun p => polyL c (List.range (2 ^ n)) p % 2).length fun p => ((tab (2 ^ n) fun p => polyL c (List.range (2 ^ n)) p % 2).getD p 0 + y.getD p 0) % 2) = tab (2 ^ n) fun p => (polyL c (List.range (2 ^ n)) p + y.getD p 0) % 2 := by
     rw [tab_length]
     exact tab_congr fun p hp => by rw [tab_getD p 0 hp]; omega
    rw [hz]
    have hcnt := errs_count y hbits (2 ^ n)
    have hsup : suppS y = errsTo y (List.replicate y.length 0) (2 ^ n) := by unfold suppS; rw [hlen]
    have hrad : radius s n = (2 ^ (n - s) - 1) / 2 := rfl
    have hpw : 1 ≤ 2 ^ (n - s) := Nat.pow_pos (by decide)
    rw [hsup] at hw
    have hright := reed_right n (by omega) s (by omega) c (fun p => y.getD p 0) hc hd (fun p _ => isBits_get hbits p) (by omega) (tab (2 ^ n) fun p => (polyL c (List.range (2 ^ n)) p + y.getD p 0) % 2) (fun p hp => tab_getD p 0 hp)
    have hzb : isBits (tab (2 ^ n) fun p => (polyL c (List.range (2 ^ n)) p + y.getD p 0) % 2) = true := isBits_tab _ _ fun p _ => bit_mod _
    have herr : errsTo (tab (2 ^ n) fun p => polyL c (List.range (2 ^ n)) p % 2) (tab (2 ^ n) fun p => (polyL c (List.range (2 ^ n)) p + y.getD p 0) % 2) (2 ^ n) = suppS y := by
     rw [hsup]
     refine errs_supp _ _ y (2 ^ n) fun i hi => ?_
     have := isBits_get hbits i
     unfold Bit at this
     rw [tab_getD i 0 hi, tab_getD i 0 hi]
     omega
    have hS : reedS (s : Int) (n : Int) (tab (2 ^ n) fun p => (polyL c (List.range (2 ^ n)) p + y.getD p 0) % 2) = ((tab (2 ^ n) fun p => polyL c (List.range (2 ^ n)) p % 2), suppS y, 0) := by
     unfold reedS
     rw [if_neg hbad, toNat_nat, toNat_nat, if_pos (by unfold bitsS; rw [if_pos (by simp), hzb]; rfl), hright]
     unfold fin
     rw [tab_length, herr, if_neg (by rw [hsup]; omega)]
    have hreed := pReed_tl (s : Int) (n : Int) (tab (2 ^ n) fun p => (polyL c (List.range (2 ^ n)) p + y.getD p 0) % 2) (by simp; omega)
    rw [hS] at hreed
    have hsl : (suppS y).length < 9223372036854775808 := by
     have := errsTo_len y (List.replicate y.length 0) (2 ^ n)
     rw [hsup]; omega
    exact Tl.bind hreed (Tl.pos rfl (Tl.bind (same_tl _ _ (by simp; omega)) (Tl.pos (by simp) (Tl.bind (supp2_tl y hbits (by omega)) (Tl.bind (same_tl _ _ hsl) (Tl.val (by simp) (Tl.now _)))))))
   ·exact Tl.neg he (Tl.now _)
 ·exact Tl.neg hb hj
end Go.Proofs.Ytjelamodjpepkaa.B
