/- The walk of classic.ReedMuller. -/
import Derived.Test.YtekenifndicdeaaDuGf12
import Derived.Test.YtekenifndicdeaaDuHMono
namespace Go.Proofs.Ytekenifndicdeaa.P
open Go.RowKit Go.Proofs.YtekenifndicdeaaW.PrintWords Go.Proofs.YtekenifndicdeaaW.PrintLast Go.Proofs.YtekenifndicdeaaW.PrintMore Go.Proofs.Ytekenifndicdeaa.B
attribute [local go_sem] max2_int min2_int max_two min_two max_three min_three max_four min_four
set_option linter.unusedVariables false
set_option linter.unusedSimpArgs false
/-- The field of two elements. -/
def F2 : Fr := ⟨2, 1, [], 2, [1], [0, 0]⟩
theorem binary_calls (w : World) : Calls Try.prog 32 #[] w fun e w' => e = .returned (.agg #[.int .i64 2, .int .i64 1, .slice none 0 0]) ∧ Below w.heap.size w w' := by
  have HB := Aside0.mk (below_alloc (Below.refl w.heap.size w) (.cells #[.int .i64 2, .int .i64 1, .slice none 0 0] 25))
  have HM := Aside0.mk (blk_new w (.cells #[.int .i64 2, .int .i64 1, .slice none 0 0] 25))
  go_enter Try.func32, Try.ntmps32
  go_wp2
  refine bodyPost_ret (results_single (r := .cell 0 25) rfl (.cell w.heap.size 25 #[.int .i64 2, .int .i64 1, .slice none 0 0] (0, 0) _ rfl (by simpa using HM.out) Try.underlying25 rfl (by kernel_rfl) .nil)) rfl ⟨rfl, HB.out⟩
theorem fld2V (w : World) : FldV w (.agg #[.int .i64 2, .int .i64 1, .slice none 0 0]) 2 1 [] := ⟨none, 0, rfl, Nat.le_refl _, rfl, by simp, fun h => absurd h (by simp)⟩
/-- The rows of a Reed-Muller code. -/
def rmRows (m : Nat) (s : Nat) : List (List Int) := (monsTo m s).map fun vs => evT m (maskOf vs 0)
theorem mons_asc : ∀ m, m < 7 → ∀ s, s < 8 → (monsTo m s).all (fun vs => ascB (m : Int) (-1) vs && decide (vs.length ≤ 6)) = true ∧ (monsTo m s).length ≤ 64 := by decide +kernel
theorem evT_len (m k : Nat) : (evT m k).length = 2 ^ m := by simp [evT]
theorem evT_bits (m k : Nat) : ∀ v ∈ evT m k, v = 0 ∨ v = 1 := by
  intro v hv
  obtain ⟨p, _, rfl⟩ := List.mem_map.1 hv
  show (if p &&& k = k then (1 : Int) else 0) = 0 ∨ _
  split
  · exact .inr rfl
  · exact .inl rfl
theorem el2 (v : Int) : F2.El v ↔ v = 0 ∨ v = 1 := by
  show (0 ≤ v ∧ v < 2) ↔ _
  omega
theorem rm_chk (m s : Nat) (hm : m < 7) (hs : s < 8) : mchk F2 ((2 ^ m : Nat) : Int) (rmRows m s) = 0 := by
  have h64 : 2 ^ m ≤ 2 ^ 6 := Nat.pow_le_pow_right (by decide) (by omega)
  have hl := (mons_asc m hm s hs).2
  unfold mchk
  rw [if_neg (by unfold rmRows; rw [List.length_map]; generalize 2 ^ m = N at h64; omega), if_pos, if_pos]
  · refine List.all_eq_true.2 fun r hr => ?_
    obtain ⟨vs, _, rfl⟩ := List.mem_map.1 hr
    refine List.all_eq_true.2 fun v hv => ?_
    exact decide_eq_true ((el2 v).2 (evT_bits m _ v hv))
  · refine List.all_eq_true.2 fun r hr => ?_
    obtain ⟨vs, _, rfl⟩ := List.mem_map.1 hr
    rw [evT_len]; simp
def RmPost (r m : Int) (w : World) (e : Ending) (w' : World) : Prop :=
  ((m < 0 ∨ m > 6 ∨ r < -1 ∨ r > m) ∧ e = .returned (.tuple #[.agg #[.int .i64 0, .int .i64 0, .slice none 0 0, .int .i64 0, .slice none 0 0], .int .i64 6]) ∨
   ¬ (m < 0 ∨ m > 6 ∨ r < -1 ∨ r > m) ∧ ∃ v, e = .returned (.tuple #[v, .int .i64 0]) ∧ CodeN w.heap.size w' v 2 1 [] ((2 ^ m.toNat : Nat) : Int) (canonS F2.ops (2 ^ m.toNat) (rmRows m.toNat (r + 1).toNat))) ∧ Below w.heap.size w w'
set_option maxRecDepth 100000 in
set_option maxHeartbeats 400000 in
theorem rm_calls (hN : NewSays 2 1 [] F2) (r m : Int) (w : World) : Calls Try.prog 12 #[.int .i64 r, .int .i64 m] w (RmPost r m w) := by
  have b1 := below_alloc (Below.refl w.heap.size w) (.cells #[.int .i64 0, .int .i64 0, .slice none 0 0, .int .i64 0, .slice none 0 0] 28)
  have g1 := blk_new w (.cells #[.int .i64 0, .int .i64 0, .slice none 0 0, .int .i64 0, .slice none 0 0] 28)
  have HB := Aside0.mk b1
  have HG := Aside0.mk g1
  clear b1 g1
  by_cases hbad : m < 0 ∨ m > 6 ∨ r < -1 ∨ r > m
  · have HBAD := Aside0.mk hbad
    have HMO := Aside0.mk (fun W => classic_Monomials.calls r m [] 6 W (by unfold classic_Monomials.f; rw [if_pos hbad]))
    clear hbad
    go_enter Try.func12, Try.ntmps12
    go_wp2_with (go_at_call 30; refine (HMO.out _).mono ?_; rintro e w3 ⟨v0, rfl, _, hb3⟩; have g3 := blk_below HG.out hb3; have z0 : w3.cell? ⟨w.heap.size, 0, none⟩ = some (.int .i64 0) := (blk_cell g3 0).trans rfl; have z1 : w3.cell? ⟨w.heap.size, 1, none⟩ = some (.int .i64 0) := (blk_cell g3 1).trans rfl; have z2 : w3.cell? ⟨w.heap.size, 2, none⟩ = some (.slice none 0 0) := (blk_cell g3 2).trans rfl; have z3 : w3.cell? ⟨w.heap.size, 3, none⟩ = some (.int .i64 0) := (blk_cell g3 3).trans rfl; have z4 : w3.cell? ⟨w.heap.size, 4, none⟩ = some (.slice none 0 0) := (blk_cell g3 4).trans rfl; have f0 : w3.frozen? ⟨w.heap.size, 0, none⟩ = false := blk_frozen g3 0; have f1 : w3.frozen? ⟨w.heap.size, 1, none⟩ = false := blk_frozen g3 1; have f2 : w3.frozen? ⟨w.heap.size, 2, none⟩ = false := blk_frozen g3 2; have f3 : w3.frozen? ⟨w.heap.size, 3, none⟩ = false := blk_frozen g3 3; have f4 : w3.frozen? ⟨w.heap.size, 4, none⟩ = false := blk_frozen g3 4; have HB3 := Aside0.mk (HB.out.trans (hb3.mono HB.out.size)); have HG3 := Aside0.mk g3; clear hb3 g3)
    have hfin := blk_set (blk_set (blk_set (blk_set (blk_set HG3.out 0 (.int .i64 0)) 1 (.int .i64 0)) 2 (.slice none 0 0)) 3 (.int .i64 0)) 4 (.slice none 0 0)
    refine bodyPost_ret (results_list (rs := [.cell 4 28, .tmp 5]) rfl (by simp) (.cell w.heap.size 28 #[.int .i64 0, .int .i64 0, .slice none 0 0, .int .i64 0, .slice none 0 0] (0, 0) _ rfl (by simpa using hfin) Try.underlying28 rfl (by kernel_rfl) (.tmp .nil))) rfl ?_
    exact ⟨.inl ⟨HBAD.out, rfl⟩, ((((HB3.out.setCell (Nat.le_refl _) _).setCell (Nat.le_refl _) _).setCell (Nat.le_refl _) _).setCell (Nat.le_refl _) _).setCell (Nat.le_refl _) _⟩
  · have HBAD := Aside0.mk hbad
    obtain ⟨M, rfl⟩ := Int.eq_ofNat_of_zero_le (show 0 ≤ m by omega)
    obtain ⟨s, es⟩ : ∃ s, s = (r + 1).toNat := ⟨_, rfl⟩
    have hM : M < 7 := by omega
    have hs8 : s < 8 := by omega
    have HMO := Aside0.mk (fun W => classic_Monomials.calls r (M : Int) (monsTo M s) 0 W (by unfold classic_Monomials.f; rw [if_neg hbad, toNat_nat, ← es]))
    have HA := Aside0.mk (mons_asc M hM s hs8)
    have HCK := Aside0.mk (rm_chk M s hM hs8)
    obtain ⟨N, eN⟩ : ∃ N, N = 2 ^ M := ⟨_, rfl⟩
    have h64 : 2 ^ M ≤ 2 ^ 6 := Nat.pow_le_pow_right (by decide) (by omega)
    have h1N : 1 ≤ 2 ^ M := Nat.two_pow_pos M
    have hsh := pow_w M (by omega)
    have hel : ∀ k, (evT M k).length = N := fun k => by rw [eN]; exact evT_len M k
    have HEL := Aside0.mk hel
    have HPT : Aside0 (∀ W e, CNewPost 2 1 [] (N : Int) (canonS F2.ops (N : Int).toNat (rmRows M s)) W e = fun w' => ∃ v, e = .returned (.tuple #[v, .int .i64 0]) ∧ CodeN W.heap.size w' v 2 1 [] (N : Int) (canonS F2.ops N (rmRows M s)) ∧ Below W.heap.size W w') := ⟨fun W e => by rw [toNat_nat]; rfl⟩
    unfold RmPost
    rw [toNat_nat, ← es]
    rw [← eN] at h64 h1N hsh HCK ⊢
    obtain ⟨RW, eRW⟩ : ∃ RW, RW = rmRows M s := ⟨_, rfl⟩
    have HRW : Aside0 (RW.length = (monsTo M s).length ∧ ∀ i, i < (monsTo M s).length → RW.getD i [] = evT M (maskOf ((monsTo M s).getD i []) 0)) := ⟨by
      rw [eRW]
      refine ⟨by simp [rmRows], fun i hi => ?_⟩
      unfold rmRows
      rw [List.getD_eq_getElem?_getD, List.getElem?_map, List.getD_eq_getElem?_getD, List.getElem?_eq_getElem hi]; rfl⟩
    have HEN := Aside0.mk eN
    rw [← eRW] at HCK HPT ⊢
    have HRN : Aside0 (∀ x ∈ RW, x.length = N) := ⟨by
      rw [eRW]
      intro x hx
      obtain ⟨vs, _, rfl⟩ := List.mem_map.1 hx
      exact HEL.out _⟩
    obtain ⟨L, eL⟩ : ∃ L, L = monsTo M s := ⟨_, rfl⟩
    rw [← eL] at HMO HA HRW
    have HSH := Aside0.mk hsh
    clear hbad es eN hel eRW eL hsh
    go_enter Try.func12, Try.ntmps12
    have hll := HA.out.2
    go_wp2_with (first | (go_at_call 30; refine (HMO.out _).mono ?_; rintro e w3 ⟨v0, rfl, hS, hb3⟩; obtain ⟨AL, cL, rfl, hcL, hCL⟩ := Kd.S_reads hS; have HCL := Aside0.mk hCL; have g3 := blk_below HG.out hb3; have HB3 := Aside0.mk (HB.out.trans (hb3.mono HB.out.size)); have HG3 := Aside0.mk g3; clear hb3 g3 hS hCL hcL) | ((with_reducible refine gate_dst (N := 23) rfl ?_); refine mk_cells rfl (.tmp 22) rfl Try.underlying26 (z := .slice none 0 0) (bytes := 24) (by kernel_rfl) rfl L.length rfl (by omega) (by omega) ?_; intro w1 hr1 hb1; have HR1 := Aside0.mk hr1; have HB1 := Aside0.mk hb1; clear hr1 hb1))
    have HR0 : Aside0 (ClIn w3 w3.heap.size RW (.int .i64 0) w1) := ⟨by
      obtain ⟨cs, h1, h2⟩ := HR1.out
      refine ⟨0, fun _ => 0, rfl, Nat.zero_le _, ⟨fun i j hi => by simp at hi, ⟨cs, h1, fun i hi => by simp at hi⟩, fun i hi => by simp at hi⟩, ⟨cs, h1, ?_⟩, HB1.out, fun j hj => by omega⟩
      rw [← Array.length_toList, h2, List.length_replicate, HRW.out.1]⟩
    clear HR1 HB1
    go_loopw [26] (fun u wr => ClIn w3 w3.heap.size RW u wr) (fun u _ => L.length - (intOf u).toNat)
    case atStart => exact HR0.out
    case round =>
      clear HR0
      obtain ⟨i, rs, rfl, hi, hMX, hsz, hbel, hlo⟩ := hrel
      rw [HRW.out.1] at hi
      by_cases hlt : i < L.length
      · obtain ⟨ad, A0, c0, e, hx, hc0, hC⟩ := at_L1 (Kd.C_below HCL.out hbel) (i : Int) (by omega) (by omega)
        rw [toNat_nat] at hx
        have erow : rd_L1 L (i : Int) = L.getD i [] := rfl
        rw [erow] at hx hc0 hC
        subst e
        have hmem : L.getD i [] ∈ L := by rw [List.getD_eq_getElem?_getD, List.getElem?_eq_getElem hlt]; exact List.getElem_mem hlt
        have hav := List.all_eq_true.1 HA.out.1 _ hmem
        simp only [Bool.and_eq_true, decide_eq_true_eq] at hav
        have hlt2 : i < RW.length := by rw [HRW.out.1]; exact hlt
        have hrow := HRW.out.2 i hlt
        have htk : RW.take (i + 1) = RW.take i ++ [RW.getD i []] := by
          rw [List.take_add_one, List.getElem?_eq_getElem hlt2, List.getD_eq_getElem?_getD, List.getElem?_eq_getElem hlt2]; rfl
        have htl : (RW.take i).length = i := by rw [List.length_take]; omega
        obtain ⟨cs, hcs, hcsz⟩ := hsz
        obtain ⟨x, ex⟩ : ∃ x, x = L.getD i [] := ⟨_, rfl⟩
        rw [← ex] at hx hc0 hC hav hrow
        have HST : Aside0 (∀ nb W, wr.heap.size ≤ nb → IntRow W nb (evT M (maskOf x 0)) → Below wr.heap.size wr W → ClIn w3 w3.heap.size RW (.int .i64 ((i : Int) + 1)) (W.setCell ⟨w3.heap.size, i, none⟩ (.slice (some ⟨nb, 0, none⟩) N N))) := ⟨fun nb W hnb hxr hbW => by
          have hs := (hMX.below hbW).snoc (nb := nb) (c := N) (m := RW.length) (x := evT M (maskOf x 0)) ⟨cs, blk_below hcs hbW, hcsz⟩ (by rw [htl]; exact hlt2) hxr (by rw [HEL.out]; exact Nat.le_refl _) (fun j hj e => by have := (hMX.row j hj).lt; omega)
          rw [htl, ← hrow, ← htk, hrow, HEL.out] at hs
          refine ⟨i + 1, _, by simp, by omega, hs.1, hs.2, (hbel.trans (hbW.mono hbel.size)).setCell (Nat.le_refl _) _, fun j hj => ?_⟩
          unfold rput
          split
          · exact Nat.le_trans hbel.size hnb
          · exact hlo j (by omega)⟩
        have HEV : Aside0 (Calls Try.prog 21 #[.int .i64 (M : Int), .slice A0 x.length c0] wr fun e w' => ∃ b, e = .returned (.tuple #[.slice (some ⟨b, 0, none⟩) N N, .int .i64 0]) ∧ wr.heap.size ≤ b ∧ IntRow w' b (evT M (maskOf x 0)) ∧ Below wr.heap.size wr w') := ⟨by
          have h := ev_calls M A0 c0 x wr (by omega) hav.1 hC (by omega)
          rw [← HEN.out] at h; exact h⟩
        have ui : wr.cell? ⟨w3.heap.size, i, none⟩ = cs[i]? := blk_cell hcs i
        have uz := blk_frozen hcs i
        obtain ⟨vi, hvi⟩ : ∃ v, cs[i]? = some v := ⟨cs[i]'(by omega), Array.getElem?_eq_getElem (by omega)⟩
        rw [hvi] at ui
        clear hMX hcs hcsz hbel hlo hC hc0 htk htl ex hvi hmem hav hrow
        go_wp2_with (go_at_call 21; refine HEV.out.mono ?_; rintro e w5 ⟨nb, rfl, hnb, hxr, hbW⟩; have y1 := cell_below hbW ui; have y2 := frozen_below hbW ui uz; have HN1 := Aside0.mk (HST.out nb w5 hnb hxr hbW); clear hnb hxr hbW)
        exact ⟨HN1.out, by simp [intOf]; omega⟩
      · have hie : i = L.length := by omega
        have hMX2 : MX wr w3.heap.size rs RW := by
          rw [List.take_of_length_le (by rw [HRW.out.1]; omega)] at hMX
          exact hMX
        have HRC := Aside0.mk (hMX2.C RW.length (Nat.le_refl _) (fun j hj => by rw [HRN.out _ (by rw [List.getD_eq_getElem?_getD, List.getElem?_eq_getElem hj]; exact List.getElem_mem hj)]; omega) (by rw [HRW.out.1]; omega))
        have HBW := Aside0.mk (HB3.out.trans (hbel.mono HB3.out.size))
        have HGW := Aside0.mk (blk_below HG3.out hbel)
        clear hMX hMX2 hsz hbel hlo
        go_wp2
        have HC := Aside0.mk (fun W (hW : Below wr.heap.size wr W) => by
          have h := cnew_calls 2 1 [] F2 hN _ (N : Int) (some ⟨w3.heap.size, 0, none⟩) L.length RW W (fld2V W) (by simp) (by
            have h2 := Kd.C_below HRC.out hW
            rwa [List.take_of_length_le (Nat.le_refl _)] at h2) (by rw [HRW.out.1]; exact Nat.le_refl _) (by rw [HRW.out.1]; omega) (fun x hx => by rw [HRN.out x hx]; omega) HCK.out (by omega) (by omega)
          rw [HRW.out.1] at h
          have e : Value.agg #[.int .i64 (IntKind.i64.wrap (2 ^ M)), .slice (some ⟨w3.heap.size, 0, none⟩) L.length L.length] = Value.agg #[.int .i64 (N : Int), .slice (some ⟨w3.heap.size, 0, none⟩) L.length L.length] := by rw [i64_w, HSH.out]
          rw [← e] at h
          exact h)
        refine rs_ 10 (fun _ => True) [8, 9] trivial (fun hHeld => ?_)
        refine rp_ 1 42 ?_
        refine rp_ 2 43 ?_
        refine rp_ 3 44 ?_
        refine rp_ 4 45 ?_
        refine rc2_ 0 41 Try.func32 ?_
        refine (binary_calls _).mono ?_
        rintro e w5 ⟨rfl, hb5⟩
        replace hb5 : Below wr.heap.size wr w5 := (pw_below_drewN (Below.refl _ _) 1).trans hb5
        refine ⟨_, rfl, trivial, fun hHeld => ?_⟩
        refine rn_ ?_
        refine rc2_ 5 46 Try.func31 ?_
        refine (HC.out w5 hb5).mono ?_
        rintro e w6 ⟨v, rfl, ⟨Am, cm, Ag, cg, rfl, hNm, hMg⟩, hb6⟩
        refine ⟨_, rfl, trivial, fun hHeld => ?_⟩
        have g3 := blk_below (blk_below HGW.out hb5) hb6
        have z0 : w6.cell? ⟨w.heap.size, 0, none⟩ = some (.int .i64 0) := (blk_cell g3 0).trans rfl
        have z1 : w6.cell? ⟨w.heap.size, 1, none⟩ = some (.int .i64 0) := (blk_cell g3 1).trans rfl
        have z2 : w6.cell? ⟨w.heap.size, 2, none⟩ = some (.slice none 0 0) := (blk_cell g3 2).trans rfl
        have z3 : w6.cell? ⟨w.heap.size, 3, none⟩ = some (.int .i64 0) := (blk_cell g3 3).trans rfl
        have z4 : w6.cell? ⟨w.heap.size, 4, none⟩ = some (.slice none 0 0) := (blk_cell g3 4).trans rfl
        have f0 : w6.frozen? ⟨w.heap.size, 0, none⟩ = false := blk_frozen g3 0
        have f1 : w6.frozen? ⟨w.heap.size, 1, none⟩ = false := blk_frozen g3 1
        have f2 : w6.frozen? ⟨w.heap.size, 2, none⟩ = false := blk_frozen g3 2
        have f3 : w6.frozen? ⟨w.heap.size, 3, none⟩ = false := blk_frozen g3 3
        have f4 : w6.frozen? ⟨w.heap.size, 4, none⟩ = false := blk_frozen g3 4
        have hwlt : w.heap.size < wr.heap.size := blk_lt HGW.out
        have hw5 := hb5.size
        have HB6 := Aside0.mk (HBW.out.trans ((hb5.trans (hb6.mono hb5.size)).mono HBW.out.size))
        have HNM := Aside0.mk hNm
        have HMG := Aside0.mk hMg
        have HG6 := Aside0.mk g3
        clear g3 hNm hMg hb6 hb5
        refine rn_ ?_
        refine rp_ 6 47 ?_
        refine rp_ 7 48 ?_
        refine rl_ 8 ?_
        refine rp_ 9 5 ?_
        refine rd2_ ?_
        go_wp2
        have hfin := blk_set (blk_set (blk_set (blk_set (blk_set HG6.out 0 (.int .i64 2)) 1 (.int .i64 1)) 2 (.slice Am 0 cm)) 3 (.int .i64 (N : Int))) 4 (.slice Ag (canonS F2.ops N RW).length cg)
        refine bodyPost_ret (results_list (rs := [.cell 4 28, .tmp 5]) rfl (by simp) (.cell w.heap.size 28 #[.int .i64 2, .int .i64 1, .slice Am 0 cm, .int .i64 (N : Int), .slice Ag (canonS F2.ops N RW).length cg] (0, 0) _ rfl (by simpa using hfin) Try.underlying28 rfl (by kernel_rfl) (.tmp .nil))) rfl ?_
        have htch : Tch (fun k => k < w5.heap.size) w6 (((((w6.setCell ⟨w.heap.size, 0, none⟩ (.int .i64 2)).setCell ⟨w.heap.size, 1, none⟩ (.int .i64 1)).setCell ⟨w.heap.size, 2, none⟩ (.slice Am 0 cm)).setCell ⟨w.heap.size, 3, none⟩ (.int .i64 (N : Int))).setCell ⟨w.heap.size, 4, none⟩ (.slice Ag (canonS F2.ops N RW).length cg)) :=
          (((((Tch.refl (fun k => k < w5.heap.size) w6).set (.inl (by show w.heap.size < _; omega)) _).set (.inl (by show w.heap.size < _; omega)) _).set (.inl (by show w.heap.size < _; omega)) _).set (.inl (by show w.heap.size < _; omega)) _).set (.inl (by show w.heap.size < _; omega)) _
        refine ⟨.inr ⟨HBAD.out, _, rfl, Am, cm, Ag, cg, rfl, HNM.out.step htch (by omega), HMG.out.step htch (by omega)⟩, ?_⟩
        exact ((((HB6.out.setCell (Nat.le_refl _) _).setCell (Nat.le_refl _) _).setCell (Nat.le_refl _) _).setCell (Nat.le_refl _) _).setCell (Nat.le_refl _) _
end Go.Proofs.Ytekenifndicdeaa.P
