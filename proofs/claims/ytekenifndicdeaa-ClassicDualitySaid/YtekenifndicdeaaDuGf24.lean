/- The walk of the law ClassicDuality. -/
import Derived.Test.YtekenifndicdeaaDuGf23
namespace Go.Proofs.Ytekenifndicdeaa.P
open Go.RowKit Go.Proofs.YtekenifndicdeaaW.PrintWords Go.Proofs.YtekenifndicdeaaW.PrintLast Go.Proofs.YtekenifndicdeaaW.PrintMore Go.Proofs.Ytekenifndicdeaa.B
attribute [local go_sem] max2_int min2_int max_two min_two max_three min_three max_four min_four
set_option linter.unusedVariables false
set_option linter.unusedSimpArgs false
/-- The canonical rows of a Reed-Muller code. -/
def rmGen (m s : Nat) : List (List Int) := canonS F2.ops (2 ^ m) (rmRows m s)
theorem rm_mat (m s : Nat) : Mat F2.ops (2 ^ m) (rmRows m s) := fun x hx => by
  obtain ⟨vs, _, rfl⟩ := List.mem_map.1 hx
  exact ⟨evT_len m _, fun v hv => (el2 v).2 (evT_bits m _ v hv)⟩
theorem canon_canon (F : Fr) (hK : Fld F.ops) (n : Nat) (rows : List (List Int)) (h1 : 1 ≤ n) (hn : n ≤ 256) (hl : rows.length ≤ 256) (hm : Mat F.ops n rows) : Canon F n (canonS F.ops n rows) := by
  obtain ⟨ps, e, hr, hM, hle, _, _⟩ := canon_rr hK hm
  refine ⟨?_, h1, (canon_idem hK hM hr).2⟩
  unfold mchk
  rw [if_neg (by omega), if_pos, if_pos]
  · exact List.all_eq_true.2 fun x hx => List.all_eq_true.2 fun v hv => decide_eq_true ((hM x hx).2 v hv)
  · exact List.all_eq_true.2 fun x hx => decide_eq_true (by rw [(hM x hx).1])
theorem rm_canon (m s : Nat) (hm : m < 7) (hs : s < 8) : Canon F2 (2 ^ m) (rmGen m s) := by
  have h64 : 2 ^ m ≤ 2 ^ 6 := Nat.pow_le_pow_right (by decide) (by omega)
  exact canon_canon F2 F2_fld _ _ (Nat.two_pow_pos m) (by omega) (by unfold rmRows; rw [List.length_map]; have := (mons_asc m hm s hs).2; omega) (rm_mat m s)
def DualRm : Prop := ∀ m, m < 7 → ∀ s, s ≤ m + 1 → nullS F2 (2 ^ m) (rmGen m s) = rmGen m (m + 1 - s)
set_option maxRecDepth 100000 in
set_option maxHeartbeats 1000000 in
theorem duality_calls (H : DualRm) (r m : Int) (w : World) : Calls Try.prog 3 #[.int .i64 r, .int .i64 m] w fun e w' => e = .returned (.bool true) ∧ Below w.heap.size w w' := by
  by_cases hbad : m < 0 ∨ m > 6 ∨ r < -1 ∨ r > m
  · have HBAD := Aside0.mk hbad
    have HAL := Aside0.mk (alive15_calls w)
    have HRM := Aside0.mk (fun X => rm_calls says2 r m X)
    have hsp : m < 0 ∨ (¬ m < 0 ∧ m > 6) ∨ (¬ m < 0 ∧ ¬ m > 6 ∧ r < -1) ∨ (¬ m < 0 ∧ ¬ m > 6 ∧ ¬ r < -1 ∧ r > m) := by omega
    clear hbad
    go_enter Try.func3, Try.ntmps3
    rcases hsp with hsp | ⟨h1, hsp⟩ | ⟨h1, h2, hsp⟩ | ⟨h1, h2, h3, hsp⟩
    all_goals
      go_wp2_with (first | (go_at_call 11; refine HAL.out.mono ?_; rintro e w2 ⟨rfl, hb2⟩; have HB2 := Aside0.mk hb2; clear hb2) | (go_at_call 12; refine (HRM.out _).mono ?_; rintro e w3 ⟨hor, hb3⟩; rcases hor with ⟨_, rfl⟩ | ⟨hno, _⟩; rotate_left; (exact absurd HBAD.out hno); have HB3 := Aside0.mk (HB2.out.trans (hb3.mono HB2.out.size)); clear hb3))
      go_ret
      exact ⟨rfl, below_alloc HB3.out _⟩
  · have HAL := Aside0.mk (alive15_calls w)
    obtain ⟨M, rfl⟩ := Int.eq_ofNat_of_zero_le (show 0 ≤ m by omega)
    obtain ⟨s, es⟩ : ∃ s, s = (r + 1).toNat := ⟨_, rfl⟩
    have hs : s ≤ M + 1 := by omega
    have hM : M < 7 := by omega
    have h1 : ¬ (M : Int) < 0 := by omega
    have h2 : ¬ (M : Int) > 6 := by omega
    have h3 : ¬ r < -1 := by omega
    have h4 : ¬ r > (M : Int) := by omega
    have h64 : 2 ^ M ≤ 2 ^ 6 := Nat.pow_le_pow_right (by decide) (by omega)
    obtain ⟨N, eN⟩ : ∃ N, N = 2 ^ M := ⟨_, rfl⟩
    obtain ⟨G1, eG1⟩ : ∃ G1, G1 = rmGen M s := ⟨_, rfl⟩
    obtain ⟨G2, eG2⟩ : ∃ G2, G2 = rmGen M (M + 1 - s) := ⟨_, rfl⟩
    have hD := H M hM s hs
    have hC1 := rm_canon M s hM (by omega)
    have hC2 := rm_canon M (M + 1 - s) hM (by omega)
    have HRM := Aside0.mk (fun X => (rm_calls says2 r M X).mono (R' := fun e w' => ∃ v, e = .returned (.tuple #[v, .int .i64 0]) ∧ CodeN X.heap.size w' v 2 1 [] (N : Int) G1 ∧ Below X.heap.size X w') (by
      rintro e w' ⟨hor, hb⟩
      rcases hor with ⟨hno, _⟩ | ⟨_, v, hv, hc⟩
      · exact absurd hno hbad
      · rw [toNat_nat, ← es, ← eN] at hc
        refine ⟨v, hv, ?_, hb⟩
        rw [eG1]; unfold rmGen; rw [← eN]; exact hc))
    have e2 : ((M : Int) - r - 1 + 1).toNat = M + 1 - s := by omega
    have HRM2 := Aside0.mk (fun X => (rm_calls says2 ((M : Int) - r - 1) M X).mono (R' := fun e w' => ∃ v, e = .returned (.tuple #[v, .int .i64 0]) ∧ CodeN X.heap.size w' v 2 1 [] (N : Int) G2 ∧ Below X.heap.size X w') (by
      rintro e w' ⟨hor, hb⟩
      rcases hor with ⟨hno, _⟩ | ⟨_, v, hv, hc⟩
      · exact absurd hno (by omega)
      · rw [toNat_nat, e2, ← eN] at hc
        refine ⟨v, hv, ?_, hb⟩
        rw [eG2]; unfold rmGen; rw [← eN]; exact hc))
    rw [← eG1, ← eN] at hC1
    rw [← eG2, ← eN] at hC2
    rw [← eG1, ← eG2, ← eN] at hD
    rw [← eN] at h64
    have HDU := Aside0.mk (fun X v (hv : CodeV X v 2 1 [] (N : Int) G1) => (dual_calls 2 1 [] F2 says2 (by simp) v N G1 X hv hC1 (by omega)).mono (R' := fun e w' => ∃ v, e = .returned (.tuple #[v, .int .i64 0]) ∧ CodeN X.heap.size w' v 2 1 [] (N : Int) G2 ∧ Below X.heap.size X w') (by
      rintro e w' ⟨v, hv, hc, hb⟩
      rw [hD] at hc
      exact ⟨v, hv, hc, hb⟩))
    have hok := mchk_ok hC2.chk
    rw [toNat_nat] at hok
    have HSA := Aside0.mk (fun X v v2 (hv : CodeV X v 2 1 [] (N : Int) G2) (hv2 : CodeV X v2 2 1 [] (N : Int) G2) => sameC_calls 2 1 [] (N : Int) G2 v v2 X hv hv2 (by simp) (by omega) (fun x hx => by rw [(hok.2.2.2 x hx).1]; omega))
    clear hbad hD hC1 hC2 hok eG1 eG2 eN es e2 h64
    go_enter Try.func3, Try.ntmps3
    go_wp2_with (first | (go_at_call 11; refine HAL.out.mono ?_; rintro e w2 ⟨rfl, hb2⟩; have HB2 := Aside0.mk hb2; clear hb2 HAL) | (go_at_call 12; refine (HRM.out _).mono ?_; clear HRM; rintro e w3 ⟨v3, rfl, hc3, hb3⟩; have HB3 := Aside0.mk (HB2.out.trans (hb3.mono HB2.out.size)); have HC3 := Aside0.mk hc3; obtain ⟨A3, k3, A4, k4, rfl, _, _⟩ := hc3; clear hb3) | (go_at_call 12; refine (HRM2.out _).mono ?_; clear HRM2; rintro e w4 ⟨v4, rfl, hc4, hb4⟩; have HB4 := Aside0.mk ((below_alloc HB3.out _).trans (hb4.mono (below_alloc HB3.out _).size)); have HC4 := Aside0.mk hc4; have HC34 := Aside0.mk ((HC3.out.below (below_alloc (Below.refl _ _) _)).below hb4); obtain ⟨A5, k5, A6, k6, rfl, _, _⟩ := hc4; have g3 := blk_alloc (blk_below (blk_new w3 (.cells #[.int .i64 2, .int .i64 1, .slice A3 0 k3, .int .i64 (N : Int), .slice A4 G1.length k4] 28)) hb4) (.cells #[.int .i64 2, .int .i64 1, .slice A5 0 k5, .int .i64 (N : Int), .slice A6 G2.length k6] 28); have y0 : (w4.alloc (.cells #[.int .i64 2, .int .i64 1, .slice A5 0 k5, .int .i64 (N : Int), .slice A6 G2.length k6] 28)).cell? ⟨w3.heap.size, 0, none⟩ = some (.int .i64 2) := (blk_cell g3 0).trans rfl; have y1 : (w4.alloc (.cells #[.int .i64 2, .int .i64 1, .slice A5 0 k5, .int .i64 (N : Int), .slice A6 G2.length k6] 28)).cell? ⟨w3.heap.size, 1, none⟩ = some (.int .i64 1) := (blk_cell g3 1).trans rfl; have y2 : (w4.alloc (.cells #[.int .i64 2, .int .i64 1, .slice A5 0 k5, .int .i64 (N : Int), .slice A6 G2.length k6] 28)).cell? ⟨w3.heap.size, 2, none⟩ = some (.slice A3 0 k3) := (blk_cell g3 2).trans rfl; have y3 : (w4.alloc (.cells #[.int .i64 2, .int .i64 1, .slice A5 0 k5, .int .i64 (N : Int), .slice A6 G2.length k6] 28)).cell? ⟨w3.heap.size, 3, none⟩ = some (.int .i64 (N : Int)) := (blk_cell g3 3).trans rfl; have y4 : (w4.alloc (.cells #[.int .i64 2, .int .i64 1, .slice A5 0 k5, .int .i64 (N : Int), .slice A6 G2.length k6] 28)).cell? ⟨w3.heap.size, 4, none⟩ = some (.slice A4 G1.length k4) := (blk_cell g3 4).trans rfl; clear hb4 g3) | (go_at_call 13; refine (HDU.out _ _ (HC34.out.now.below (below_alloc (Below.refl _ _) _))).mono ?_; rintro e w5 ⟨v5, rfl, hc5, hb5⟩; have hb6 := (below_alloc HB4.out (.cells #[.int .i64 2, .int .i64 1, .slice A5 0 k5, .int .i64 (N : Int), .slice A6 G2.length k6] 28)).trans (hb5.mono (below_alloc HB4.out _).size); have HB6 := Aside0.mk hb6; have HC5 := Aside0.mk hc5; have HC45 := Aside0.mk ((HC4.out.below (below_alloc (Below.refl _ _) (.cells #[.int .i64 2, .int .i64 1, .slice A5 0 k5, .int .i64 (N : Int), .slice A6 G2.length k6] 28))).below hb5); obtain ⟨A7, k7, A8, k8, rfl, _, _⟩ := hc5; have g4 := blk_alloc (blk_below (blk_new w4 (.cells #[.int .i64 2, .int .i64 1, .slice A5 0 k5, .int .i64 (N : Int), .slice A6 G2.length k6] 28)) hb5) (.cells #[.int .i64 2, .int .i64 1, .slice A7 0 k7, .int .i64 (N : Int), .slice A8 G2.length k8] 28); have g5 := blk_new w5 (.cells #[.int .i64 2, .int .i64 1, .slice A7 0 k7, .int .i64 (N : Int), .slice A8 G2.length k8] 28); have t0 : (w5.alloc (.cells #[.int .i64 2, .int .i64 1, .slice A7 0 k7, .int .i64 (N : Int), .slice A8 G2.length k8] 28)).cell? ⟨w4.heap.size, 0, none⟩ = some (.int .i64 2) := (blk_cell g4 0).trans rfl; have t1 : (w5.alloc (.cells #[.int .i64 2, .int .i64 1, .slice A7 0 k7, .int .i64 (N : Int), .slice A8 G2.length k8] 28)).cell? ⟨w4.heap.size, 1, none⟩ = some (.int .i64 1) := (blk_cell g4 1).trans rfl; have t2 : (w5.alloc (.cells #[.int .i64 2, .int .i64 1, .slice A7 0 k7, .int .i64 (N : Int), .slice A8 G2.length k8] 28)).cell? ⟨w4.heap.size, 2, none⟩ = some (.slice A5 0 k5) := (blk_cell g4 2).trans rfl; have t3 : (w5.alloc (.cells #[.int .i64 2, .int .i64 1, .slice A7 0 k7, .int .i64 (N : Int), .slice A8 G2.length k8] 28)).cell? ⟨w4.heap.size, 3, none⟩ = some (.int .i64 (N : Int)) := (blk_cell g4 3).trans rfl; have t4 : (w5.alloc (.cells #[.int .i64 2, .int .i64 1, .slice A7 0 k7, .int .i64 (N : Int), .slice A8 G2.length k8] 28)).cell? ⟨w4.heap.size, 4, none⟩ = some (.slice A6 G2.length k6) := (blk_cell g4 4).trans rfl; have u0 : (w5.alloc (.cells #[.int .i64 2, .int .i64 1, .slice A7 0 k7, .int .i64 (N : Int), .slice A8 G2.length k8] 28)).cell? ⟨w5.heap.size, 0, none⟩ = some (.int .i64 2) := (blk_cell g5 0).trans rfl; have u1 : (w5.alloc (.cells #[.int .i64 2, .int .i64 1, .slice A7 0 k7, .int .i64 (N : Int), .slice A8 G2.length k8] 28)).cell? ⟨w5.heap.size, 1, none⟩ = some (.int .i64 1) := (blk_cell g5 1).trans rfl; have u2 : (w5.alloc (.cells #[.int .i64 2, .int .i64 1, .slice A7 0 k7, .int .i64 (N : Int), .slice A8 G2.length k8] 28)).cell? ⟨w5.heap.size, 2, none⟩ = some (.slice A7 0 k7) := (blk_cell g5 2).trans rfl; have u3 : (w5.alloc (.cells #[.int .i64 2, .int .i64 1, .slice A7 0 k7, .int .i64 (N : Int), .slice A8 G2.length k8] 28)).cell? ⟨w5.heap.size, 3, none⟩ = some (.int .i64 (N : Int)) := (blk_cell g5 3).trans rfl; have u4 : (w5.alloc (.cells #[.int .i64 2, .int .i64 1, .slice A7 0 k7, .int .i64 (N : Int), .slice A8 G2.length k8] 28)).cell? ⟨w5.heap.size, 4, none⟩ = some (.slice A8 G2.length k8) := (blk_cell g5 4).trans rfl; clear hb5 hb6 g4 g5) | (go_at_call 14; refine (HSA.out _ _ _ (HC45.out.now.below (below_alloc (Below.refl _ _) _)) (HC5.out.now.below (below_alloc (Below.refl _ _) _))).mono ?_; rintro e w7 ⟨rfl, hb7⟩; have HB7 := Aside0.mk ((below_alloc HB6.out (.cells #[.int .i64 2, .int .i64 1, .slice A7 0 k7, .int .i64 (N : Int), .slice A8 G2.length k8] 28)).trans (hb7.mono (below_alloc HB6.out _).size)); clear hb7))
    go_ret
    exact ⟨rfl, HB7.out⟩
end Go.Proofs.Ytekenifndicdeaa.P
