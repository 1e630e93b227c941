import Derived.Test.YtjelamodjpepkaaVfSq
import Derived.Test.YtjelamodjpepkaaVfP3
namespace Go.Proofs.Ytjelamodjpepkaa.P
open Go.RowKit Go.Proofs.YtjelamodjpepkaaW.PrintWords Go.Proofs.YtjelamodjpepkaaW.PrintLast Go.Proofs.YtjelamodjpepkaaW.PrintMore
attribute [local go_sem] max2_int min2_int max_two min_two max_three min_three max_four min_four   -- for this text's walks alone
set_option linter.unusedVariables false
set_option linter.unusedSimpArgs false
/-! ### r04Neg: function 72 -/
def r04Neg.l0 : Nat → List Int → Int → Int → Int → List Int → Option (Int)
 | 0, _, _, _, _, _ => none
 | k + 1, x5, x6, x475000, x475001, x475002 => if x6 < (x5.length : Int) then (if 0 ≤ x6 then (if x475000 = 0 then (none) else (r04Neg.l0 k (x5.set (x6 : Int).toNat (Int.tmod (wrap64 (x475000 - (rd x5 x6))) x475000)) (wrap64 (x6 + 1)) x475000 x475001 x475002)) else (none)) else ((r04Value.f k x475000 x475001 x475002 x5).bind fun t480 => (some t480))
def r04Neg.f (k : Nat) (a0_0 : Int) (a0_1 : Int) (l0_2 : List Int) (a1 : Int) : Option (Int) := (r04Digits.f k a0_0 a0_1 l0_2 a1).bind fun t475 => (r04Neg.l0 k t475 0 a0_0 a0_1 l0_2)
theorem r04Neg.mono_l : ∀ k, (∀ y0 y1 y2 y3 y4, LeO (r04Neg.l0 k y0 y1 y2 y3 y4) (r04Neg.l0 (k + 1) y0 y1 y2 y3 y4))
 | 0 => fun _ _ _ _ _ r h => by simp [r04Neg.l0] at h
 | k + 1 => by
  have ih0 := r04Neg.mono_l k
  ·intro y0 y1 y2 y3 y4; unfold r04Neg.l0
   repeat' first
   | (with_reducible exact ih0 _ _ _ _ _)
   | (with_reducible exact r04Digits.mono _ _ _ _ _)
   | (with_reducible exact r04Value.mono _ _ _ _ _)
   | (with_reducible exact LeO.refl _)
   | (with_reducible exact LeO.none _)
   | (with_reducible refine LeO.ite ?_ ?_)
   | (with_reducible refine LeO.bind ?_ (fun _ => ?_))
   | exact ih0 _ _ _ _ _
   | exact r04Digits.mono _ _ _ _ _
   | exact r04Value.mono _ _ _ _ _
   | exact LeO.none _
   | refine LeO.ite ?_ ?_
   | refine LeO.bind ?_ (fun _ => ?_)
theorem r04Neg.mono : ∀ a0 a1 a2 a3 k, LeO (r04Neg.f k a0 a1 a2 a3) (r04Neg.f (k + 1) a0 a1 a2 a3) := by
 intro a0 a1 a2 a3 k; have ih0 := r04Neg.mono_l k; unfold r04Neg.f
 repeat' first
   | (with_reducible exact ih0 _ _ _ _ _)
   | (with_reducible exact r04Digits.mono _ _ _ _ _)
   | (with_reducible exact r04Value.mono _ _ _ _ _)
   | (with_reducible exact LeO.refl _)
   | (with_reducible exact LeO.none _)
   | (with_reducible refine LeO.ite ?_ ?_)
   | (with_reducible refine LeO.bind ?_ (fun _ => ?_))
   | exact ih0 _ _ _ _ _
   | exact r04Digits.mono _ _ _ _ _
   | exact r04Value.mono _ _ _ _ _
   | exact LeO.none _
   | refine LeO.ite ?_ ?_
   | refine LeO.bind ?_ (fun _ => ?_)
def r04Neg.T5 : Bool × List (List Nat × List Nat) := (true, [([], []), ([], []), ([], []), ([2], [2]), ([], []), ([], []), ([4, 5], [4, 5]), ([6], [6]), ([3, 7], [3, 7]), ([], []), ([9], [9]), ([8, 10], [8, 10]), ([0, 1, 0, 1, 2, 3, 4, 5, 6, 7, 8, 9, 10, 11], [0, 1]), ([12, 11, 0, 1, 2, 3, 4, 5, 6, 7, 8, 9, 10, 11], [11, 12])])
def r04Neg.B5 : List Nat := [0, 0, 0, 4, 0, 0, 48, 112, 252, 0, 512, 2044, 4095, 8191]
theorem r04Neg.tab5 : rtab .any (opsOf Try.f72 5) = r04Neg.T5 := by kernel_rfl
theorem r04Neg.bits5 : waitsOk r04Neg.T5.2 r04Neg.B5 = true := by kernel_rfl
set_option maxHeartbeats 8000000 in
set_option maxRecDepth 100000 in
theorem r04Neg.calls (k : Nat) (a0_0 : Int) (a0_1 : Int) (A0_2 : Option Addr) (c0_2 : Nat) (l0_2 : List Int) (a1 : Int) (r : Int) (w : World) (hr0_2 : Kd.C (Kd.int .i64) w A0_2 l0_2.length l0_2) (hc0_2 : l0_2.length ≤ c0_2) (h : r04Neg.f k a0_0 a0_1 l0_2 a1 = some r) :
  Calls Try.prog 72 #[.agg #[.int .i64 a0_0, .int .i64 a0_1, .slice A0_2 l0_2.length c0_2], .int .i64 a1] w fun e w' => e = .returned (.int .i64 r) ∧ Below w.heap.size w w' := by
 have hu47 := Try.underlying47; have HR0_2 := K0 hr0_2; have HC0_2 := K0 hc0_2; clear hr0_2 hc0_2; have HB := K0 (Below.refl w.heap.size w); have H : ((r04Digits.f k a0_0 a0_1 l0_2 a1).bind fun t475 => (r04Neg.l0 k t475 0 a0_0 a0_1 l0_2)) = some r := h; clear h; replace H := Option.bind_eq_some_iff.mp H; obtain ⟨t475, A30, H⟩ := H; (try dsimp only at H); have A3 := K0 A30; clear A30; have H' := K0 H; clear H; go_enter Try.func72, Try.ntmps72; go_wp2_with (first | ((with_reducible refine gate_dst (N := 2) rfl ?_); refine box_event ?hg (N := 2) ?hd (cs := #[.int .i64 a0_0, .int .i64 a0_1, .slice A0_2 l0_2.length c0_2]) (t := 47) ?hr ?_; (case hd => rfl); (case hg => rfl); (case hr => exact gs_); intro gb474 hg w4 hbox hb; have n0_ := K0 (below_step hb_ hb); have n1_ := K0 (hbox); have n2_ := K0 ((by rw [hg]; exact (below_size hb_) : w.heap.size ≤ gb474)); have n3_ := K0 ((by rw [hg]; exact (below_size hb_) : w.heap.size ≤ gb474)); clear HB; have HB := n0_; have BK474 := n1_; have GW474 := n2_; have GE474 := n3_; clear n0_ n1_ n2_ n3_; clear hb hbox hg; have hcz5_0 := bc0 BK474.out; have hcz5_1 := bc1 BK474.out; have hcz5_2 := bc2 BK474.out; have hfz5_0 := blk_frozen BK474.out 0; have hfz5_1 := blk_frozen BK474.out 1; have hfz5_2 := blk_frozen BK474.out 2) | ((with_reducible refine gate_callee (f := 57) rfl ?_); refine goesL_ (some 9) rfl rfl Try.func57 (by kernel_rfl) rfl #[.agg #[.int .i64 a0_0, .int .i64 a0_1, .slice A0_2 l0_2.length c0_2], .int .i64 a1] rfl ma_ ?_; (with_reducible refine (r04Digits.calls k a0_0 a0_1 _ _ l0_2 a1 t475 _ ?side1 ?side2 A3.out).mono ?_); (case side1 => exact rc_ (Kd.C_below HR0_2.out HB.out)); (case side2 => exact HC0_2.out); rintro e w6 ⟨v476, rfl, ho0, hb⟩; refine ⟨_, rfl, ?_⟩; have n0_ := K0 (Kd.R_lower ho0 (below_size hs_)); have n1_ := K0 (blk_below (kd_ BK474.out) hb); have n2_ := K0 (below_step hs_ hb); clear BK474; clear HB; have HO477 := n0_; have BK474 := n1_; have HB := n2_; clear n0_ n1_ n2_; (try clear hb); (try clear hb2); (try clear hk); (try clear hi); (try clear ho0))); go_loopg [6] k (fun kq v6 w' => ∃ (x5_1 : List Int) (x6_1 : Int), v6 = .int .i64 x6_1 ∧ Aside0 (r04Neg.l0 kq x5_1 x6_1 a0_0 a0_1 l0_2 = some r) ∧ Aside0 (kq ≤ k) ∧ Aside0 (Kd.R (Kd.int .i64) 3 w' w.heap.size (fun _ => True) v476 x5_1) ∧ Aside0 (w'.heap[gb474]? = some (.cells #[.int .i64 a0_0, .int .i64 a0_1, (.slice A0_2 l0_2.length c0_2)] 47 (0, 0))) ∧ Aside0 (Below w.heap.size w w'))
 case atStart => exact ⟨(t475), (0), si_, H', ⟨Nat.le_refl _⟩, ⟨rd_ HO477.out⟩, ⟨kd_ BK474.out⟩, ⟨hs_⟩⟩
 case round =>
  clear H'; (try clear p2); (try clear c5); (try clear hcz5_0); (try clear hcz5_1); (try clear hcz5_2); (try clear hfz5_0); (try clear hfz5_1); (try clear hfz5_2); obtain ⟨x5_1, x6_1, rfl, HA, HK1, HO_5, BK474, HB⟩ := hrel
  cases gk with
  | zero => exact absurd HA.out (by simp [r04Neg.l0])
  | succ k1 =>
   have H := HA.out; clear HA; simp only [r04Neg.l0] at H; by_cases c7 : x6_1 < (x5_1.length : Int)
   ·rw [if_pos c7] at H; have c7b0 : decide (x6_1 < (x5_1.length : Int)) = true := decide_eq_true c7; clear c7; by_cases c8 : 0 ≤ x6_1
    ·rw [if_pos c8] at H; have c8b0 : decide (0 ≤ x6_1) = true := decide_eq_true c8; clear c8; by_cases c9 : a0_0 = 0
     ·rw [if_pos c9] at H; exact absurd H (by simp)
     ·rw [if_neg c9] at H; have c9b0 : (a0_0 == 0) = false := beq_eq_false_iff_ne.mpr c9; have c9b1 : (a0_0 != 0) = true := bne_iff_ne.mpr c9; obtain ⟨y479, hy479⟩ : ∃ y_ : List Int, y_ = (x5_1.set (x6_1 : Int).toNat (Int.tmod (wrap64 (a0_0 - (rd x5_1 x6_1))) a0_0)) := ⟨_, rfl⟩; replace H : (r04Neg.l0 k1 y479 (wrap64 (x6_1 + 1)) a0_0 a0_1 l0_2) = some r := rq_ hy479 H; have Ny479 := K0 hy479; clear hy479; have H' := K0 H; clear H; obtain ⟨Ao11, co11, eo11⟩ := Kd.R_slice HO_5.out; subst eo11; (try go_wp2); have n0_ := K0 (Kd.R_drew HO_5.out); have n1_ := K0 (blk_drew BK474.out); have n2_ := K0 (below_drew1 HB.out); clear HO_5; clear BK474; clear HB; have HO_5 := n0_; have BK474 := n1_; have HB := n2_; clear n0_ n1_ n2_; have p478 : 0 ≤ (x6_1 : Int) := od_; have q478 : x6_1 < (x5_1.length : Int) := od_; obtain ⟨ad478, e478, hx478_0⟩ := Kd.at_int (Kd.R_reads' HO_5.out).2.2 x6_1 p478 q478; cases e478; replace p478 := eq_true p478; replace q478 := eq_true q478; have p10 : 0 ≤ (x6_1 : Int) := od_; have q10 : (x6_1 : Int) < ((x5_1.length : Int) : Int) := od_; obtain ⟨go10, co10, eo10, gb10, gl10, cl10, HG10⟩ := Kd.R_form HO_5.out (by omega); (first | cases eo10 | (injection eo10 with ea_ en_ ec_; (first | subst ea_ | (injection ea_ with ea_; subst ea_)); subst ec_; clear en_)); have GB10 := K0 gb10; have GG10 := K0 HG10; clear gb10 gl10 HG10; (first | simp only [add_plain] at hx478_0 | skip); obtain ⟨hx10_0, hf10_0⟩ := Kd.R_celln 0 HO_5.out (x6_1 : Int) p10 q10; replace p10 := eq_true p10; replace q10 := eq_true q10; have HP13 := Kd.R_putn HO_5.out (x6_1 : Int) (Int.tmod (wrap64 (a0_0 - (rd x5_1 x6_1))) a0_0); rw [← Ny479.out] at HP13; have HQ13 := K0 HP13; clear HP13; refine start_ (n := 14) (S := fun w' => w'.cell? ⟨gb474, 0, none⟩ = some (.int .i64 a0_0) ∧ w'.cell? ⟨gb474, 1, none⟩ = some (.int .i64 a0_1) ∧ w'.cell? ⟨gb474, 2, none⟩ = some (.slice A0_2 l0_2.length c0_2) ∧ w'.cell? ⟨go10, (x6_1).toNat, none⟩ = some (.int .i64 (rd x5_1 x6_1))) (ds := [13]) #[false, false, false, false, false, false, false, false, false, false, false, false, false, false] (by kernel_rfl) rfl rfl ⟨(blk_cell BK474.out 0).trans rfl, (blk_cell BK474.out 1).trans rfl, (blk_cell BK474.out 2).trans rfl, hx478_0⟩ (fun hHeld => ?_); refine with_tabW r04Neg.tab5 r04Neg.bits5 (fun HT_ HW_ => ?_); generalize wr.drew = w12 at HO_5 BK474 HB GG10 HQ13 hf10_0 hx10_0 hx478_0 hHeld ⊢; refine pv_ (i := 0) (N := some 16) ?_; refine pv_ (i := 1) (N := some 17) ?_; refine pv_ (i := 2) (N := some 18) ?_; refine pv_ (i := 4) (N := some 20) ?_; refine pv_ (i := 5) (N := some 21) ?_; refine pv_ (i := 6) (N := some 22) ?_; refine pv_ (i := 9) (N := some 25) ?_; refine tk_ (i := 3) (N := some 19) ?_; refine tk_ (i := 7) (N := some 23) ?_; refine pv_ (i := 8) (N := some 24) ?_; refine tk_ (i := 10) (N := some 26) ?_; refine pv_ (i := 11) (N := some 27) ?_; refine pv_ (i := 12) (N := some 28) ?_; refine last_ (i := 13) (N := none) #[true, true, true, true, true, true, true, true, true, true, true, true, true, true] rfl rfl (one_of HT_.out (by kernel_rfl)) (by decide) (fun K hK => ?_); refine skip_ (w1 := ?_) (by rfl) rfl ?_ ?_; rotate_left
      ·go_simp; rfl
      refine hK.out _ _ ?_; clear hK K; refine done_ (done_of HT_.out (by kernel_rfl)) ?_; (try go_wp2); go_roundg k1
      case measure => have := HK1.out; omega
      case rel => exact ⟨(y479), (wrap64 (x6_1 + 1)), si_, H', ⟨by have := HK1.out; omega⟩, ⟨rd_ HQ13.out⟩, ⟨by refine kd_ ?_; refine blk_far ?_ (by have h_ := Kd.R_ne HO_5.out BK474.out (by decide); intro e_; exact h_ (by rw [e_]; rfl)) _; refine kd_ ?_; exact BK474.out⟩, ⟨by repeat (first | (with_reducible first | exact HB.out | apply below_alloc | apply pw_below_drewN | apply below_drew1 | refine below_set ?_ GB10.out | refine below_set ?_ GE474.out) | exact HB.out)⟩⟩
    ·rw [if_neg c8] at H; exact absurd H (by simp)
   ·rw [if_neg c7] at H; have c7b0 : decide (x6_1 < (x5_1.length : Int)) = false := decide_eq_false c7; clear c7; replace H := Option.bind_eq_some_iff.mp H; obtain ⟨t480, A140, H⟩ := H; replace H : (some t480) = some r := H; have A14 := K0 A140; clear A140; obtain rfl := Option.some.inj H; obtain ⟨Ao15, co15, eo15⟩ := Kd.R_slice HO_5.out; subst eo15; have hcz16_0 := bc0 BK474.out; have hcz16_1 := bc1 BK474.out; have hcz16_2 := bc2 BK474.out; have hfz16_0 := blk_frozen BK474.out 0; have hfz16_1 := blk_frozen BK474.out 1; have hfz16_2 := blk_frozen BK474.out 2; go_wp2_with (first | ((with_reducible refine gate_callee (f := 58) rfl ?_); refine goesL_ (some 31) rfl rfl Try.func58 (by kernel_rfl) rfl #[.agg #[.int .i64 a0_0, .int .i64 a0_1, .slice A0_2 l0_2.length c0_2], .slice Ao15 x5_1.length co15] rfl ma_ ?_; (with_reducible refine (r04Value.calls k1 a0_0 a0_1 _ _ l0_2 _ _ x5_1 t480 _ ?side1 ?side2 ?side3 ?side4 A14.out).mono ?_); (case side1 => exact rc_ (Kd.C_below HR0_2.out HB.out)); (case side2 => exact HC0_2.out); (case side3 => exact rc_ (Kd.R_reads' HO_5.out).2.2); (case side4 => exact (Kd.R_reads' HO_5.out).2.1); rintro e w17 ⟨rfl, hb⟩; refine ⟨_, rfl, ?_⟩; have n0_ := K0 (Kd.R_below (rd_ HO_5.out) hb); have n1_ := K0 (blk_below (kd_ BK474.out) hb); have n2_ := K0 (below_step hs_ hb); clear HO_5; clear BK474; clear HB; have HO_5 := n0_; have BK474 := n1_; have HB := n2_; clear n0_ n1_ n2_; (try clear hb); (try clear hb2); (try clear hk); (try clear hi))); go_ret; exact ⟨er_, hs_⟩

/-! ### r09Copy: function 73 -/
def r09Copy.l0 : Nat → List (List Int) → List (List Int) → Int → Option ((List (List Int)))
 | 0, _, _, _ => none
 | k + 1, x0, x3, x4 => if x4 < (x0.length : Int) then ((some (([] : List Int) : List Int)).bind fun y481 => (if 0 ≤ x4 then (if y481.length + (rd_L1 x0 x4).length < 17592186044416 then (if x3.length < 5864062014805 then (r09Copy.l0 k x0 (x3 ++ [(y481 ++ (rd_L1 x0 x4))]) (wrap64 (x4 + 1))) else (none)) else (none)) else (none))) else (some x3)
def r09Copy.f (k : Nat) (l0 : List (List Int)) : Option ((List (List Int))) := r09Copy.l0 k l0 ([] : List (List Int)) 0
set_option maxHeartbeats 8000000 in
set_option maxRecDepth 100000 in
theorem r09Copy.calls (k : Nat) (A0 : Option Addr) (c0 : Nat) (l0 : List (List Int)) (r : List (List Int)) (w : World) (hr0 : Kd.C (Kd.slice 3 (Kd.int .i64)) w A0 l0.length l0) (hc0 : l0.length ≤ c0) (h : r09Copy.f k l0 = some r) :
  Calls Try.prog 73 #[.slice A0 l0.length c0] w fun e w' => ∃ v0_ : Value, e = .returned (v0_) ∧ Kd.S (Kd.slice 3 (Kd.int .i64)) 22 w' w.heap.size (fun _ => True) v0_ r ∧ Below w.heap.size w w' := by
 have HR0 := K0 hr0; have HC0 := K0 hc0; clear hr0 hc0; have HB := K0 (Below.refl w.heap.size w); have H : (r09Copy.l0 k l0 ([] : List (List Int)) 0) = some r := h; clear h; have H' := K0 H; clear H; go_enter Try.func73, Try.ntmps73; go_wp2; go_loopg [3, 4] k (fun kq v3 v4 w' => ∃ (x3_1 : List (List Int)) (x4_1 : Int), v4 = .int .i64 x4_1 ∧ Aside0 (r09Copy.l0 kq l0 x3_1 x4_1 = some r) ∧ Aside0 (kq ≤ k) ∧ Aside0 (Kd.S (Kd.slice 3 (Kd.int .i64)) 22 w' w.heap.size (fun _ => True) v3 x3_1) ∧ Aside0 (Below w.heap.size w w'))
 case atStart => exact ⟨(([] : List (List Int))), (0), si_, H', ⟨Nat.le_refl _⟩, ⟨by first | exact Kd.S_nil _ _ _ _ _ | exact Kd.N_nil _ _ _ _ _ | exact Kd.V_nil _ _ _ _ _ | exact Kd.Q_nil _ _ _ _ _ | exact Kd.R_nil _ _ _ _ _⟩, ⟨hb_⟩⟩
 case round =>
  clear H'; obtain ⟨x3_1, x4_1, rfl, HA, HK1, HO_3, HB⟩ := hrel
  cases gk with
  | zero => exact absurd HA.out (by simp [r09Copy.l0])
  | succ k1 =>
   have H := HA.out; clear HA; simp only [r09Copy.l0] at H; by_cases c2 : x4_1 < (l0.length : Int)
   ·rw [if_pos c2] at H; have c2b0 : decide (x4_1 < (l0.length : Int)) = true := decide_eq_true c2; clear c2; obtain ⟨y481, hy481⟩ : ∃ y_ : List Int, y_ = (([] : List Int)) := ⟨_, rfl⟩; replace H : (if 0 ≤ x4_1 then (if y481.length + (rd_L1 l0 x4_1).length < 17592186044416 then (if x3_1.length < 5864062014805 then (r09Copy.l0 k1 l0 (x3_1 ++ [(y481 ++ (rd_L1 l0 x4_1))]) (wrap64 (x4_1 + 1))) else (none)) else (none)) else (none)) = some r := rq_ hy481 H; have Ny481 := K0 hy481; clear hy481; by_cases c3 : 0 ≤ x4_1
    ·rw [if_pos c3] at H; have c3b0 : decide (0 ≤ x4_1) = true := decide_eq_true c3; clear c3; by_cases c4 : y481.length + (rd_L1 l0 x4_1).length < 17592186044416
     ·rw [if_pos c4] at H; have LMc4 := K0 c4; clear c4; obtain ⟨y485, hy485⟩ : ∃ y_ : List Int, y_ = (y481 ++ (rd_L1 l0 x4_1)) := ⟨_, rfl⟩; replace H : (if x3_1.length < 5864062014805 then (r09Copy.l0 k1 l0 (x3_1 ++ [y485]) (wrap64 (x4_1 + 1))) else (none)) = some r := rq_ hy485 H; have Ny485 := K0 hy485; clear hy485; by_cases c5 : x3_1.length < 5864062014805
      ·rw [if_pos c5] at H; have LMc5 := K0 c5; clear c5; obtain ⟨y488, hy488⟩ : ∃ y_ : List (List Int), y_ = (x3_1 ++ [y485]) := ⟨_, rfl⟩; replace H : (r09Copy.l0 k1 l0 y488 (wrap64 (x4_1 + 1))) = some r := rq_ hy488 H; have Ny488 := K0 hy488; clear hy488; have H' := K0 H; clear H; go_wp2_with (first | ((with_reducible refine gate_dst (N := 12) rfl ?_); refine Kd.R_lit (Kd.int .i64) _ 3 ?hg (N := 12) ?hd (xs := ([] : List Int)) (inner := []) (ok := fun _ => True) (okp := fun _ => True) ?hr ?hp (fun _ hk => hk) trivial (Below.refl _ _) (Nat.le_refl _) (by simp) ?_; (case hd => rfl); (case hg => rfl); (case hr => exact gs_); (case hp => exact (Reps.none _ _)); intro v482 w6 ho7 hb hg_ hnew_; clear hg_ hnew_; (first | rw [← Ny481.out] at ho7 | (simp only [Int.reduceToNat] at ho7; rw [← Ny481.out] at ho7)); have n0_ := K0 (Kd.S_elder' (sd_ HO_3.out) (Kd.R_base ho7) hb); have n1_ := K0 (Kd.R_lower ho7 (below_size hb_)); have n2_ := K0 (below_step hb_ hb); clear HO_3; clear HB; have HO_3 := n0_; have HO483 := n1_; have HB := n2_; clear n0_ n1_ n2_; clear hb ho7; have p484 : 0 ≤ (x4_1 : Int) := od_; have q484 : x4_1 < (l0.length : Int) := od_; obtain ⟨ad484, A484_0, c484_0, e484, hx484_0, hl484_0, hi484_0⟩ := at_L1 HR0.out x4_1 p484 q484; cases e484; replace hx484_0 := (HB.out.cell (World.block_lt_of_cell? w _ hx484_0)).trans hx484_0; have HR484_0 := K0 hi484_0; have HC484_0 := K0 hl484_0; clear hi484_0 hl484_0; replace p484 := eq_true p484; replace q484 := eq_true q484) | ((with_reducible refine gate_builtin (b := .append) (xs := #[.tmp 12, .tmp 16]) rfl ?_); at_builtin; refine Kd.R_append_rows (Kd.int .i64) (w0 := w) w.heap.size rfl (.tmp 12) (.tmp 16) 22 3 (.int .i64 0) 8 rfl Try.underlying22 info3 rfl (by decide) (by omega) v482 y481 (rd_L1 l0 x4_1) _ _ _ (fun _ => True) (fun _ => False) rfl rfl ?aO ?aR (fun _ _ h => h) (fun _ h => h.elim) ?aF ?aB ?aS ?aL ?_; (case aR => exact rc_ (Kd.C_below HR484_0.out HB.out)); (case aB => exact hb_); (case aF => exact (fun _ _ => trivial)); (case aO => exact (rd_ HO483.out)); (case aS => exact (below_size hb_)); (case aL => have := LMc4.out; omega); intro v486 w8 ho hb hg hat; rw [← Ny485.out] at ho; have n0_ := K0 (Kd.S_after (ok := (fun _ => True)) (sd_ HO_3.out) hg hat); have n1_ := K0 (hb); have n2_ := K0 (ho); clear HO_3; clear HB; clear HO483; have HO_3 := n0_; have HB := n1_; have HO487 := n2_; clear n0_ n1_ n2_; clear ho hb hg hat; obtain ⟨Ao10, co10, eo10⟩ := Kd.R_slice HO487.out; subst eo10) | ((with_reducible refine gate_builtin (b := .append) (xs := #[.tmp 11, .tmp 18]) rfl ?_); at_builtin; refine Kd.S_append (Kd.slice 3 (Kd.int .i64)) (w0 := w) w.heap.size rfl (.tmp 11) (.tmp 18) 23 22 (.slice none 0 0) 24 rfl Try.underlying23 info22 rfl (by decide) (by omega) u3 x3_1 y485 [.slice Ao10 y485.length co10] (fun _ => True) (fun k_ => some k_ = (.slice Ao10 y485.length co10 : Value).ownBlock) rfl rfl ?aP (fun k_ hk_ => ((Kd.R_mono (ok' := fun k_ => ((fun _ => True)) k_ ∧ some k_ ≠ (u3 : Value).ownBlock) (Kd.R_apart' (HO487.out) (Kd.S_typed HO_3.out) (by decide)) (fun k_ hk => ⟨trivial, hk.2⟩))).1 k_ hk_.symm) ?aF ?aO ?aB ?aS ?aL ?_; (case aP => exact Kd.M_row (Kd.R_mono (Kd.R_tight rfl (Kd.R_mono (ok' := fun k_ => ((fun _ => True)) k_ ∧ some k_ ≠ (u3 : Value).ownBlock) (Kd.R_apart' (HO487.out) (Kd.S_typed HO_3.out) (by decide)) (fun k_ hk => ⟨trivial, hk.2⟩))) (fun _ h_ => h_))); (case aB => exact hb_); (case aF => exact (fun _ _ => trivial)); (case aO => exact (by refine sd_ ?_; exact Kd.S_mono HO_3.out (fun k_ hk => ⟨trivial, fun e_ => hk.2 e_⟩))); (case aS => exact (below_size hb_)); (case aL => have := LMc5.out; omega); intro v489 w9 ho hb hg hat; rw [← Ny488.out] at ho; have n0_ := K0 (hb); have n1_ := K0 (ho); clear HB; clear HO_3; clear HO487; have HB := n0_; have HO490 := n1_; clear n0_ n1_; clear ho hb hg hat)); go_roundg k1
       case measure => have := HK1.out; omega
       case rel => exact ⟨(y488), (wrap64 (x4_1 + 1)), si_, H', ⟨by have := HK1.out; omega⟩, ⟨sd_ HO490.out⟩, ⟨hb_⟩⟩
      ·rw [if_neg c5] at H; exact absurd H (by simp)
     ·rw [if_neg c4] at H; exact absurd H (by simp)
    ·rw [if_neg c3] at H; exact absurd H (by simp)
   ·rw [if_neg c2] at H; have c2b0 : decide (x4_1 < (l0.length : Int)) = false := decide_eq_false c2; clear c2; obtain rfl := Option.some.inj H; go_wp2; go_ret; exact ⟨_, er_, sd_ HO_3.out, hb_⟩

/-! ### r09scale: function 74 -/
def r09scale.l0 : Nat → Int → List Int → List Int → Int → Int → Int → List Int → Option (List Int)
 | 0, _, _, _, _, _, _, _ => none
 | k + 1, x1, x2, x7, x8, x492000, x492001, x492002 => if x8 < (x2.length : Int) then (if 0 ≤ x8 then ((r04Mul.f k x492000 x492001 x492002 x1 (rd x2 x8)).bind fun t496 => (if x8 < (x7.length : Int) then (r09scale.l0 k x1 x2 (x7.set (x8 : Int).toNat t496) (wrap64 (x8 + 1)) x492000 x492001 x492002) else (none))) else (none)) else (some x7)
def r09scale.f (k : Nat) (a0_0 : Int) (a0_1 : Int) (l0_2 : List Int) (a1 : Int) (l2 : List Int) : Option (List Int) := if 0 ≤ (l2.length : Int) then (if ((l2.length : Int) : Int).toNat ≤ 35184372088832 then (r09scale.l0 k a1 l2 (List.replicate ((l2.length : Int) : Int).toNat 0) 0 a0_0 a0_1 l0_2) else (none)) else (none)
def r09scale.T5 : Bool × List (List Nat × List Nat) := (true, [([], []), ([], []), ([], []), ([], []), ([], []), ([], []), ([4, 5], [4, 5]), ([6], [6]), ([2, 3, 7], [2, 3, 7]), ([0, 1, 0, 1, 2, 3, 4, 5, 6, 7, 8], [0, 1]), ([9, 8, 8, 0, 1, 2, 3, 4, 5, 6, 7, 8], [8, 9])])
def r09scale.B5 : List Nat := [0, 0, 0, 0, 0, 0, 48, 112, 252, 511, 1023]
theorem r09scale.tab5 : rtab .any (opsOf Try.f74 5) = r09scale.T5 := by kernel_rfl
theorem r09scale.bits5 : waitsOk r09scale.T5.2 r09scale.B5 = true := by kernel_rfl
set_option maxHeartbeats 8000000 in
set_option maxRecDepth 100000 in
theorem r09scale.calls (k : Nat) (a0_0 : Int) (a0_1 : Int) (A0_2 : Option Addr) (c0_2 : Nat) (l0_2 : List Int) (a1 : Int) (A2 : Option Addr) (c2 : Nat) (l2 : List Int) (r : List Int) (w : World) (hr0_2 : Kd.C (Kd.int .i64) w A0_2 l0_2.length l0_2) (hc0_2 : l0_2.length ≤ c0_2) (hr2 : Kd.C (Kd.int .i64) w A2 l2.length l2) (hc2 : l2.length ≤ c2) (h : r09scale.f k a0_0 a0_1 l0_2 a1 l2 = some r) :
  Calls Try.prog 74 #[.agg #[.int .i64 a0_0, .int .i64 a0_1, .slice A0_2 l0_2.length c0_2], .int .i64 a1, .slice A2 l2.length c2] w fun e w' => ∃ v0_ : Value, e = .returned (v0_) ∧ Kd.R (Kd.int .i64) 3 w' w.heap.size (fun _ => True) v0_ r ∧ Below w.heap.size w w' := by
 have hu47 := Try.underlying47; have HR0_2 := K0 hr0_2; have HC0_2 := K0 hc0_2; clear hr0_2 hc0_2; have HR2 := K0 hr2; have HC2 := K0 hc2; clear hr2 hc2; have HB := K0 (Below.refl w.heap.size w); have H : (if 0 ≤ (l2.length : Int) then (if ((l2.length : Int) : Int).toNat ≤ 35184372088832 then (r09scale.l0 k a1 l2 (List.replicate ((l2.length : Int) : Int).toNat 0) 0 a0_0 a0_1 l0_2) else (none)) else (none)) = some r := h; clear h; by_cases c4 : 0 ≤ (l2.length : Int)
 ·rw [if_pos c4] at H; have c4b0 := eq_true c4; have c4b1 : decide (0 ≤ (l2.length : Int)) = true := decide_eq_true c4; clear c4; by_cases c5 : ((l2.length : Int) : Int).toNat ≤ 35184372088832
  ·rw [if_pos c5] at H; have c5b0 := eq_true c5; have c5b1 : decide (((l2.length : Int) : Int).toNat ≤ 35184372088832) = true := decide_eq_true c5; clear c5; obtain ⟨y492, hy492⟩ : ∃ y_ : List Int, y_ = (List.replicate ((l2.length : Int) : Int).toNat 0) := ⟨_, rfl⟩; replace H : (r09scale.l0 k a1 l2 y492 0 a0_0 a0_1 l0_2) = some r := rq_ hy492 H; have Ny492 := K0 hy492; clear hy492; have H' := K0 H; clear H; go_enter Try.func74, Try.ntmps74; go_wp2_with (first | ((with_reducible refine gate_dst (N := 3) rfl ?_); refine box_event ?hg (N := 3) ?hd (cs := #[.int .i64 a0_0, .int .i64 a0_1, .slice A0_2 l0_2.length c0_2]) (t := 47) ?hr ?_; (case hd => rfl); (case hg => rfl); (case hr => exact gs_); intro gb491 hg w6 hbox hb; have n0_ := K0 (below_step hb_ hb); have n1_ := K0 (hbox); have n2_ := K0 ((by rw [hg]; exact (below_size hb_) : w.heap.size ≤ gb491)); have n3_ := K0 ((by rw [hg]; exact (below_size hb_) : w.heap.size ≤ gb491)); clear HB; have HB := n0_; have BK491 := n1_; have GW491 := n2_; have GE491 := n3_; clear n0_ n1_ n2_ n3_; clear hb hbox hg) | ((with_reducible refine gate_dst (N := 11) rfl ?_); refine Kd.R_make (Kd.int .i64) _ 3 rfl (N := 11) rfl 22 _ _ rfl (l2.length : Int) rfl rfl Try.underlying22 (.int .i64 0) 8 info3 rfl (by decide) (by omega) 0 (ok := fun _ => True) (okp := fun _ => True) rfl (fun _ hk => hk) trivial od_ (Nat.le_trans (Nat.mul_le_mul_right _ (od_ : (l2.length : Int).toNat ≤ 35184372088832)) (by omega)) (Below.refl _ _) (Nat.le_refl _) ?_; intro v493 w7 ho8 hb hg_ hnew_; clear hg_ hnew_; (first | rw [← Ny492.out] at ho8 | (simp only [Int.reduceToNat] at ho8; rw [← Ny492.out] at ho8)); have n0_ := K0 (Kd.R_lower ho8 (below_size hs_)); have n1_ := K0 (blk_below (kd_ BK491.out) hb); have n2_ := K0 (below_step hs_ hb); clear BK491; clear HB; have HO494 := n0_; have BK491 := n1_; have HB := n2_; clear n0_ n1_ n2_; clear hb ho8)); go_loopg [8] k (fun kq v8 w' => ∃ (x7_1 : List Int) (x8_1 : Int), v8 = .int .i64 x8_1 ∧ Aside0 (r09scale.l0 kq a1 l2 x7_1 x8_1 a0_0 a0_1 l0_2 = some r) ∧ Aside0 (kq ≤ k) ∧ Aside0 (Kd.R (Kd.int .i64) 3 w' w.heap.size (fun _ => True) v493 x7_1) ∧ Aside0 (w'.heap[gb491]? = some (.cells #[.int .i64 a0_0, .int .i64 a0_1, (.slice A0_2 l0_2.length c0_2)] 47 (0, 0))) ∧ Aside0 (Below w.heap.size w w'))
   case atStart => exact ⟨(y492), (0), si_, H', ⟨Nat.le_refl _⟩, ⟨rd_ HO494.out⟩, ⟨kd_ BK491.out⟩, ⟨hs_⟩⟩
   case round =>
    clear H'; (try clear c2); (try clear p2); (try clear c4); (try clear c4b0); (try clear c4b1); (try clear c5); (try clear c5b0); (try clear c5b1); (try clear c7); obtain ⟨x7_1, x8_1, rfl, HA, HK1, HO_7, BK491, HB⟩ := hrel
    cases gk with
    | zero => exact absurd HA.out (by simp [r09scale.l0])
    | succ k1 =>
     have H := HA.out; clear HA; simp only [r09scale.l0] at H; by_cases c9 : x8_1 < (l2.length : Int)
     ·rw [if_pos c9] at H; have c9b0 : decide (x8_1 < (l2.length : Int)) = true := decide_eq_true c9; clear c9; by_cases c10 : 0 ≤ x8_1
      ·rw [if_pos c10] at H; have c10b0 : decide (0 ≤ x8_1) = true := decide_eq_true c10; clear c10; replace H := Option.bind_eq_some_iff.mp H; obtain ⟨t496, A110, H⟩ := H; (try dsimp only at H); have A11 := K0 A110; clear A110; by_cases c12 : x8_1 < (x7_1.length : Int)
       ·rw [if_pos c12] at H; have c12b0 : decide (x8_1 < (x7_1.length : Int)) = true := decide_eq_true c12; clear c12; obtain ⟨y497, hy497⟩ : ∃ y_ : List Int, y_ = (x7_1.set (x8_1 : Int).toNat t496) := ⟨_, rfl⟩; replace H : (r09scale.l0 k1 a1 l2 y497 (wrap64 (x8_1 + 1)) a0_0 a0_1 l0_2) = some r := rq_ hy497 H; have Ny497 := K0 hy497; clear hy497; have H' := K0 H; clear H; (try go_wp2); have n0_ := K0 (Kd.R_drew HO_7.out); have n1_ := K0 (blk_drew BK491.out); have n2_ := K0 (below_drew1 HB.out); clear HO_7; clear BK491; clear HB; have HO_7 := n0_; have BK491 := n1_; have HB := n2_; clear n0_ n1_ n2_; have p495 : 0 ≤ (x8_1 : Int) := od_; have q495 : x8_1 < (l2.length : Int) := od_; obtain ⟨ad495, e495, hx495_0⟩ := Kd.at_int HR2.out x8_1 p495 q495; have hw495_0 := hx495_0; cases e495; replace hx495_0 := (HB.out.cell (World.block_lt_of_cell? w _ hx495_0)).trans hx495_0; replace p495 := eq_true p495; replace q495 := eq_true q495; refine start_ (n := 11) (S := fun w' => w'.cell? ⟨gb491, 0, none⟩ = some (.int .i64 a0_0) ∧ w'.cell? ⟨gb491, 1, none⟩ = some (.int .i64 a0_1) ∧ w'.cell? ⟨gb491, 2, none⟩ = some (.slice A0_2 l0_2.length c0_2) ∧ w'.cell? (ad495.add (x8_1).toNat) = some (.int .i64 (rd l2 x8_1))) (ds := [10]) #[false, false, false, false, false, false, false, false, false, false, false] (by kernel_rfl) rfl rfl ⟨(blk_cell BK491.out 0).trans rfl, (blk_cell BK491.out 1).trans rfl, (blk_cell BK491.out 2).trans rfl, ((HB.out.cell (World.block_lt_of_cell? w _ hw495_0)).trans hw495_0)⟩ (fun hHeld => ?_); refine with_tabW r09scale.tab5 r09scale.bits5 (fun HT_ HW_ => ?_); generalize wr.drew = w14 at HO_7 BK491 HB hx495_0 hHeld ⊢; refine pv_ (i := 0) (N := some 18) ?_; refine pv_ (i := 1) (N := some 19) ?_; refine pv_ (i := 3) (N := some 21) ?_; refine pv_ (i := 4) (N := some 22) ?_; refine pv_ (i := 5) (N := some 23) ?_; refine pv_ (i := 6) (N := some 24) ?_; refine tk_ (i := 2) (N := some 20) ?_; refine tk_ (i := 7) (N := some 25) ?_; refine one_ (i := 8) (N := some 26) #[true, true, true, true, true, true, true, true, true, false, false] rfl rfl (one_of HT_.out (by kernel_rfl)) (by decide) (fun K hK => ?_); refine goes_ Try.func68 (by kernel_rfl) rfl #[.agg #[.int .i64 a0_0, .int .i64 a0_1, .slice A0_2 l0_2.length c0_2], .int .i64 a1, .int .i64 (rd l2 x8_1)] (by rfl) rfl rfl ma_ ?_; (with_reducible refine (r04Mul.calls k1 a0_0 a0_1 _ _ l0_2 a1 (rd l2 x8_1) t496 _ ?side1 ?side2 A11.out).mono ?_); (case side1 => exact rc_ (Kd.C_below HR0_2.out HB.out)); (case side2 => exact HC0_2.out); rintro e w15 ⟨rfl, hb⟩; refine ⟨_, rfl, ?_⟩; have n0_ := K0 (Kd.R_below (rd_ HO_7.out) hb); have n1_ := K0 (blk_below (kd_ BK491.out) hb); have n2_ := K0 (below_step hs_ hb); clear HO_7; clear BK491; clear HB; have HO_7 := n0_; have BK491 := n1_; have HB := n2_; clear n0_ n1_ n2_; (try clear hb); (try clear hb2); (try clear hk); (try clear hi); have p13 : 0 ≤ (x8_1 : Int) := od_; have q13 : (x8_1 : Int) < ((x7_1.length : Int) : Int) := od_; obtain ⟨go13, co13, eo13, gb13, gl13, cl13, HG13⟩ := Kd.R_form HO_7.out (by omega); (first | cases eo13 | (injection eo13 with ea_ en_ ec_; (first | subst ea_ | (injection ea_ with ea_; subst ea_)); subst ec_; clear en_)); have GB13 := K0 gb13; have GG13 := K0 HG13; clear gb13 gl13 HG13; obtain ⟨hx13_0, hf13_0⟩ := Kd.R_celln 0 HO_7.out (x8_1 : Int) p13 q13; replace p13 := eq_true p13; replace q13 := eq_true q13; have HP16 := Kd.R_putn HO_7.out (x8_1 : Int) t496; rw [← Ny497.out] at HP16; have HQ16 := K0 HP16; clear HP16; refine hK.out _ _ ⟨(blk_cell BK491.out 0).trans rfl, (blk_cell BK491.out 1).trans rfl, (blk_cell BK491.out 2).trans rfl, ((HB.out.cell (World.block_lt_of_cell? w _ hw495_0)).trans hw495_0)⟩ (fun hHeld => ?_); clear hK K; refine norm_ (a' := ?_) ?_ ?_; rotate_left
        ·(show Act.put _ (some 26) _ = _); simp only [Act.put, sA, sZ, sS, i64_w, i32_w]; rfl
        refine pv_ (i := 9) (N := some 27) ?_; refine last_ (i := 10) (N := none) #[true, true, true, true, true, true, true, true, true, true, true] rfl rfl (one_of HT_.out (by kernel_rfl)) (by decide) (fun K hK => ?_); refine skip_ (w1 := ?_) (by rfl) rfl ?_ ?_; rotate_left
        ·go_simp; rfl
        refine hK.out _ _ ?_; clear hK K; refine done_ (done_of HT_.out (by kernel_rfl)) ?_; (try go_wp2); go_roundg k1
        case measure => have := HK1.out; omega
        case rel => exact ⟨(y497), (wrap64 (x8_1 + 1)), si_, H', ⟨by have := HK1.out; omega⟩, ⟨rd_ HQ16.out⟩, ⟨by refine kd_ ?_; refine blk_far ?_ (by have h_ := Kd.R_ne HO_7.out BK491.out (by decide); intro e_; exact h_ (by rw [e_]; rfl)) _; refine kd_ ?_; exact BK491.out⟩, ⟨by repeat (first | (with_reducible first | exact HB.out | apply below_alloc | apply pw_below_drewN | apply below_drew1 | refine below_set ?_ GB13.out | refine below_set ?_ GE491.out) | exact HB.out)⟩⟩
       ·rw [if_neg c12] at H; exact absurd H (by simp)
      ·rw [if_neg c10] at H; exact absurd H (by simp)
     ·rw [if_neg c9] at H; have c9b0 : decide (x8_1 < (l2.length : Int)) = false := decide_eq_false c9; clear c9; obtain rfl := Option.some.inj H; go_wp2; go_ret; exact ⟨_, er_, rd_ HO_7.out, hs_⟩
  ·rw [if_neg c5] at H; exact absurd H (by simp)
 ·rw [if_neg c4] at H; exact absurd H (by simp)

/-! ### r04Inv: function 75 -/
def r04Inv.l0 : Nat → Int → Int → Int → Int → List Int → Option (Int)
 | 0, _, _, _, _, _ => none
 | k + 1, x1, x5, x499000, x499001, x499002 => (r04Order.f k x499000 x499001 x499002).bind fun t499 => (if x5 < t499 then ((r04Mul.f k x499000 x499001 x499002 x1 x5).bind fun t500 => (if t500 = 1 then (some x5) else (r04Inv.l0 k x1 (wrap64 (x5 + 1)) x499000 x499001 x499002))) else (some 0))
def r04Inv.f (k : Nat) (a0_0 : Int) (a0_1 : Int) (l0_2 : List Int) (a1 : Int) : Option (Int) := r04Inv.l0 k a1 1 a0_0 a0_1 l0_2
theorem r04Inv.mono_l : ∀ k, (∀ y0 y1 y2 y3 y4, LeO (r04Inv.l0 k y0 y1 y2 y3 y4) (r04Inv.l0 (k + 1) y0 y1 y2 y3 y4))
 | 0 => fun _ _ _ _ _ r h => by simp [r04Inv.l0] at h
 | k + 1 => by
  have ih0 := r04Inv.mono_l k
  ·intro y0 y1 y2 y3 y4; unfold r04Inv.l0
   repeat' first
   | (with_reducible exact ih0 _ _ _ _ _)
   | (with_reducible exact r04Mul.mono _ _ _ _ _ _)
   | (with_reducible exact r04Order.mono _ _ _ _)
   | (with_reducible exact LeO.refl _)
   | (with_reducible exact LeO.none _)
   | (with_reducible refine LeO.ite ?_ ?_)
   | (with_reducible refine LeO.bind ?_ (fun _ => ?_))
   | exact ih0 _ _ _ _ _
   | exact r04Mul.mono _ _ _ _ _ _
   | exact r04Order.mono _ _ _ _
   | exact LeO.none _
   | refine LeO.ite ?_ ?_
   | refine LeO.bind ?_ (fun _ => ?_)
theorem r04Inv.mono : ∀ a0 a1 a2 a3 k, LeO (r04Inv.f k a0 a1 a2 a3) (r04Inv.f (k + 1) a0 a1 a2 a3) := by
 intro a0 a1 a2 a3 k; have ih0 := r04Inv.mono_l k; unfold r04Inv.f
 repeat' first
   | (with_reducible exact ih0 _ _ _ _ _)
   | (with_reducible exact r04Mul.mono _ _ _ _ _ _)
   | (with_reducible exact r04Order.mono _ _ _ _)
   | (with_reducible exact LeO.refl _)
   | (with_reducible exact LeO.none _)
   | (with_reducible refine LeO.ite ?_ ?_)
   | (with_reducible refine LeO.bind ?_ (fun _ => ?_))
   | exact ih0 _ _ _ _ _
   | exact r04Mul.mono _ _ _ _ _ _
   | exact r04Order.mono _ _ _ _
   | exact LeO.none _
   | refine LeO.ite ?_ ?_
   | refine LeO.bind ?_ (fun _ => ?_)
set_option maxHeartbeats 8000000 in
set_option maxRecDepth 100000 in
theorem r04Inv.calls (k : Nat) (a0_0 : Int) (a0_1 : Int) (A0_2 : Option Addr) (c0_2 : Nat) (l0_2 : List Int) (a1 : Int) (r : Int) (w : World) (hr0_2 : Kd.C (Kd.int .i64) w A0_2 l0_2.length l0_2) (hc0_2 : l0_2.length ≤ c0_2) (h : r04Inv.f k a0_0 a0_1 l0_2 a1 = some r) :
  Calls Try.prog 75 #[.agg #[.int .i64 a0_0, .int .i64 a0_1, .slice A0_2 l0_2.length c0_2], .int .i64 a1] w fun e w' => e = .returned (.int .i64 r) ∧ Below w.heap.size w w' := by
 have hu47 := Try.underlying47; have HR0_2 := K0 hr0_2; have HC0_2 := K0 hc0_2; clear hr0_2 hc0_2; have HB := K0 (Below.refl w.heap.size w); have H : (r04Inv.l0 k a1 1 a0_0 a0_1 l0_2) = some r := h; clear h; have H' := K0 H; clear H; go_enter Try.func75, Try.ntmps75; go_wp2_with (first | ((with_reducible refine gate_dst (N := 2) rfl ?_); refine box_event ?hg (N := 2) ?hd (cs := #[.int .i64 a0_0, .int .i64 a0_1, .slice A0_2 l0_2.length c0_2]) (t := 47) ?hr ?_; (case hd => rfl); (case hg => rfl); (case hr => exact gs_); intro gb498 hg w3 hbox hb; have n0_ := K0 (below_step hb_ hb); have n1_ := K0 (hbox); have n2_ := K0 ((by rw [hg]; exact (below_size hb_) : w.heap.size ≤ gb498)); have n3_ := K0 ((by rw [hg]; exact (below_size hb_) : w.heap.size ≤ gb498)); clear HB; have HB := n0_; have BK498 := n1_; have GW498 := n2_; have GE498 := n3_; clear n0_ n1_ n2_ n3_; clear hb hbox hg)); go_loopg [5] k (fun kq v5 w' => ∃ (x5_1 : Int), v5 = .int .i64 x5_1 ∧ Aside0 (r04Inv.l0 kq a1 x5_1 a0_0 a0_1 l0_2 = some r) ∧ Aside0 (kq ≤ k) ∧ Aside0 (w'.heap[gb498]? = some (.cells #[.int .i64 a0_0, .int .i64 a0_1, (.slice A0_2 l0_2.length c0_2)] 47 (0, 0))) ∧ Aside0 (Below w.heap.size w w'))
 case atStart => exact ⟨(1), si_, H', ⟨Nat.le_refl _⟩, ⟨kd_ BK498.out⟩, ⟨hs_⟩⟩
 case round =>
  clear H'; (try clear p2); obtain ⟨x5_1, rfl, HA, HK1, BK498, HB⟩ := hrel
  cases gk with
  | zero => exact absurd HA.out (by simp [r04Inv.l0])
  | succ k1 =>
   have H := HA.out; clear HA; simp only [r04Inv.l0] at H; replace H := Option.bind_eq_some_iff.mp H; obtain ⟨t499, A40, H⟩ := H; (try dsimp only at H); have A4 := K0 A40; clear A40; have HS5 := K0 H; clear H; have hcz6_0 := bc0 BK498.out; have hcz6_1 := bc1 BK498.out; have hcz6_2 := bc2 BK498.out; have hfz6_0 := blk_frozen BK498.out 0; have hfz6_1 := blk_frozen BK498.out 1; have hfz6_2 := blk_frozen BK498.out 2; (go_upto_if 9 with (first | ((with_reducible refine gate_callee (f := 59) rfl ?_); refine goesL_ (some 8) rfl rfl Try.func59 (by kernel_rfl) rfl #[.agg #[.int .i64 a0_0, .int .i64 a0_1, .slice A0_2 l0_2.length c0_2]] rfl ma_ ?_; (with_reducible refine (r04Order.calls k1 a0_0 a0_1 _ _ l0_2 t499 _ ?side1 ?side2 A4.out).mono ?_); (case side1 => exact rc_ (Kd.C_below HR0_2.out HB.out)); (case side2 => exact HC0_2.out); rintro e w7 ⟨rfl, hb⟩; refine ⟨_, rfl, ?_⟩; have n0_ := K0 (blk_below (kd_ BK498.out) hb); have n1_ := K0 (below_step hs_ hb); clear BK498; clear HB; have BK498 := n0_; have HB := n1_; clear n0_ n1_; (try clear hb); (try clear hb2); (try clear hk); (try clear hi)))); (try simp only [Act.put, sA, sZ, sS]); have H := HS5.out; clear HS5; by_cases c8 : x5_1 < t499
   ·rw [if_pos c8] at H; have c8b0 : decide (x5_1 < t499) = true := decide_eq_true c8; clear c8; (first | rw [c8b0] | (simp only [i64_w, i32_w]; rw [c8b0]) | skip); replace H := Option.bind_eq_some_iff.mp H; obtain ⟨t500, A90, H⟩ := H; (try dsimp only at H); have A9 := K0 A90; clear A90; have HS10 := K0 H; clear H; have hcz11_0 := bc0 BK498.out; have hcz11_1 := bc1 BK498.out; have hcz11_2 := bc2 BK498.out; have hfz11_0 := blk_frozen BK498.out 0; have hfz11_1 := blk_frozen BK498.out 1; have hfz11_2 := blk_frozen BK498.out 2; (go_upto_if 16 with (first | ((with_reducible refine gate_callee (f := 68) rfl ?_); refine goesL_ (some 15) rfl rfl Try.func68 (by kernel_rfl) rfl #[.agg #[.int .i64 a0_0, .int .i64 a0_1, .slice A0_2 l0_2.length c0_2], .int .i64 a1, .int .i64 x5_1] rfl ma_ ?_; (with_reducible refine (r04Mul.calls k1 a0_0 a0_1 _ _ l0_2 a1 x5_1 t500 _ ?side1 ?side2 A9.out).mono ?_); (case side1 => exact rc_ (Kd.C_below HR0_2.out HB.out)); (case side2 => exact HC0_2.out); rintro e w12 ⟨rfl, hb⟩; refine ⟨_, rfl, ?_⟩; have n0_ := K0 (blk_below (kd_ BK498.out) hb); have n1_ := K0 (below_step hs_ hb); clear BK498; clear HB; have BK498 := n0_; have HB := n1_; clear n0_ n1_; (try clear hb); (try clear hb2); (try clear hk); (try clear hi)))); (try simp only [Act.put, sA, sZ, sS]); have H := HS10.out; clear HS10; by_cases c13 : t500 = 1
    ·rw [if_pos c13] at H; have c13b0 : (t500 == 1) = true := beq_iff_eq.mpr c13; have c13b1 : (t500 != 1) = false := bne_eq_false_iff_eq.mpr c13; clear c13; (first | rw [c13b0] | (simp only [i64_w, i32_w]; rw [c13b0]) | skip); obtain rfl := Option.some.inj H; go_wp2; go_ret; exact ⟨er_, hs_⟩
    ·rw [if_neg c13] at H; have c13b0 : (t500 == 1) = false := beq_eq_false_iff_ne.mpr c13; have c13b1 : (t500 != 1) = true := bne_iff_ne.mpr c13; (first | rw [c13b0] | (simp only [i64_w, i32_w]; rw [c13b0]) | skip); have H' := K0 H; clear H; go_wp2; go_roundg k1
     case measure => have := HK1.out; omega
     case rel => exact ⟨(wrap64 (x5_1 + 1)), si_, H', ⟨by have := HK1.out; omega⟩, ⟨kd_ BK498.out⟩, ⟨hs_⟩⟩
   ·rw [if_neg c8] at H; have c8b0 : decide (x5_1 < t499) = false := decide_eq_false c8; clear c8; (first | rw [c8b0] | (simp only [i64_w, i32_w]; rw [c8b0]) | skip); obtain rfl := Option.some.inj H; go_wp2; go_ret; exact ⟨er_, hs_⟩


end Go.Proofs.Ytjelamodjpepkaa.P
