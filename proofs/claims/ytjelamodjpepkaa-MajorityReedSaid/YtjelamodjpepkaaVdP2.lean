import Derived.Test.YtjelamodjpepkaaVdP1
namespace Go.Proofs.Ytjelamodjpepkaa.P
open Go.RowKit Go.Proofs.YtjelamodjpepkaaW.PrintWords Go.Proofs.YtjelamodjpepkaaW.PrintLast Go.Proofs.YtjelamodjpepkaaW.PrintMore
attribute [local go_sem] max2_int min2_int max_two min_two max_three min_three max_four min_four   -- for this text's walks alone
set_option linter.unusedVariables false
set_option linter.unusedSimpArgs false
/-! ### majority_Reed: function 19 -/
mutual
def majority_Reed.j0 : Nat → Int → Int → List Int → Bool → Option (List Int × List Int × Int)
 | 0, _, _, _, _ => none
 | k + 1, x0, x1, x2, x39 => if x39 = true then (some (([] : List Int), ([] : List Int), 6)) else ((majority_bits.f k x1 x2).bind fun t291 => (if t291 = 0 then ((classic_Monomials.f x0 x1).bind fun bt292 => (if ([] : List Int).length + x2.length < 17592186044416 then (if 0 ≤ (x2.length : Int) then (if ((x2.length : Int) : Int).toNat ≤ 35184372088832 then (majority_Reed.l0 k x0 x1 x2 bt292.1 (([] : List Int) ++ x2) (List.replicate ((x2.length : Int) : Int).toNat 0) (bt292.1.length : Int)) else (none)) else (none)) else (none))) else (some (([] : List Int), ([] : List Int), t291))))
def majority_Reed.l0 : Nat → Int → Int → List Int → List (List Int) → List Int → List Int → Int → Option (List Int × List Int × Int)
 | 0, _, _, _, _, _, _, _ => none
 | k + 1, x0, x1, x2, x9, x11, x12, x13 => if x13 > 0 then (if 0 ≤ (wrap64 (x13 - 1)) then (if (wrap64 (x13 - 1)) < (x9.length : Int) then (if 0 ≤ (x2.length : Int) then (if ((x2.length : Int) : Int).toNat ≤ 35184372088832 then (majority_Reed.l1 k x0 x1 x2 x9 x11 x12 x13 ((rd_L1 x9 (wrap64 (x13 - 1))).length : Int) (List.replicate ((x2.length : Int) : Int).toNat 0)) else (none)) else (none)) else (none)) else (none)) else ((majority_decoded.f x12 x2).bind fun bt302 => (if 0 ≤ (wrap64 (x1 - x0)) then (if (bt302.2.length : Int) > (wrap64 (Int.tdiv (wrap64 ((shl .i64 1 (wrap64 (x1 - x0))) - 1)) 2)) then (some (([] : List Int), ([] : List Int), 12)) else (some (bt302.1, bt302.2, 0))) else (none)))
def majority_Reed.l1 : Nat → Int → Int → List Int → List (List Int) → List Int → List Int → Int → Int → List Int → Option (List Int × List Int × Int)
 | 0, _, _, _, _, _, _, _, _, _ => none
 | k + 1, x0, x1, x2, x9, x11, x12, x13, x14, x15 => if x13 > 0 then (if 0 ≤ (wrap64 (x13 - 1)) then (if (wrap64 (x13 - 1)) < (x9.length : Int) then (majority_Reed.j3 k x0 x1 x2 x9 x11 x12 x13 x14 x15 (((rd_L1 x9 (wrap64 (x13 - 1))).length : Int) == x14)) else (none)) else (none)) else (majority_Reed.j3 k x0 x1 x2 x9 x11 x12 x13 x14 x15 false)
def majority_Reed.j3 : Nat → Int → Int → List Int → List (List Int) → List Int → List Int → Int → Int → List Int → Bool → Option (List Int × List Int × Int)
 | 0, _, _, _, _, _, _, _, _, _, _ => none
 | k + 1, x0, x1, x2, x9, x11, x12, x13, x14, x15, x83 => if x83 = true then (if 0 ≤ (wrap64 (x13 - 1)) then (if (wrap64 (x13 - 1)) < (x9.length : Int) then ((majority_mask.f k (rd_L1 x9 (wrap64 (x13 - 1)))).bind fun t315 => ((majority_votes.f k x11 t315).bind fun t316 => (majority_Reed.l2 k x0 x1 x2 x9 x11 x12 x13 x14 x15 t315 0 t316 t316 (t316.length : Int) 0))) else (none)) else (none)) else (majority_Reed.l4 k x0 x1 x2 x9 x11 x12 x13 x15 (x15.length : Int) 0)
def majority_Reed.l2 : Nat → Int → Int → List Int → List (List Int) → List Int → List Int → Int → Int → List Int → Int → Int → List Int → List Int → Int → Int → Option (List Int × List Int × Int)
 | 0, _, _, _, _, _, _, _, _, _, _, _, _, _, _, _ => none
 | k + 1, x0, x1, x2, x9, x11, x12, x13, x14, x15, x16, x17, x18, x95, x96, x97 => if x97 < x96 then (if 0 ≤ x97 then (if x97 < (x95.length : Int) then (majority_Reed.l2 k x0 x1 x2 x9 x11 x12 x13 x14 x15 x16 (wrap64 (x17 + (rd x95 x97))) x18 x95 x96 (wrap64 (x97 + 1))) else (none)) else (none)) else (if (wrap64 (2 * x17)) ≤ (x18.length : Int) then (majority_Reed.l1 k x0 x1 x2 x9 x11 x12 (wrap64 (x13 - 1)) x14 x15) else (majority_Reed.l3 k x0 x1 x2 x9 x11 x12 x13 x14 x15 x16 (x15.length : Int) 0))
def majority_Reed.l3 : Nat → Int → Int → List Int → List (List Int) → List Int → List Int → Int → Int → List Int → Int → Int → Int → Option (List Int × List Int × Int)
 | 0, _, _, _, _, _, _, _, _, _, _, _, _ => none
 | k + 1, x0, x1, x2, x9, x11, x12, x13, x14, x15, x16, x111, x112 => if x112 < x111 then (if (Go.bits .and .i64 x112 x16) = x16 then (if 0 ≤ x112 then (if x112 < (x15.length : Int) then (majority_Reed.l3 k x0 x1 x2 x9 x11 x12 x13 x14 (x15.set (x112 : Int).toNat (Go.bits .xor .i64 (rd x15 x112) 1)) x16 x111 (wrap64 (x112 + 1))) else (none)) else (none)) else (majority_Reed.l3 k x0 x1 x2 x9 x11 x12 x13 x14 x15 x16 x111 (wrap64 (x112 + 1)))) else (majority_Reed.l1 k x0 x1 x2 x9 x11 x12 (wrap64 (x13 - 1)) x14 x15)
def majority_Reed.l4 : Nat → Int → Int → List Int → List (List Int) → List Int → List Int → Int → List Int → Int → Int → Option (List Int × List Int × Int)
 | 0, _, _, _, _, _, _, _, _, _, _ => none
 | k + 1, x0, x1, x2, x9, x11, x12, x13, x127, x128, x129 => if x129 < x128 then (if 0 ≤ x129 then (if x129 < (x127.length : Int) then (if x129 < (x11.length : Int) then (if x129 < (x12.length : Int) then (majority_Reed.l4 k x0 x1 x2 x9 (x11.set (x129 : Int).toNat (Go.bits .xor .i64 (rd x11 x129) (rd x127 x129))) (x12.set (x129 : Int).toNat (Go.bits .xor .i64 (rd x12 x129) (rd x127 x129))) x13 x127 x128 (wrap64 (x129 + 1))) else (none)) else (none)) else (none)) else (none)) else (majority_Reed.l0 k x0 x1 x2 x9 x11 x12 x13)
end
def majority_Reed.f (k : Nat) (a0 : Int) (a1 : Int) (l2 : List Int) : Option (List Int × List Int × Int) := if a1 < 0 then (majority_Reed.j0 k a0 a1 l2 true) else (if a1 > 6 then (majority_Reed.j0 k a0 a1 l2 true) else (if a0 < 0 then (majority_Reed.j0 k a0 a1 l2 true) else (majority_Reed.j0 k a0 a1 l2 (decide (a0 > a1)))))
set_option maxHeartbeats 8000000 in
set_option maxRecDepth 100000 in
theorem majority_Reed.calls (k : Nat) (a0 : Int) (a1 : Int) (A2 : Option Addr) (c2 : Nat) (l2 : List Int) (r1 : List Int) (r2 : List Int) (r3 : Int) (w : World) (hr2 : Kd.C (Kd.int .i64) w A2 l2.length l2) (hc2 : l2.length ≤ c2) (h : majority_Reed.f k a0 a1 l2 = some (r1, r2, r3)) :
  Calls Try.prog 19 #[.int .i64 a0, .int .i64 a1, .slice A2 l2.length c2] w fun e w' => ∃ v0_ v1_ : Value, e = .returned (.tuple #[.agg #[v0_, v1_], .int .i64 r3]) ∧ Kd.R (Kd.int .i64) 3 w' w.heap.size (fun k_ => some k_ ≠ (v1_ : Value).ownBlock) v0_ r1 ∧ Kd.R (Kd.int .i64) 3 w' w.heap.size (fun k_ => some k_ ≠ (v0_ : Value).ownBlock) v1_ r2 ∧ Below w.heap.size w w' := by
 have hu38 := Try.underlying38
 have HR2 := Aside0.mk hr2
 have HC2 := Aside0.mk hc2
 clear hr2 hc2
 have HB := Aside0.mk (Below.refl w.heap.size w)
 have H : (if a1 < 0 then (majority_Reed.j0 k a0 a1 l2 true) else (if a1 > 6 then (majority_Reed.j0 k a0 a1 l2 true) else (if a0 < 0 then (majority_Reed.j0 k a0 a1 l2 true) else (majority_Reed.j0 k a0 a1 l2 (decide (a0 > a1)))))) = some (r1, r2, r3) := h
 clear h
 have HC4 := Aside0.mk H
 clear H
 go_enter Try.func19, Try.ntmps19
 go_upto_region 1 with (first | ((with_reducible refine gate_dst (N := 6) rfl ?_); (try (refine gate_guard (by rfl) ?_; dsimp only)); refine box_event ?hg (N := 6) ?hd (cs := #[.slice none 0 0, .slice none 0 0]) (t := 38) ?hr ?_; (case hd => rfl); (case hg => rfl); (case hr => first | (go_simp; done) | (go_simp; rfl)); intro gb290 hg w5 hbox hb; have n0_ := Aside0.mk (below_step (by repeat (first | (with_reducible first | exact HB.out | apply below_alloc | apply pw_below_drewN | apply below_drew1) | exact HB.out)) hb); have n1_ := Aside0.mk (hbox); have n2_ := Aside0.mk ((by rw [hg]; exact (below_size (by repeat (first | (with_reducible first | exact HB.out | apply below_alloc | apply pw_below_drewN | apply below_drew1) | exact HB.out))) : w.heap.size ≤ gb290)); have n3_ := Aside0.mk ((by rw [hg]; exact (below_size (by repeat (first | (with_reducible first | exact HB.out | apply below_alloc | apply pw_below_drewN | apply below_drew1) | exact HB.out))) : w.heap.size ≤ gb290)); clear HB; have HB := n0_; have BK290 := n1_; have GW290 := n2_; have GE290 := n3_; clear n0_ n1_ n2_ n3_; clear hb hbox hg))
 repeat (go_quiet (first | ((with_reducible refine gate_dst (N := 6) rfl ?_); (try (refine gate_guard (by rfl) ?_; dsimp only)); refine box_event ?hg (N := 6) ?hd (cs := #[.slice none 0 0, .slice none 0 0]) (t := 38) ?hr ?_; (case hd => rfl); (case hg => rfl); (case hr => first | (go_simp; done) | (go_simp; rfl)); intro gb290 hg w5 hbox hb; have n0_ := Aside0.mk (below_step (by repeat (first | (with_reducible first | exact HB.out | apply below_alloc | apply pw_below_drewN | apply below_drew1) | exact HB.out)) hb); have n1_ := Aside0.mk (hbox); have n2_ := Aside0.mk ((by rw [hg]; exact (below_size (by repeat (first | (with_reducible first | exact HB.out | apply below_alloc | apply pw_below_drewN | apply below_drew1) | exact HB.out))) : w.heap.size ≤ gb290)); have n3_ := Aside0.mk ((by rw [hg]; exact (below_size (by repeat (first | (with_reducible first | exact HB.out | apply below_alloc | apply pw_below_drewN | apply below_drew1) | exact HB.out))) : w.heap.size ≤ gb290)); clear HB; have HB := n0_; have BK290 := n1_; have GW290 := n2_; have GE290 := n3_; clear n0_ n1_ n2_ n3_; clear hb hbox hg)); go_upto_region 1 with (first | ((with_reducible refine gate_dst (N := 6) rfl ?_); (try (refine gate_guard (by rfl) ?_; dsimp only)); refine box_event ?hg (N := 6) ?hd (cs := #[.slice none 0 0, .slice none 0 0]) (t := 38) ?hr ?_; (case hd => rfl); (case hg => rfl); (case hr => first | (go_simp; done) | (go_simp; rfl)); intro gb290 hg w5 hbox hb; have n0_ := Aside0.mk (below_step (by repeat (first | (with_reducible first | exact HB.out | apply below_alloc | apply pw_below_drewN | apply below_drew1) | exact HB.out)) hb); have n1_ := Aside0.mk (hbox); have n2_ := Aside0.mk ((by rw [hg]; exact (below_size (by repeat (first | (with_reducible first | exact HB.out | apply below_alloc | apply pw_below_drewN | apply below_drew1) | exact HB.out))) : w.heap.size ≤ gb290)); have n3_ := Aside0.mk ((by rw [hg]; exact (below_size (by repeat (first | (with_reducible first | exact HB.out | apply below_alloc | apply pw_below_drewN | apply below_drew1) | exact HB.out))) : w.heap.size ≤ gb290)); clear HB; have HB := n0_; have BK290 := n1_; have GW290 := n2_; have GE290 := n3_; clear n0_ n1_ n2_ n3_; clear hb hbox hg)))
 (try simp only [Act.put, List.setIfInBounds_toArray, List.set_cons_zero, List.set_cons_succ])
 go_cut [39] (fun v39 wc => ∃ (kq : Nat) (x39_3 : Bool), v39 = .bool x39_3 ∧ Aside0 (majority_Reed.j0 kq a0 a1 l2 x39_3 = some (r1, r2, r3)) ∧ Aside0 (kq ≤ k) ∧ Aside0 (wc.heap[gb290]? = some (.cells #[(.slice none 0 0), (.slice none 0 0)] 38 (0, 0))) ∧ Aside0 (Below w.heap.size w wc))
 case first =>
  have H := HC4.out
  clear HC4
  by_cases c6 : a1 < 0
  ·rw [if_pos c6] at H
   have c6b0 : decide (a1 < 0) = true := decide_eq_true c6
   clear c6
   (first | rw [c6b0] | (simp only [i64_w, i32_w]; rw [c6b0]) | skip)
   have H' := Aside0.mk H
   clear H
   go_wp2
   repeat (go_quiet (fail); try go_wp2)
   go_meet
   case rel => exact ⟨_, (true), (by first | rfl | (simp; done) | (simp [*]; done)), H', ⟨by first | omega | exact Nat.le_refl _⟩, ⟨by (with_reducible repeat (first | refine blk_drewN ?_ _ | refine blk_drew ?_ | refine blk_alloc ?_ _)); exact BK290.out⟩, ⟨by repeat (first | (with_reducible first | exact HB.out | apply below_alloc | apply pw_below_drewN | apply below_drew1 | refine below_set ?_ GE290.out) | exact HB.out)⟩⟩
  ·rw [if_neg c6] at H
   have c6b0 : decide (a1 < 0) = false := decide_eq_false c6
   clear c6
   (first | rw [c6b0] | (simp only [i64_w, i32_w]; rw [c6b0]) | skip)
   by_cases c7 : a1 > 6
   ·rw [if_pos c7] at H
    have c7b0 : decide (6 < a1) = true := decide_eq_true c7
    clear c7
    have H' := Aside0.mk H
    clear H
    go_wp2
    repeat (go_quiet (fail); try go_wp2)
    go_meet
    case rel => exact ⟨_, (true), (by first | rfl | (simp; done) | (simp [*]; done)), H', ⟨by first | omega | exact Nat.le_refl _⟩, ⟨by (with_reducible repeat (first | refine blk_drewN ?_ _ | refine blk_drew ?_ | refine blk_alloc ?_ _)); exact BK290.out⟩, ⟨by repeat (first | (with_reducible first | exact HB.out | apply below_alloc | apply pw_below_drewN | apply below_drew1 | refine below_set ?_ GE290.out) | exact HB.out)⟩⟩
   ·rw [if_neg c7] at H
    have c7b0 : decide (6 < a1) = false := decide_eq_false c7
    clear c7
    by_cases c8 : a0 < 0
    ·rw [if_pos c8] at H
     have c8b0 : decide (a0 < 0) = true := decide_eq_true c8
     clear c8
     have H' := Aside0.mk H
     clear H
     go_wp2
     repeat (go_quiet (fail); try go_wp2)
     go_meet
     case rel => exact ⟨_, (true), (by first | rfl | (simp; done) | (simp [*]; done)), H', ⟨by first | omega | exact Nat.le_refl _⟩, ⟨by (with_reducible repeat (first | refine blk_drewN ?_ _ | refine blk_drew ?_ | refine blk_alloc ?_ _)); exact BK290.out⟩, ⟨by repeat (first | (with_reducible first | exact HB.out | apply below_alloc | apply pw_below_drewN | apply below_drew1 | refine below_set ?_ GE290.out) | exact HB.out)⟩⟩
    ·rw [if_neg c8] at H
     have c8b0 : decide (a0 < 0) = false := decide_eq_false c8
     clear c8
     have H' := Aside0.mk H
     clear H
     go_wp2
     repeat (go_quiet (fail); try go_wp2)
     go_meet
     case rel => exact ⟨_, (decide (a0 > a1)), (by first | rfl | (simp; done) | (simp [*]; done)), H', ⟨by first | omega | exact Nat.le_refl _⟩, ⟨by (with_reducible repeat (first | refine blk_drewN ?_ _ | refine blk_drew ?_ | refine blk_alloc ?_ _)); exact BK290.out⟩, ⟨by repeat (first | (with_reducible first | exact HB.out | apply below_alloc | apply pw_below_drewN | apply below_drew1 | refine below_set ?_ GE290.out) | exact HB.out)⟩⟩
 case rest =>
  clear HC4
  try clear c1
  try clear c2
  try clear p2
  try clear c6
  try clear c6b0
  try clear c7
  try clear c7b0
  try clear c8
  try clear c8b0
  obtain ⟨kq, x39_3, rfl, HA, HJ3, BK290, HB⟩ := hcut
  cases kq with
  | zero => exact absurd HA.out (by simp [majority_Reed.j0])
  | succ kj3 =>
   have H := HA.out
   clear HA
   simp only [majority_Reed.j0] at H
   by_cases c9 : x39_3 = true
   ·subst c9
    have H1 : (some (([] : List Int), ([] : List Int), 6)) = some (r1, r2, r3) := by rw [if_pos rfl] at H; exact H
    clear H
    have H := H1
    clear H1
    simp only [Option.some.injEq, Prod.mk.injEq] at H
    obtain ⟨rfl, rfl, rfl⟩ := H
    have hcz10_0 : wc.cell? ⟨gb290, 0, none⟩ = some (.slice none 0 0) := (blk_cell BK290.out 0).trans rfl
    have hcz10_1 : wc.cell? ⟨gb290, 1, none⟩ = some (.slice none 0 0) := (blk_cell BK290.out 1).trans rfl
    have hfz10_0 := blk_frozen BK290.out 0
    have hfz10_1 := blk_frozen BK290.out 1
    go_wp2
    repeat (go_quiet (fail); try go_wp2)
    refine bodyPost_ret (results_ct rfl _ _ gb290 38 #[.slice none 0 0, .slice none 0 0] (0, 0) _ rfl (by (with_reducible repeat (first | refine blk_drewN ?_ _ | refine blk_drew ?_ | refine blk_alloc ?_ _)); refine blk_put (cs := #[.slice none 0 0, .slice none 0 0]) ?_ 1 _ rfl; (with_reducible repeat (first | refine blk_drewN ?_ _ | refine blk_drew ?_ | refine blk_alloc ?_ _)); refine blk_put (cs := #[.slice none 0 0, .slice none 0 0]) ?_ 0 _ rfl; (with_reducible repeat (first | refine blk_drewN ?_ _ | refine blk_drew ?_ | refine blk_alloc ?_ _)); exact BK290.out) Try.underlying38 rfl (by kernel_rfl)) rfl ?_
    exact ⟨_, _, by first | rfl | (simp [errW_none, errW_some] <;> rfl) | (simp [*, errW_none, errW_some] <;> rfl), by first | exact Kd.R_nil _ _ _ _ _ | exact Kd.S_nil _ _ _ _ _ | exact Kd.N_nil _ _ _ _ _ | exact Kd.V_nil _ _ _ _ _ | exact Kd.Q_nil _ _ _ _ _ | exact Kd.S_nil _ _ _ _ _, by first | exact Kd.R_nil _ _ _ _ _ | exact Kd.S_nil _ _ _ _ _ | exact Kd.N_nil _ _ _ _ _ | exact Kd.V_nil _ _ _ _ _ | exact Kd.Q_nil _ _ _ _ _ | exact Kd.S_nil _ _ _ _ _, by repeat (first | (with_reducible first | exact HB.out | apply below_alloc | apply pw_below_drewN | apply below_drew1 | refine below_set ?_ GE290.out) | exact HB.out)⟩
   ·replace c9 := Bool.eq_false_iff.mpr c9
    subst c9
    have H1 : ((majority_bits.f kj3 a1 l2).bind fun t291 => (if t291 = 0 then ((classic_Monomials.f a0 a1).bind fun bt292 => (if ([] : List Int).length + l2.length < 17592186044416 then (if 0 ≤ (l2.length : Int) then (if ((l2.length : Int) : Int).toNat ≤ 35184372088832 then (majority_Reed.l0 kj3 a0 a1 l2 bt292.1 (([] : List Int) ++ l2) (List.replicate ((l2.length : Int) : Int).toNat 0) (bt292.1.length : Int)) else (none)) else (none)) else (none))) else (some (([] : List Int), ([] : List Int), t291)))) = some (r1, r2, r3) := by rw [if_neg (show ¬ (false = true) by decide)] at H; exact H
    clear H
    have H := H1
    clear H1
    replace H := Option.bind_eq_some_iff.mp H
    obtain ⟨t291, A110, H⟩ := H
    replace H : (if t291 = 0 then ((classic_Monomials.f a0 a1).bind fun bt292 => (if ([] : List Int).length + l2.length < 17592186044416 then (if 0 ≤ (l2.length : Int) then (if ((l2.length : Int) : Int).toNat ≤ 35184372088832 then (majority_Reed.l0 kj3 a0 a1 l2 bt292.1 (([] : List Int) ++ l2) (List.replicate ((l2.length : Int) : Int).toNat 0) (bt292.1.length : Int)) else (none)) else (none)) else (none))) else (some (([] : List Int), ([] : List Int), t291))) = some (r1, r2, r3) := H
    have A11 := Aside0.mk A110
    clear A110
    by_cases c12 : t291 = 0
    ·rw [if_pos c12] at H
     have c12b0 : (t291 == 0) = true := beq_iff_eq.mpr c12
     have c12b1 : (t291 != 0) = false := bne_eq_false_iff_eq.mpr c12
     clear c12
     replace H := Option.bind_eq_some_iff.mp H
     obtain ⟨⟨t292, t293⟩, A130, H⟩ := H
     replace H : (if ([] : List Int).length + l2.length < 17592186044416 then (if 0 ≤ (l2.length : Int) then (if ((l2.length : Int) : Int).toNat ≤ 35184372088832 then (majority_Reed.l0 kj3 a0 a1 l2 t292 (([] : List Int) ++ l2) (List.replicate ((l2.length : Int) : Int).toNat 0) (t292.length : Int)) else (none)) else (none)) else (none)) = some (r1, r2, r3) := H
     have A13 := Aside0.mk A130
     clear A130
     by_cases c14 : ([] : List Int).length + l2.length < 17592186044416
     ·rw [if_pos c14] at H
      have LMc14 := Aside0.mk c14
      clear c14
      obtain ⟨y296, hy296⟩ : ∃ y_ : List Int, y_ = (([] : List Int) ++ l2) := ⟨_, rfl⟩
      replace H : (if 0 ≤ (l2.length : Int) then (if ((l2.length : Int) : Int).toNat ≤ 35184372088832 then (majority_Reed.l0 kj3 a0 a1 l2 t292 y296 (List.replicate ((l2.length : Int) : Int).toNat 0) (t292.length : Int)) else (none)) else (none)) = some (r1, r2, r3) := by first | (rw [hy296]; with_reducible exact H) | (have H2_ := (Option.bind_some _ _).symm.trans H; rw [hy296]; with_reducible exact H2_) | (have H2_ := (Option.bind_some _ _).symm.trans H; with_reducible exact H2_) | with_reducible exact H | (rw [hy296]; exact H) | exact H
      have Ny296 := Aside0.mk hy296
      clear hy296
      by_cases c15 : 0 ≤ (l2.length : Int)
      ·rw [if_pos c15] at H
       have c15b0 := eq_true c15
       have c15b1 : decide (0 ≤ (l2.length : Int)) = true := decide_eq_true c15
       clear c15
       by_cases c16 : ((l2.length : Int) : Int).toNat ≤ 35184372088832
       ·rw [if_pos c16] at H
        have c16b0 := eq_true c16
        have c16b1 : decide (((l2.length : Int) : Int).toNat ≤ 35184372088832) = true := decide_eq_true c16
        clear c16
        obtain ⟨y299, hy299⟩ : ∃ y_ : List Int, y_ = (List.replicate ((l2.length : Int) : Int).toNat 0) := ⟨_, rfl⟩
        replace H : (majority_Reed.l0 kj3 a0 a1 l2 t292 y296 y299 (t292.length : Int)) = some (r1, r2, r3) := by first | (rw [hy299]; with_reducible exact H) | (have H2_ := (Option.bind_some _ _).symm.trans H; rw [hy299]; with_reducible exact H2_) | (have H2_ := (Option.bind_some _ _).symm.trans H; with_reducible exact H2_) | with_reducible exact H | (rw [hy299]; exact H) | exact H
        have Ny299 := Aside0.mk hy299
        clear hy299
        have H' := Aside0.mk H
        clear H
        go_wp2_with (first | (go_at_call 37; (with_reducible refine (majority_bits.calls kj3 a1 _ _ l2 t291 _ ?side1 ?side2 A11.out).mono ?_); (case side1 => repeat (first | exact (Kd.C_below HR2.out HB.out) | (with_reducible refine Kd.C_alloc ?_ _) | (with_reducible refine Kd.C_drewN ?_ _) | (with_reducible refine Kd.C_drew ?_))); (case side2 => exact HC2.out); rintro e w' ⟨rfl, ⟨nd, rfl⟩⟩; (try first | exact ⟨rfl, _, World.drewN_drewN _ _ _⟩ | exact ⟨rfl, _, Eq.trans (World.drewN_drewN _ _ _) (congrArg (World.drewN _) (Nat.add_assoc _ _ _))⟩)) | (go_at_call 9; (with_reducible refine (classic_Monomials.calls a0 a1 t292 t293 _ A13.out).mono ?_); rintro e w17 ⟨v294, rfl, ho0, hb⟩; have n0_ := Aside0.mk (Kd.S_lower ho0 (below_size (by repeat (first | (with_reducible first | exact HB.out | apply below_alloc | apply pw_below_drewN | apply below_drew1 | refine below_set ?_ GE290.out) | exact HB.out)))); have n1_ := Aside0.mk (blk_below (g := gb290) (o := .cells #[.slice none 0 0, .slice none 0 0] 38 (0, 0)) (by (with_reducible repeat (first | refine blk_drewN ?_ _ | refine blk_drew ?_ | refine blk_alloc ?_ _)); exact BK290.out) hb); have n2_ := Aside0.mk (below_step (by repeat (first | (with_reducible first | exact HB.out | apply below_alloc | apply pw_below_drewN | apply below_drew1 | refine below_set ?_ GE290.out) | exact HB.out)) hb); clear BK290; clear HB; have HO295 := n0_; have BK290 := n1_; have HB := n2_; clear n0_ n1_ n2_; (try clear hb); (try clear hb2); (try clear hk); (try clear hi); (try clear ho0)) | ((with_reducible refine gate_builtin (b := .append) (xs := #[.const (.slice none 0 0), .tmp 54]) rfl ?_); (try (refine gate_guard (by rfl) ?_; dsimp only)); at_builtin; refine Kd.R_append_rows (Kd.int .i64) (w0 := w) w.heap.size rfl (.const (.slice none 0 0)) (.tmp 54) 22 3 (.int .i64 0) 8 rfl Try.underlying22 info3 rfl (by decide) (by omega) (.slice none 0 0) ([] : List Int) l2 _ _ _ (fun _ => True) (fun _ => False) rfl rfl ?aO ?aR (fun _ _ h => h) (fun _ h => h.elim) ?aF ?aB ?aS ?aL ?_; (case aR => repeat (first | exact (Kd.C_below HR2.out HB.out) | (with_reducible refine Kd.C_alloc ?_ _) | (with_reducible refine Kd.C_drewN ?_ _) | (with_reducible refine Kd.C_drew ?_))); (case aB => exact (by repeat (first | (with_reducible first | exact HB.out | apply below_alloc | apply pw_below_drewN | apply below_drew1 | refine below_set ?_ GE290.out) | exact HB.out))); (case aF => exact (fun _ _ => trivial)); (case aO => exact ((Kd.R_nil _ _ _ _ (fun _ => True)))); (case aS => exact (below_size (by repeat (first | (with_reducible first | exact HB.out | apply below_alloc | apply pw_below_drewN | apply below_drew1 | refine below_set ?_ GE290.out) | exact HB.out)))); (case aL => have := LMc14.out; omega); intro v297 w18 ho hb hg hat; rw [← Ny296.out] at ho; have n0_ := Aside0.mk (blk_grown (g := gb290) (o := .cells #[.slice none 0 0, .slice none 0 0] 38 (0, 0)) (by (with_reducible repeat (first | refine blk_drewN ?_ _ | refine blk_drew ?_ | refine blk_alloc ?_ _)); exact BK290.out) hg (by simp [Value.ownBlock])); have n1_ := Aside0.mk (Kd.S_after (Kd.S_apart_nil (by (with_reducible repeat (first | apply Kd.S_alloc | apply Kd.S_drewN | apply Kd.S_drew)); exact HO295.out)) hg hat); have n2_ := Aside0.mk (hb); have n3_ := Aside0.mk (ho); clear BK290; clear HO295; clear HB; have BK290 := n0_; have HO295 := n1_; have HB := n2_; have HO298 := n3_; clear n0_ n1_ n2_ n3_; clear ho hb hg hat) | ((with_reducible refine gate_dst (N := 58) rfl ?_); (try (refine gate_guard (by rfl) ?_; dsimp only)); refine Kd.R_make (Kd.int .i64) _ 3 rfl (N := 58) rfl 22 _ _ rfl (l2.length : Int) rfl rfl Try.underlying22 (.int .i64 0) 8 info3 rfl (by decide) (by omega) 0 (ok := fun _ => True) (okp := fun _ => True) rfl (fun _ hk => hk) trivial (of_decide_eq_true (by first | (with_reducible assumption) | assumption)) (Nat.le_trans (Nat.mul_le_mul_right _ (of_decide_eq_true (by first | (with_reducible assumption) | assumption) : (l2.length : Int).toNat ≤ 35184372088832)) (by omega)) (Below.refl _ _) (Nat.le_refl _) ?_; intro v300 w19 ho20 hb hg_ hnew_; clear hg_ hnew_; (first | rw [← Ny299.out] at ho20 | (simp only [Int.reduceToNat] at ho20; rw [← Ny299.out] at ho20)); have n0_ := Aside0.mk (Kd.S_elder' (by (with_reducible repeat (first | apply Kd.S_alloc | apply Kd.S_drewN | apply Kd.S_drew)); exact HO295.out) (Kd.R_base ho20) hb); have n1_ := Aside0.mk (Kd.R_elder' (by (with_reducible repeat (first | apply Kd.R_alloc | apply Kd.R_drewN | apply Kd.R_drew)); exact HO298.out) (Kd.R_base ho20) hb); have n2_ := Aside0.mk (Kd.R_lower (Kd.R_new' ho20 (Kd.R_lt (by (with_reducible repeat (first | apply Kd.R_alloc | apply Kd.R_drewN | apply Kd.R_drew)); exact HO298.out))) (below_size (by repeat (first | (with_reducible first | exact HB.out | apply below_alloc | apply pw_below_drewN | apply below_drew1 | refine below_set ?_ GE290.out) | exact HB.out)))); have n3_ := Aside0.mk (blk_below (g := gb290) (o := .cells #[.slice none 0 0, .slice none 0 0] 38 (0, 0)) (by (with_reducible repeat (first | refine blk_drewN ?_ _ | refine blk_drew ?_ | refine blk_alloc ?_ _)); exact BK290.out) hb); have n4_ := Aside0.mk (below_step (by repeat (first | (with_reducible first | exact HB.out | apply below_alloc | apply pw_below_drewN | apply below_drew1 | refine below_set ?_ GE290.out) | exact HB.out)) hb); clear HO295; clear HO298; clear BK290; clear HB; have HO295 := n0_; have HO298 := n1_; have HO301 := n2_; have BK290 := n3_; have HB := n4_; clear n0_ n1_ n2_ n3_ n4_; clear hb ho20; obtain ⟨Ao21, co21, eo21⟩ := Kd.S_slice HO295.out; subst eo21))
        repeat (go_quiet (first | (go_at_call 37; (with_reducible refine (majority_bits.calls kj3 a1 _ _ l2 t291 _ ?side1 ?side2 A11.out).mono ?_); (case side1 => repeat (first | exact (Kd.C_below HR2.out HB.out) | (with_reducible refine Kd.C_alloc ?_ _) | (with_reducible refine Kd.C_drewN ?_ _) | (with_reducible refine Kd.C_drew ?_))); (case side2 => exact HC2.out); rintro e w' ⟨rfl, ⟨nd, rfl⟩⟩; (try first | exact ⟨rfl, _, World.drewN_drewN _ _ _⟩ | exact ⟨rfl, _, Eq.trans (World.drewN_drewN _ _ _) (congrArg (World.drewN _) (Nat.add_assoc _ _ _))⟩)) | (go_at_call 9; (with_reducible refine (classic_Monomials.calls a0 a1 t292 t293 _ A13.out).mono ?_); rintro e w17 ⟨v294, rfl, ho0, hb⟩; have n0_ := Aside0.mk (Kd.S_lower ho0 (below_size (by repeat (first | (with_reducible first | exact HB.out | apply below_alloc | apply pw_below_drewN | apply below_drew1 | refine below_set ?_ GE290.out) | exact HB.out)))); have n1_ := Aside0.mk (blk_below (g := gb290) (o := .cells #[.slice none 0 0, .slice none 0 0] 38 (0, 0)) (by (with_reducible repeat (first | refine blk_drewN ?_ _ | refine blk_drew ?_ | refine blk_alloc ?_ _)); exact BK290.out) hb); have n2_ := Aside0.mk (below_step (by repeat (first | (with_reducible first | exact HB.out | apply below_alloc | apply pw_below_drewN | apply below_drew1 | refine below_set ?_ GE290.out) | exact HB.out)) hb); clear BK290; clear HB; have HO295 := n0_; have BK290 := n1_; have HB := n2_; clear n0_ n1_ n2_; (try clear hb); (try clear hb2); (try clear hk); (try clear hi); (try clear ho0)) | ((with_reducible refine gate_builtin (b := .append) (xs := #[.const (.slice none 0 0), .tmp 54]) rfl ?_); (try (refine gate_guard (by rfl) ?_; dsimp only)); at_builtin; refine Kd.R_append_rows (Kd.int .i64) (w0 := w) w.heap.size rfl (.const (.slice none 0 0)) (.tmp 54) 22 3 (.int .i64 0) 8 rfl Try.underlying22 info3 rfl (by decide) (by omega) (.slice none 0 0) ([] : List Int) l2 _ _ _ (fun _ => True) (fun _ => False) rfl rfl ?aO ?aR (fun _ _ h => h) (fun _ h => h.elim) ?aF ?aB ?aS ?aL ?_; (case aR => repeat (first | exact (Kd.C_below HR2.out HB.out) | (with_reducible refine Kd.C_alloc ?_ _) | (with_reducible refine Kd.C_drewN ?_ _) | (with_reducible refine Kd.C_drew ?_))); (case aB => exact (by repeat (first | (with_reducible first | exact HB.out | apply below_alloc | apply pw_below_drewN | apply below_drew1 | refine below_set ?_ GE290.out) | exact HB.out))); (case aF => exact (fun _ _ => trivial)); (case aO => exact ((Kd.R_nil _ _ _ _ (fun _ => True)))); (case aS => exact (below_size (by repeat (first | (with_reducible first | exact HB.out | apply below_alloc | apply pw_below_drewN | apply below_drew1 | refine below_set ?_ GE290.out) | exact HB.out)))); (case aL => have := LMc14.out; omega); intro v297 w18 ho hb hg hat; rw [← Ny296.out] at ho; have n0_ := Aside0.mk (blk_grown (g := gb290) (o := .cells #[.slice none 0 0, .slice none 0 0] 38 (0, 0)) (by (with_reducible repeat (first | refine blk_drewN ?_ _ | refine blk_drew ?_ | refine blk_alloc ?_ _)); exact BK290.out) hg (by simp [Value.ownBlock])); have n1_ := Aside0.mk (Kd.S_after (Kd.S_apart_nil (by (with_reducible repeat (first | apply Kd.S_alloc | apply Kd.S_drewN | apply Kd.S_drew)); exact HO295.out)) hg hat); have n2_ := Aside0.mk (hb); have n3_ := Aside0.mk (ho); clear BK290; clear HO295; clear HB; have BK290 := n0_; have HO295 := n1_; have HB := n2_; have HO298 := n3_; clear n0_ n1_ n2_ n3_; clear ho hb hg hat) | ((with_reducible refine gate_dst (N := 58) rfl ?_); (try (refine gate_guard (by rfl) ?_; dsimp only)); refine Kd.R_make (Kd.int .i64) _ 3 rfl (N := 58) rfl 22 _ _ rfl (l2.length : Int) rfl rfl Try.underlying22 (.int .i64 0) 8 info3 rfl (by decide) (by omega) 0 (ok := fun _ => True) (okp := fun _ => True) rfl (fun _ hk => hk) trivial (of_decide_eq_true (by first | (with_reducible assumption) | assumption)) (Nat.le_trans (Nat.mul_le_mul_right _ (of_decide_eq_true (by first | (with_reducible assumption) | assumption) : (l2.length : Int).toNat ≤ 35184372088832)) (by omega)) (Below.refl _ _) (Nat.le_refl _) ?_; intro v300 w19 ho20 hb hg_ hnew_; clear hg_ hnew_; (first | rw [← Ny299.out] at ho20 | (simp only [Int.reduceToNat] at ho20; rw [← Ny299.out] at ho20)); have n0_ := Aside0.mk (Kd.S_elder' (by (with_reducible repeat (first | apply Kd.S_alloc | apply Kd.S_drewN | apply Kd.S_drew)); exact HO295.out) (Kd.R_base ho20) hb); have n1_ := Aside0.mk (Kd.R_elder' (by (with_reducible repeat (first | apply Kd.R_alloc | apply Kd.R_drewN | apply Kd.R_drew)); exact HO298.out) (Kd.R_base ho20) hb); have n2_ := Aside0.mk (Kd.R_lower (Kd.R_new' ho20 (Kd.R_lt (by (with_reducible repeat (first | apply Kd.R_alloc | apply Kd.R_drewN | apply Kd.R_drew)); exact HO298.out))) (below_size (by repeat (first | (with_reducible first | exact HB.out | apply below_alloc | apply pw_below_drewN | apply below_drew1 | refine below_set ?_ GE290.out) | exact HB.out)))); have n3_ := Aside0.mk (blk_below (g := gb290) (o := .cells #[.slice none 0 0, .slice none 0 0] 38 (0, 0)) (by (with_reducible repeat (first | refine blk_drewN ?_ _ | refine blk_drew ?_ | refine blk_alloc ?_ _)); exact BK290.out) hb); have n4_ := Aside0.mk (below_step (by repeat (first | (with_reducible first | exact HB.out | apply below_alloc | apply pw_below_drewN | apply below_drew1 | refine below_set ?_ GE290.out) | exact HB.out)) hb); clear HO295; clear HO298; clear BK290; clear HB; have HO295 := n0_; have HO298 := n1_; have HO301 := n2_; have BK290 := n3_; have HB := n4_; clear n0_ n1_ n2_ n3_ n4_; clear hb ho20; obtain ⟨Ao21, co21, eo21⟩ := Kd.S_slice HO295.out; subst eo21)); try go_wp2_with (first | (go_at_call 37; (with_reducible refine (majority_bits.calls kj3 a1 _ _ l2 t291 _ ?side1 ?side2 A11.out).mono ?_); (case side1 => repeat (first | exact (Kd.C_below HR2.out HB.out) | (with_reducible refine Kd.C_alloc ?_ _) | (with_reducible refine Kd.C_drewN ?_ _) | (with_reducible refine Kd.C_drew ?_))); (case side2 => exact HC2.out); rintro e w' ⟨rfl, ⟨nd, rfl⟩⟩; (try first | exact ⟨rfl, _, World.drewN_drewN _ _ _⟩ | exact ⟨rfl, _, Eq.trans (World.drewN_drewN _ _ _) (congrArg (World.drewN _) (Nat.add_assoc _ _ _))⟩)) | (go_at_call 9; (with_reducible refine (classic_Monomials.calls a0 a1 t292 t293 _ A13.out).mono ?_); rintro e w17 ⟨v294, rfl, ho0, hb⟩; have n0_ := Aside0.mk (Kd.S_lower ho0 (below_size (by repeat (first | (with_reducible first | exact HB.out | apply below_alloc | apply pw_below_drewN | apply below_drew1 | refine below_set ?_ GE290.out) | exact HB.out)))); have n1_ := Aside0.mk (blk_below (g := gb290) (o := .cells #[.slice none 0 0, .slice none 0 0] 38 (0, 0)) (by (with_reducible repeat (first | refine blk_drewN ?_ _ | refine blk_drew ?_ | refine blk_alloc ?_ _)); exact BK290.out) hb); have n2_ := Aside0.mk (below_step (by repeat (first | (with_reducible first | exact HB.out | apply below_alloc | apply pw_below_drewN | apply below_drew1 | refine below_set ?_ GE290.out) | exact HB.out)) hb); clear BK290; clear HB; have HO295 := n0_; have BK290 := n1_; have HB := n2_; clear n0_ n1_ n2_; (try clear hb); (try clear hb2); (try clear hk); (try clear hi); (try clear ho0)) | ((with_reducible refine gate_builtin (b := .append) (xs := #[.const (.slice none 0 0), .tmp 54]) rfl ?_); (try (refine gate_guard (by rfl) ?_; dsimp only)); at_builtin; refine Kd.R_append_rows (Kd.int .i64) (w0 := w) w.heap.size rfl (.const (.slice none 0 0)) (.tmp 54) 22 3 (.int .i64 0) 8 rfl Try.underlying22 info3 rfl (by decide) (by omega) (.slice none 0 0) ([] : List Int) l2 _ _ _ (fun _ => True) (fun _ => False) rfl rfl ?aO ?aR (fun _ _ h => h) (fun _ h => h.elim) ?aF ?aB ?aS ?aL ?_; (case aR => repeat (first | exact (Kd.C_below HR2.out HB.out) | (with_reducible refine Kd.C_alloc ?_ _) | (with_reducible refine Kd.C_drewN ?_ _) | (with_reducible refine Kd.C_drew ?_))); (case aB => exact (by repeat (first | (with_reducible first | exact HB.out | apply below_alloc | apply pw_below_drewN | apply below_drew1 | refine below_set ?_ GE290.out) | exact HB.out))); (case aF => exact (fun _ _ => trivial)); (case aO => exact ((Kd.R_nil _ _ _ _ (fun _ => True)))); (case aS => exact (below_size (by repeat (first | (with_reducible first | exact HB.out | apply below_alloc | apply pw_below_drewN | apply below_drew1 | refine below_set ?_ GE290.out) | exact HB.out)))); (case aL => have := LMc14.out; omega); intro v297 w18 ho hb hg hat; rw [← Ny296.out] at ho; have n0_ := Aside0.mk (blk_grown (g := gb290) (o := .cells #[.slice none 0 0, .slice none 0 0] 38 (0, 0)) (by (with_reducible repeat (first | refine blk_drewN ?_ _ | refine blk_drew ?_ | refine blk_alloc ?_ _)); exact BK290.out) hg (by simp [Value.ownBlock])); have n1_ := Aside0.mk (Kd.S_after (Kd.S_apart_nil (by (with_reducible repeat (first | apply Kd.S_alloc | apply Kd.S_drewN | apply Kd.S_drew)); exact HO295.out)) hg hat); have n2_ := Aside0.mk (hb); have n3_ := Aside0.mk (ho); clear BK290; clear HO295; clear HB; have BK290 := n0_; have HO295 := n1_; have HB := n2_; have HO298 := n3_; clear n0_ n1_ n2_ n3_; clear ho hb hg hat) | ((with_reducible refine gate_dst (N := 58) rfl ?_); (try (refine gate_guard (by rfl) ?_; dsimp only)); refine Kd.R_make (Kd.int .i64) _ 3 rfl (N := 58) rfl 22 _ _ rfl (l2.length : Int) rfl rfl Try.underlying22 (.int .i64 0) 8 info3 rfl (by decide) (by omega) 0 (ok := fun _ => True) (okp := fun _ => True) rfl (fun _ hk => hk) trivial (of_decide_eq_true (by first | (with_reducible assumption) | assumption)) (Nat.le_trans (Nat.mul_le_mul_right _ (of_decide_eq_true (by first | (with_reducible assumption) | assumption) : (l2.length : Int).toNat ≤ 35184372088832)) (by omega)) (Below.refl _ _) (Nat.le_refl _) ?_; intro v300 w19 ho20 hb hg_ hnew_; clear hg_ hnew_; (first | rw [← Ny299.out] at ho20 | (simp only [Int.reduceToNat] at ho20; rw [← Ny299.out] at ho20)); have n0_ := Aside0.mk (Kd.S_elder' (by (with_reducible repeat (first | apply Kd.S_alloc | apply Kd.S_drewN | apply Kd.S_drew)); exact HO295.out) (Kd.R_base ho20) hb); have n1_ := Aside0.mk (Kd.R_elder' (by (with_reducible repeat (first | apply Kd.R_alloc | apply Kd.R_drewN | apply Kd.R_drew)); exact HO298.out) (Kd.R_base ho20) hb); have n2_ := Aside0.mk (Kd.R_lower (Kd.R_new' ho20 (Kd.R_lt (by (with_reducible repeat (first | apply Kd.R_alloc | apply Kd.R_drewN | apply Kd.R_drew)); exact HO298.out))) (below_size (by repeat (first | (with_reducible first | exact HB.out | apply below_alloc | apply pw_below_drewN | apply below_drew1 | refine below_set ?_ GE290.out) | exact HB.out)))); have n3_ := Aside0.mk (blk_below (g := gb290) (o := .cells #[.slice none 0 0, .slice none 0 0] 38 (0, 0)) (by (with_reducible repeat (first | refine blk_drewN ?_ _ | refine blk_drew ?_ | refine blk_alloc ?_ _)); exact BK290.out) hb); have n4_ := Aside0.mk (below_step (by repeat (first | (with_reducible first | exact HB.out | apply below_alloc | apply pw_below_drewN | apply below_drew1 | refine below_set ?_ GE290.out) | exact HB.out)) hb); clear HO295; clear HO298; clear BK290; clear HB; have HO295 := n0_; have HO298 := n1_; have HO301 := n2_; have BK290 := n3_; have HB := n4_; clear n0_ n1_ n2_ n3_ n4_; clear hb ho20; obtain ⟨Ao21, co21, eo21⟩ := Kd.S_slice HO295.out; subst eo21)))
        go_loopg [13] kj3 (fun kq v13 w' => ∃ (x11_2 : List Int) (x12_2 : List Int) (x13_2 : Int), v13 = .int .i64 x13_2 ∧ Aside0 (majority_Reed.l0 kq a0 a1 l2 t292 x11_2 x12_2 x13_2 = some (r1, r2, r3)) ∧ Aside0 (kq ≤ kj3) ∧ Aside0 (Kd.S (Kd.slice 3 (Kd.int .i64)) 22 w' w.heap.size (fun k_ => some k_ ≠ (v297 : Value).ownBlock ∧ some k_ ≠ (v300 : Value).ownBlock) (.slice Ao21 t292.length co21) t292) ∧ Aside0 (Kd.R (Kd.int .i64) 3 w' w.heap.size (fun k_ => some k_ ≠ (v300 : Value).ownBlock) v297 x11_2) ∧ Aside0 (Kd.R (Kd.int .i64) 3 w' w.heap.size (fun k_ => some k_ ≠ (v297 : Value).ownBlock) v300 x12_2) ∧ Aside0 (w'.heap[gb290]? = some (.cells #[(.slice none 0 0), (.slice none 0 0)] 38 (0, 0))) ∧ Aside0 (Below w.heap.size w w'))
        case atStart => exact ⟨(y296), (y299), ((t292.length : Int)), (by first | rfl | (simp; done) | (simp [*]; done)), H', ⟨Nat.le_refl _⟩, ⟨by (with_reducible repeat (first | apply Kd.S_alloc | apply Kd.S_drewN | apply Kd.S_drew)); exact Kd.S_mono HO295.out (fun _ hk => ⟨hk.1.2, hk.2⟩)⟩, ⟨by (with_reducible repeat (first | apply Kd.R_alloc | apply Kd.R_drewN | apply Kd.R_drew)); exact Kd.R_mono HO298.out (fun _ hk => hk.2)⟩, ⟨by (with_reducible repeat (first | apply Kd.R_alloc | apply Kd.R_drewN | apply Kd.R_drew)); exact Kd.R_mono HO301.out (fun _ hk => hk.2)⟩, ⟨by (with_reducible repeat (first | refine blk_drewN ?_ _ | refine blk_drew ?_ | refine blk_alloc ?_ _)); exact BK290.out⟩, ⟨by repeat (first | (with_reducible first | exact HB.out | apply below_alloc | apply pw_below_drewN | apply below_drew1 | refine below_set ?_ GE290.out) | exact HB.out)⟩⟩
        case round =>
         clear H'
         try clear c1
         try clear c2
         try clear p2
         try clear c6
         try clear c6b0
         try clear c7
         try clear c7b0
         try clear c8
         try clear c8b0
         try clear c9
         try clear c12
         try clear c12b0
         try clear c12b1
         try clear c14
         try clear c15
         try clear c15b0
         try clear c15b1
         try clear c16
         try clear c16b0
         try clear c16b1
         try clear c19
         try clear hcz10_0
         try clear hcz10_1
         try clear hfz10_0
         try clear hfz10_1
         try clear p2
         obtain ⟨x11_2, x12_2, x13_2, rfl, HA, HK2, HO_9, HO_11, HO_12, BK290, HB⟩ := hrel
         cases gk with
         | zero => exact absurd HA.out (by simp [majority_Reed.l0])
         | succ k2 =>
          have H := HA.out
          clear HA
          simp only [majority_Reed.l0] at H
          by_cases c22 : x13_2 > 0
          ·rw [if_pos c22] at H
           have c22b0 : decide (0 < x13_2) = true := decide_eq_true c22
           clear c22
           obtain ⟨ji23, hji23⟩ : ∃ j_ : Int, (wrap64 (x13_2 - 1)) = j_ := ⟨_, rfl⟩
           replace H : (if 0 ≤ (ji23) then (if (ji23) < (t292.length : Int) then (if 0 ≤ (l2.length : Int) then (if ((l2.length : Int) : Int).toNat ≤ 35184372088832 then (majority_Reed.l1 k2 a0 a1 l2 t292 x11_2 x12_2 x13_2 ((rd_L1 t292 (ji23)).length : Int) (List.replicate ((l2.length : Int) : Int).toNat 0)) else (none)) else (none)) else (none)) else (none)) = some (r1, r2, r3) := by first | (rw [hji23] at H; exact H) | (simp only [hji23] at H ⊢; exact H)
           have hji23w : (IntKind.i64.wrap (x13_2 - 1)) = ji23 := (i64_w _).trans hji23
           by_cases c24 : 0 ≤ (ji23)
           ·rw [if_pos c24] at H
            have c24b0 : decide (0 ≤ (ji23)) = true := decide_eq_true c24
            clear c24
            by_cases c25 : (ji23) < (t292.length : Int)
            ·rw [if_pos c25] at H
             have c25b0 : decide ((ji23) < (t292.length : Int)) = true := decide_eq_true c25
             clear c25
             by_cases c26 : 0 ≤ (l2.length : Int)
             ·rw [if_pos c26] at H
              have c26b0 := eq_true c26
              have c26b1 : decide (0 ≤ (l2.length : Int)) = true := decide_eq_true c26
              clear c26
              by_cases c27 : ((l2.length : Int) : Int).toNat ≤ 35184372088832
              ·rw [if_pos c27] at H
               have c27b0 := eq_true c27
               have c27b1 : decide (((l2.length : Int) : Int).toNat ≤ 35184372088832) = true := decide_eq_true c27
               clear c27
               obtain ⟨y310, hy310⟩ : ∃ y_ : List Int, y_ = (List.replicate ((l2.length : Int) : Int).toNat 0) := ⟨_, rfl⟩
               replace H : (majority_Reed.l1 k2 a0 a1 l2 t292 x11_2 x12_2 x13_2 ((rd_L1 t292 (ji23)).length : Int) y310) = some (r1, r2, r3) := by first | (rw [hy310]; with_reducible exact H) | (have H2_ := (Option.bind_some _ _).symm.trans H; rw [hy310]; with_reducible exact H2_) | (have H2_ := (Option.bind_some _ _).symm.trans H; with_reducible exact H2_) | with_reducible exact H | (rw [hy310]; exact H) | exact H
               have Ny310 := Aside0.mk hy310
               clear hy310
               have H' := Aside0.mk H
               clear H
               have p309 : 0 ≤ ((ji23) : Int) := of_decide_eq_true (by first | (with_reducible assumption) | assumption)
               have q309 : (ji23) < (t292.length : Int) := of_decide_eq_true (by first | (with_reducible assumption) | assumption)
               obtain ⟨ad309, A309_0, c309_0, e309, hx309_0, hl309_0, hi309_0⟩ := at_L1 (Kd.S_reads' HO_9.out).2.2 (ji23) p309 q309
               cases e309
               obtain ⟨ce309, hce309, hMe309, hcc309⟩ := Kd.S_get HO_9.out [] (ji23) p309 (by first | exact q309 | exact of_decide_eq_true (by first | (with_reducible assumption) | assumption) | (have e_ := (Kd.S_reads' HO_9.out).1; omega))
               obtain ⟨ve309_0, rfl, ge309_0⟩ := hMe309
               have hv309_0 := hcc309 0 _ rfl
               rw [Nat.add_zero, show ((Kd.slice 3 (Kd.int .i64))).sz = 1 from rfl, Nat.mul_one] at hv309_0
               replace hv309_0 := Option.some.inj (hv309_0.symm.trans hx309_0)
               rw [hv309_0] at ge309_0
               have HL309_0 := Aside0.mk (show Kd.R (Kd.int .i64) 3 _ _ _ _ (rd_L1 t292 (ji23)) from ge309_0)
               clear hv309_0 ge309_0
               clear hcc309 hce309
               have HR309_0 := Aside0.mk hi309_0
               have HC309_0 := Aside0.mk hl309_0
               clear hi309_0 hl309_0
               replace p309 := eq_true p309
               replace q309 := eq_true q309
               go_wp2_with (first | ((with_reducible refine gate_dst (N := 71) rfl ?_); (try (refine gate_guard (by rfl) ?_; dsimp only)); refine Kd.R_make (Kd.int .i64) _ 3 rfl (N := 71) rfl 22 _ _ rfl (l2.length : Int) rfl rfl Try.underlying22 (.int .i64 0) 8 info3 rfl (by decide) (by omega) 0 (ok := fun _ => True) (okp := fun _ => True) rfl (fun _ hk => hk) trivial (of_decide_eq_true (by first | (with_reducible assumption) | assumption)) (Nat.le_trans (Nat.mul_le_mul_right _ (of_decide_eq_true (by first | (with_reducible assumption) | assumption) : (l2.length : Int).toNat ≤ 35184372088832)) (by omega)) (Below.refl _ _) (Nat.le_refl _) ?_; intro v311 w28 ho29 hb hg_ hnew_; clear hg_ hnew_; (first | rw [← Ny310.out] at ho29 | (simp only [Int.reduceToNat] at ho29; rw [← Ny310.out] at ho29)); have n0_ := Aside0.mk (Kd.S_elder' (by (with_reducible repeat (first | apply Kd.S_alloc | apply Kd.S_drewN | apply Kd.S_drew)); exact HO_9.out) (Kd.R_base ho29) hb); have n1_ := Aside0.mk (Kd.R_elder' (by (with_reducible repeat (first | apply Kd.R_alloc | apply Kd.R_drewN | apply Kd.R_drew)); exact HO_11.out) (Kd.R_base ho29) hb); have n2_ := Aside0.mk (Kd.R_elder' (by (with_reducible repeat (first | apply Kd.R_alloc | apply Kd.R_drewN | apply Kd.R_drew)); exact HO_12.out) (Kd.R_base ho29) hb); have n3_ := Aside0.mk (Kd.R_elder' (by (with_reducible repeat (first | apply Kd.R_alloc | apply Kd.R_drewN | apply Kd.R_drew)); exact HL309_0.out) (Kd.R_base ho29) hb); have n4_ := Aside0.mk (Kd.R_lower (Kd.R_new' (Kd.R_new' (Kd.R_new' ho29 (Kd.R_lt (by (with_reducible repeat (first | apply Kd.R_alloc | apply Kd.R_drewN | apply Kd.R_drew)); exact HO_11.out))) (Kd.R_lt (by (with_reducible repeat (first | apply Kd.R_alloc | apply Kd.R_drewN | apply Kd.R_drew)); exact HO_12.out))) (Kd.R_lt (by (with_reducible repeat (first | apply Kd.R_alloc | apply Kd.R_drewN | apply Kd.R_drew)); exact HL309_0.out))) (below_size (by repeat (first | (with_reducible first | exact HB.out | apply below_alloc | apply pw_below_drewN | apply below_drew1 | refine below_set ?_ GE290.out) | exact HB.out)))); have n5_ := Aside0.mk (blk_below (g := gb290) (o := .cells #[.slice none 0 0, .slice none 0 0] 38 (0, 0)) (by (with_reducible repeat (first | refine blk_drewN ?_ _ | refine blk_drew ?_ | refine blk_alloc ?_ _)); exact BK290.out) hb); have n6_ := Aside0.mk (Kd.C_below (by repeat (first | (with_reducible exact HR309_0.out) | (with_reducible refine Kd.C_alloc ?_ _) | (with_reducible refine Kd.C_drewN ?_ _) | (with_reducible refine Kd.C_drew ?_) | exact HR309_0.out)) hb); have n7_ := Aside0.mk (below_step (by repeat (first | (with_reducible first | exact HB.out | apply below_alloc | apply pw_below_drewN | apply below_drew1 | refine below_set ?_ GE290.out) | exact HB.out)) hb); clear HO_9; clear HO_11; clear HO_12; clear HL309_0; clear BK290; clear HR309_0; clear HB; have HO_9 := n0_; have HO_11 := n1_; have HO_12 := n2_; have HL309_0 := n3_; have HO312 := n4_; have BK290 := n5_; have HR309_0 := n6_; have HB := n7_; clear n0_ n1_ n2_ n3_ n4_ n5_ n6_ n7_; clear hb ho29))
               repeat (go_quiet (first | ((with_reducible refine gate_dst (N := 71) rfl ?_); (try (refine gate_guard (by rfl) ?_; dsimp only)); refine Kd.R_make (Kd.int .i64) _ 3 rfl (N := 71) rfl 22 _ _ rfl (l2.length : Int) rfl rfl Try.underlying22 (.int .i64 0) 8 info3 rfl (by decide) (by omega) 0 (ok := fun _ => True) (okp := fun _ => True) rfl (fun _ hk => hk) trivial (of_decide_eq_true (by first | (with_reducible assumption) | assumption)) (Nat.le_trans (Nat.mul_le_mul_right _ (of_decide_eq_true (by first | (with_reducible assumption) | assumption) : (l2.length : Int).toNat ≤ 35184372088832)) (by omega)) (Below.refl _ _) (Nat.le_refl _) ?_; intro v311 w28 ho29 hb hg_ hnew_; clear hg_ hnew_; (first | rw [← Ny310.out] at ho29 | (simp only [Int.reduceToNat] at ho29; rw [← Ny310.out] at ho29)); have n0_ := Aside0.mk (Kd.S_elder' (by (with_reducible repeat (first | apply Kd.S_alloc | apply Kd.S_drewN | apply Kd.S_drew)); exact HO_9.out) (Kd.R_base ho29) hb); have n1_ := Aside0.mk (Kd.R_elder' (by (with_reducible repeat (first | apply Kd.R_alloc | apply Kd.R_drewN | apply Kd.R_drew)); exact HO_11.out) (Kd.R_base ho29) hb); have n2_ := Aside0.mk (Kd.R_elder' (by (with_reducible repeat (first | apply Kd.R_alloc | apply Kd.R_drewN | apply Kd.R_drew)); exact HO_12.out) (Kd.R_base ho29) hb); have n3_ := Aside0.mk (Kd.R_elder' (by (with_reducible repeat (first | apply Kd.R_alloc | apply Kd.R_drewN | apply Kd.R_drew)); exact HL309_0.out) (Kd.R_base ho29) hb); have n4_ := Aside0.mk (Kd.R_lower (Kd.R_new' (Kd.R_new' (Kd.R_new' ho29 (Kd.R_lt (by (with_reducible repeat (first | apply Kd.R_alloc | apply Kd.R_drewN | apply Kd.R_drew)); exact HO_11.out))) (Kd.R_lt (by (with_reducible repeat (first | apply Kd.R_alloc | apply Kd.R_drewN | apply Kd.R_drew)); exact HO_12.out))) (Kd.R_lt (by (with_reducible repeat (first | apply Kd.R_alloc | apply Kd.R_drewN | apply Kd.R_drew)); exact HL309_0.out))) (below_size (by repeat (first | (with_reducible first | exact HB.out | apply below_alloc | apply pw_below_drewN | apply below_drew1 | refine below_set ?_ GE290.out) | exact HB.out)))); have n5_ := Aside0.mk (blk_below (g := gb290) (o := .cells #[.slice none 0 0, .slice none 0 0] 38 (0, 0)) (by (with_reducible repeat (first | refine blk_drewN ?_ _ | refine blk_drew ?_ | refine blk_alloc ?_ _)); exact BK290.out) hb); have n6_ := Aside0.mk (Kd.C_below (by repeat (first | (with_reducible exact HR309_0.out) | (with_reducible refine Kd.C_alloc ?_ _) | (with_reducible refine Kd.C_drewN ?_ _) | (with_reducible refine Kd.C_drew ?_) | exact HR309_0.out)) hb); have n7_ := Aside0.mk (below_step (by repeat (first | (with_reducible first | exact HB.out | apply below_alloc | apply pw_below_drewN | apply below_drew1 | refine below_set ?_ GE290.out) | exact HB.out)) hb); clear HO_9; clear HO_11; clear HO_12; clear HL309_0; clear BK290; clear HR309_0; clear HB; have HO_9 := n0_; have HO_11 := n1_; have HO_12 := n2_; have HL309_0 := n3_; have HO312 := n4_; have BK290 := n5_; have HR309_0 := n6_; have HB := n7_; clear n0_ n1_ n2_ n3_ n4_ n5_ n6_ n7_; clear hb ho29)); try go_wp2_with (first | ((with_reducible refine gate_dst (N := 71) rfl ?_); (try (refine gate_guard (by rfl) ?_; dsimp only)); refine Kd.R_make (Kd.int .i64) _ 3 rfl (N := 71) rfl 22 _ _ rfl (l2.length : Int) rfl rfl Try.underlying22 (.int .i64 0) 8 info3 rfl (by decide) (by omega) 0 (ok := fun _ => True) (okp := fun _ => True) rfl (fun _ hk => hk) trivial (of_decide_eq_true (by first | (with_reducible assumption) | assumption)) (Nat.le_trans (Nat.mul_le_mul_right _ (of_decide_eq_true (by first | (with_reducible assumption) | assumption) : (l2.length : Int).toNat ≤ 35184372088832)) (by omega)) (Below.refl _ _) (Nat.le_refl _) ?_; intro v311 w28 ho29 hb hg_ hnew_; clear hg_ hnew_; (first | rw [← Ny310.out] at ho29 | (simp only [Int.reduceToNat] at ho29; rw [← Ny310.out] at ho29)); have n0_ := Aside0.mk (Kd.S_elder' (by (with_reducible repeat (first | apply Kd.S_alloc | apply Kd.S_drewN | apply Kd.S_drew)); exact HO_9.out) (Kd.R_base ho29) hb); have n1_ := Aside0.mk (Kd.R_elder' (by (with_reducible repeat (first | apply Kd.R_alloc | apply Kd.R_drewN | apply Kd.R_drew)); exact HO_11.out) (Kd.R_base ho29) hb); have n2_ := Aside0.mk (Kd.R_elder' (by (with_reducible repeat (first | apply Kd.R_alloc | apply Kd.R_drewN | apply Kd.R_drew)); exact HO_12.out) (Kd.R_base ho29) hb); have n3_ := Aside0.mk (Kd.R_elder' (by (with_reducible repeat (first | apply Kd.R_alloc | apply Kd.R_drewN | apply Kd.R_drew)); exact HL309_0.out) (Kd.R_base ho29) hb); have n4_ := Aside0.mk (Kd.R_lower (Kd.R_new' (Kd.R_new' (Kd.R_new' ho29 (Kd.R_lt (by (with_reducible repeat (first | apply Kd.R_alloc | apply Kd.R_drewN | apply Kd.R_drew)); exact HO_11.out))) (Kd.R_lt (by (with_reducible repeat (first | apply Kd.R_alloc | apply Kd.R_drewN | apply Kd.R_drew)); exact HO_12.out))) (Kd.R_lt (by (with_reducible repeat (first | apply Kd.R_alloc | apply Kd.R_drewN | apply Kd.R_drew)); exact HL309_0.out))) (below_size (by repeat (first | (with_reducible first | exact HB.out | apply below_alloc | apply pw_below_drewN | apply below_drew1 | refine below_set ?_ GE290.out) | exact HB.out)))); have n5_ := Aside0.mk (blk_below (g := gb290) (o := .cells #[.slice none 0 0, .slice none 0 0] 38 (0, 0)) (by (with_reducible repeat (first | refine blk_drewN ?_ _ | refine blk_drew ?_ | refine blk_alloc ?_ _)); exact BK290.out) hb); have n6_ := Aside0.mk (Kd.C_below (by repeat (first | (with_reducible exact HR309_0.out) | (with_reducible refine Kd.C_alloc ?_ _) | (with_reducible refine Kd.C_drewN ?_ _) | (with_reducible refine Kd.C_drew ?_) | exact HR309_0.out)) hb); have n7_ := Aside0.mk (below_step (by repeat (first | (with_reducible first | exact HB.out | apply below_alloc | apply pw_below_drewN | apply below_drew1 | refine below_set ?_ GE290.out) | exact HB.out)) hb); clear HO_9; clear HO_11; clear HO_12; clear HL309_0; clear BK290; clear HR309_0; clear HB; have HO_9 := n0_; have HO_11 := n1_; have HO_12 := n2_; have HL309_0 := n3_; have HO312 := n4_; have BK290 := n5_; have HR309_0 := n6_; have HB := n7_; clear n0_ n1_ n2_ n3_ n4_ n5_ n6_ n7_; clear hb ho29)))
               go_loopg [13] k2 (fun kq v13 w' => ∃ (x13_3 : Int) (x15_3 : List Int), v13 = .int .i64 x13_3 ∧ Aside0 (majority_Reed.l1 kq a0 a1 l2 t292 x11_2 x12_2 x13_3 ((rd_L1 t292 (ji23)).length : Int) x15_3 = some (r1, r2, r3)) ∧ Aside0 (kq ≤ k2) ∧ Aside0 (Kd.S (Kd.slice 3 (Kd.int .i64)) 22 w' w.heap.size (fun k_ => some k_ ≠ (v297 : Value).ownBlock ∧ some k_ ≠ (v300 : Value).ownBlock ∧ some k_ ≠ (v311 : Value).ownBlock) (.slice (some ad309) t292.length co21) t292) ∧ Aside0 (Kd.R (Kd.int .i64) 3 w' w.heap.size (fun k_ => some k_ ≠ (v300 : Value).ownBlock ∧ some k_ ≠ (v311 : Value).ownBlock) v297 x11_2) ∧ Aside0 (Kd.R (Kd.int .i64) 3 w' w.heap.size (fun k_ => some k_ ≠ (v297 : Value).ownBlock ∧ some k_ ≠ (v311 : Value).ownBlock) v300 x12_2) ∧ Aside0 (Kd.R (Kd.int .i64) 3 w' w.heap.size (fun k_ => some k_ ≠ (v297 : Value).ownBlock ∧ some k_ ≠ (v300 : Value).ownBlock) v311 x15_3) ∧ Aside0 (w'.heap[gb290]? = some (.cells #[(.slice none 0 0), (.slice none 0 0)] 38 (0, 0))) ∧ Aside0 (Below w.heap.size w w'))
               case atStart => exact ⟨(x13_2), (y310), (by first | rfl | (simp; done) | (simp [*]; done)), H', ⟨Nat.le_refl _⟩, ⟨by (with_reducible repeat (first | apply Kd.S_alloc | apply Kd.S_drewN | apply Kd.S_drew)); exact Kd.S_mono HO_9.out (fun _ hk => ⟨hk.1.1, ⟨hk.1.2, hk.2⟩⟩)⟩, ⟨by (with_reducible repeat (first | apply Kd.R_alloc | apply Kd.R_drewN | apply Kd.R_drew)); exact HO_11.out⟩, ⟨by (with_reducible repeat (first | apply Kd.R_alloc | apply Kd.R_drewN | apply Kd.R_drew)); exact HO_12.out⟩, ⟨by (with_reducible repeat (first | apply Kd.R_alloc | apply Kd.R_drewN | apply Kd.R_drew)); exact Kd.R_mono HO312.out (fun _ hk => ⟨hk.1.1.2, hk.1.2⟩)⟩, ⟨by (with_reducible repeat (first | refine blk_drewN ?_ _ | refine blk_drew ?_ | refine blk_alloc ?_ _)); exact BK290.out⟩, ⟨by repeat (first | (with_reducible first | exact HB.out | apply below_alloc | apply pw_below_drewN | apply below_drew1 | refine below_set ?_ GE290.out) | exact HB.out)⟩⟩
               case round =>
                clear H'
                try clear c1
                try clear c2
                try clear p2
                try clear c3
                try clear p3
                try clear q3
                try clear hx3
                try clear c6
                try clear c6b0
                try clear p6
                try clear c7
                try clear c7b0
                try clear c8
                try clear c8b0
                try clear c9
                try clear c12
                try clear c12b0
                try clear c12b1
                try clear c14
                try clear c15
                try clear c15b0
                try clear c15b1
                try clear c16
                try clear c16b0
                try clear c16b1
                try clear c19
                try clear c22
                try clear c22b0
                try clear c24
                try clear c24b0
                try clear c25
                try clear c25b0
                try clear c26
                try clear c26b0
                try clear c26b1
                try clear c27
                try clear c27b0
                try clear c27b1
                try clear hcz10_0
                try clear hcz10_1
                try clear hfz10_0
                try clear hfz10_1
                try clear hx309_0
                try clear p2
                try clear p309
                try clear q309
                obtain ⟨x13_3, x15_3, rfl, HA, HK3, HO_9, HO_11, HO_12, HO_15, BK290, HB⟩ := hrel
                cases gk with
                | zero => exact absurd HA.out (by simp [majority_Reed.l1])
                | succ k3 =>
                 have H := HA.out
                 clear HA
                 simp only [majority_Reed.l1] at H
                 have HC30 := Aside0.mk H
                 clear H
                 go_upto_region 13 with (fail)
                 repeat (go_quiet (fail); go_upto_region 13 with (fail))
                 go_cut [83] (fun v83 wc => ∃ (kq : Nat) (x83_29 : Bool), v83 = .bool x83_29 ∧ Aside0 (majority_Reed.j3 kq a0 a1 l2 t292 x11_2 x12_2 x13_3 ((rd_L1 t292 (ji23)).length : Int) x15_3 x83_29 = some (r1, r2, r3)) ∧ Aside0 (kq ≤ k3) ∧ Aside0 (Kd.S (Kd.slice 3 (Kd.int .i64)) 22 wc w.heap.size (fun k_ => some k_ ≠ (v297 : Value).ownBlock ∧ some k_ ≠ (v300 : Value).ownBlock ∧ some k_ ≠ (v311 : Value).ownBlock) (.slice (some ad309) t292.length co21) t292) ∧ Aside0 (Kd.R (Kd.int .i64) 3 wc w.heap.size (fun k_ => some k_ ≠ (v300 : Value).ownBlock ∧ some k_ ≠ (v311 : Value).ownBlock) v297 x11_2) ∧ Aside0 (Kd.R (Kd.int .i64) 3 wc w.heap.size (fun k_ => some k_ ≠ (v297 : Value).ownBlock ∧ some k_ ≠ (v311 : Value).ownBlock) v300 x12_2) ∧ Aside0 (Kd.R (Kd.int .i64) 3 wc w.heap.size (fun k_ => some k_ ≠ (v297 : Value).ownBlock ∧ some k_ ≠ (v300 : Value).ownBlock) v311 x15_3) ∧ Aside0 (wc.heap[gb290]? = some (.cells #[(.slice none 0 0), (.slice none 0 0)] 38 (0, 0))) ∧ Aside0 (Below w.heap.size w wc))
                 case first =>
                  have H := HC30.out
                  clear HC30
                  by_cases c31 : x13_3 > 0
                  ·rw [if_pos c31] at H
                   have c31b0 : decide (0 < x13_3) = true := decide_eq_true c31
                   clear c31
                   (first | rw [c31b0] | (simp only [i64_w, i32_w]; rw [c31b0]) | skip)
                   obtain ⟨ji32, hji32⟩ : ∃ j_ : Int, (wrap64 (x13_3 - 1)) = j_ := ⟨_, rfl⟩
                   replace H : (if 0 ≤ (ji32) then (if (ji32) < (t292.length : Int) then (majority_Reed.j3 k3 a0 a1 l2 t292 x11_2 x12_2 x13_3 ((rd_L1 t292 (ji23)).length : Int) x15_3 (((rd_L1 t292 (ji32)).length : Int) == ((rd_L1 t292 (ji23)).length : Int))) else (none)) else (none)) = some (r1, r2, r3) := by first | (rw [hji32] at H; exact H) | (simp only [hji32] at H ⊢; exact H)
                   have hji32w : (IntKind.i64.wrap (x13_3 - 1)) = ji32 := (i64_w _).trans hji32
                   by_cases c33 : 0 ≤ (ji32)
                   ·rw [if_pos c33] at H
                    have c33b0 : decide (0 ≤ (ji32)) = true := decide_eq_true c33
                    clear c33
                    by_cases c34 : (ji32) < (t292.length : Int)
                    ·rw [if_pos c34] at H
                     have c34b0 : decide ((ji32) < (t292.length : Int)) = true := decide_eq_true c34
                     clear c34
                     have H' := Aside0.mk H
                     clear H
                     have p313 : 0 ≤ ((ji32) : Int) := of_decide_eq_true (by first | (with_reducible assumption) | assumption)
                     have q313 : (ji32) < (t292.length : Int) := of_decide_eq_true (by first | (with_reducible assumption) | assumption)
                     obtain ⟨ad313, A313_0, c313_0, e313, hx313_0, hl313_0, hi313_0⟩ := at_L1 (Kd.S_reads' HO_9.out).2.2 (ji32) p313 q313
                     obtain rfl : ad309 = ad313 := (by injection e313)
                     obtain ⟨ce313, hce313, hMe313, hcc313⟩ := Kd.S_get HO_9.out [] (ji32) p313 (by first | exact q313 | exact of_decide_eq_true (by first | (with_reducible assumption) | assumption) | (have e_ := (Kd.S_reads' HO_9.out).1; omega))
                     obtain ⟨ve313_0, rfl, ge313_0⟩ := hMe313
                     have hv313_0 := hcc313 0 _ rfl
                     rw [Nat.add_zero, show ((Kd.slice 3 (Kd.int .i64))).sz = 1 from rfl, Nat.mul_one] at hv313_0
                     replace hv313_0 := Option.some.inj (hv313_0.symm.trans hx313_0)
                     rw [hv313_0] at ge313_0
                     have HL313_0 := Aside0.mk (show Kd.R (Kd.int .i64) 3 _ _ _ _ (rd_L1 t292 (ji32)) from ge313_0)
                     clear hv313_0 ge313_0
                     clear hcc313 hce313
                     have HR313_0 := Aside0.mk hi313_0
                     have HC313_0 := Aside0.mk hl313_0
                     clear hi313_0 hl313_0
                     replace p313 := eq_true p313
                     replace q313 := eq_true q313
                     go_wp2
                     repeat (go_quiet (fail); try go_wp2)
                     go_meet
                     case rel => exact ⟨_, ((((rd_L1 t292 (ji32)).length : Int) == ((rd_L1 t292 (ji23)).length : Int))), (by first | rfl | (simp; done) | (simp only [← hji23, ← hji32] <;> (first | rfl | simp)) | (simp [*]; done)), H', ⟨by have := HJ3.out; have := HK2.out; have := HK3.out; first | omega | exact Nat.le_refl _⟩, ⟨by (with_reducible repeat (first | apply Kd.S_alloc | apply Kd.S_drewN | apply Kd.S_drew)); exact HO_9.out⟩, ⟨by (with_reducible repeat (first | apply Kd.R_alloc | apply Kd.R_drewN | apply Kd.R_drew)); exact HO_11.out⟩, ⟨by (with_reducible repeat (first | apply Kd.R_alloc | apply Kd.R_drewN | apply Kd.R_drew)); exact HO_12.out⟩, ⟨by (with_reducible repeat (first | apply Kd.R_alloc | apply Kd.R_drewN | apply Kd.R_drew)); exact HO_15.out⟩, ⟨by (with_reducible repeat (first | refine blk_drewN ?_ _ | refine blk_drew ?_ | refine blk_alloc ?_ _)); exact BK290.out⟩, ⟨by repeat (first | (with_reducible first | exact HB.out | apply below_alloc | apply pw_below_drewN | apply below_drew1 | refine below_set ?_ GE290.out) | exact HB.out)⟩⟩
                    ·rw [if_neg c34] at H
                     exact absurd H (by simp)
                   ·rw [if_neg c33] at H
                    exact absurd H (by simp)
                  ·rw [if_neg c31] at H
                   have c31b0 : decide (0 < x13_3) = false := decide_eq_false c31
                   clear c31
                   (first | rw [c31b0] | (simp only [i64_w, i32_w]; rw [c31b0]) | skip)
                   have H' := Aside0.mk H
                   clear H
                   go_wp2
                   repeat (go_quiet (fail); try go_wp2)
                   go_meet
                   case rel => exact ⟨_, (false), (by first | rfl | (simp; done) | (simp [*]; done)), H', ⟨by have := HJ3.out; have := HK2.out; have := HK3.out; first | omega | exact Nat.le_refl _⟩, ⟨by (with_reducible repeat (first | apply Kd.S_alloc | apply Kd.S_drewN | apply Kd.S_drew)); exact HO_9.out⟩, ⟨by (with_reducible repeat (first | apply Kd.R_alloc | apply Kd.R_drewN | apply Kd.R_drew)); exact HO_11.out⟩, ⟨by (with_reducible repeat (first | apply Kd.R_alloc | apply Kd.R_drewN | apply Kd.R_drew)); exact HO_12.out⟩, ⟨by (with_reducible repeat (first | apply Kd.R_alloc | apply Kd.R_drewN | apply Kd.R_drew)); exact HO_15.out⟩, ⟨by (with_reducible repeat (first | refine blk_drewN ?_ _ | refine blk_drew ?_ | refine blk_alloc ?_ _)); exact BK290.out⟩, ⟨by repeat (first | (with_reducible first | exact HB.out | apply below_alloc | apply pw_below_drewN | apply below_drew1 | refine below_set ?_ GE290.out) | exact HB.out)⟩⟩
                 case rest =>
                  clear HC30
                  try clear c1
                  try clear c2
                  try clear p2
                  try clear c3
                  try clear p3
                  try clear q3
                  try clear hx3
                  try clear c6
                  try clear c6b0
                  try clear p6
                  try clear c7
                  try clear c7b0
                  try clear c8
                  try clear c8b0
                  try clear c9
                  try clear c12
                  try clear c12b0
                  try clear c12b1
                  try clear c14
                  try clear c15
                  try clear c15b0
                  try clear c15b1
                  try clear c16
                  try clear c16b0
                  try clear c16b1
                  try clear c19
                  try clear c22
                  try clear c22b0
                  try clear c24
                  try clear c24b0
                  try clear c25
                  try clear c25b0
                  try clear c26
                  try clear c26b0
                  try clear c26b1
                  try clear c27
                  try clear c27b0
                  try clear c27b1
                  try clear c30
                  try clear p30
                  try clear q30
                  try clear hx30
                  try clear c31
                  try clear c31b0
                  try clear p31
                  try clear q31
                  try clear hx31
                  try clear c33
                  try clear c33b0
                  try clear c34
                  try clear c34b0
                  try clear hcz10_0
                  try clear hcz10_1
                  try clear hfz10_0
                  try clear hfz10_1
                  try clear hx309_0
                  try clear hx313_0
                  try clear p2
                  try clear p3
                  try clear p309
                  try clear p313
                  try clear p6
                  try clear q3
                  try clear q309
                  try clear q313
                  obtain ⟨kq, x83_29, rfl, HA, HJ29, HO_9, HO_11, HO_12, HO_15, BK290, HB⟩ := hcut
                  cases kq with
                  | zero => exact absurd HA.out (by simp [majority_Reed.j3])
                  | succ kj29 =>
                   have H := HA.out
                   clear HA
                   simp only [majority_Reed.j3] at H
                   by_cases c35 : x83_29 = true
                   ·subst c35
                    have H1 : (if 0 ≤ (wrap64 (x13_3 - 1)) then (if (wrap64 (x13_3 - 1)) < (t292.length : Int) then ((majority_mask.f kj29 (rd_L1 t292 (wrap64 (x13_3 - 1)))).bind fun t315 => ((majority_votes.f kj29 x11_2 t315).bind fun t316 => (majority_Reed.l2 kj29 a0 a1 l2 t292 x11_2 x12_2 x13_3 ((rd_L1 t292 (ji23)).length : Int) x15_3 t315 0 t316 t316 (t316.length : Int) 0))) else (none)) else (none)) = some (r1, r2, r3) := by rw [if_pos rfl] at H; exact H
                    clear H
                    have H := H1
                    clear H1
                    obtain ⟨ji36, hji36⟩ : ∃ j_ : Int, (wrap64 (x13_3 - 1)) = j_ := ⟨_, rfl⟩
                    replace H : (if 0 ≤ (ji36) then (if (ji36) < (t292.length : Int) then ((majority_mask.f kj29 (rd_L1 t292 (ji36))).bind fun t315 => ((majority_votes.f kj29 x11_2 t315).bind fun t316 => (majority_Reed.l2 kj29 a0 a1 l2 t292 x11_2 x12_2 x13_3 ((rd_L1 t292 (ji23)).length : Int) x15_3 t315 0 t316 t316 (t316.length : Int) 0))) else (none)) else (none)) = some (r1, r2, r3) := by first | (rw [hji36] at H; exact H) | (simp only [hji36] at H ⊢; exact H)
                    have hji36w : (IntKind.i64.wrap (x13_3 - 1)) = ji36 := (i64_w _).trans hji36
                    by_cases c37 : 0 ≤ (ji36)
                    ·rw [if_pos c37] at H
                     have c37b0 : decide (0 ≤ (ji36)) = true := decide_eq_true c37
                     clear c37
                     by_cases c38 : (ji36) < (t292.length : Int)
                     ·rw [if_pos c38] at H
                      have c38b0 : decide ((ji36) < (t292.length : Int)) = true := decide_eq_true c38
                      clear c38
                      replace H := Option.bind_eq_some_iff.mp H
                      obtain ⟨t315, A390, H⟩ := H
                      replace H : ((majority_votes.f kj29 x11_2 t315).bind fun t316 => (majority_Reed.l2 kj29 a0 a1 l2 t292 x11_2 x12_2 x13_3 ((rd_L1 t292 (ji23)).length : Int) x15_3 t315 0 t316 t316 (t316.length : Int) 0)) = some (r1, r2, r3) := H
                      have A39 := Aside0.mk A390
                      clear A390
                      replace H := Option.bind_eq_some_iff.mp H
                      obtain ⟨t316, A400, H⟩ := H
                      replace H : (majority_Reed.l2 kj29 a0 a1 l2 t292 x11_2 x12_2 x13_3 ((rd_L1 t292 (ji23)).length : Int) x15_3 t315 0 t316 t316 (t316.length : Int) 0) = some (r1, r2, r3) := H
                      have A40 := Aside0.mk A400
                      clear A400
                      have H' := Aside0.mk H
                      clear H
                      have p314 : 0 ≤ ((ji36) : Int) := of_decide_eq_true (by first | (with_reducible assumption) | assumption)
                      have q314 : (ji36) < (t292.length : Int) := of_decide_eq_true (by first | (with_reducible assumption) | assumption)
                      obtain ⟨ad314, A314_0, c314_0, e314, hx314_0, hl314_0, hi314_0⟩ := at_L1 (Kd.S_reads' HO_9.out).2.2 (ji36) p314 q314
                      obtain rfl : ad309 = ad314 := (by injection e314)
                      obtain ⟨ce314, hce314, hMe314, hcc314⟩ := Kd.S_get HO_9.out [] (ji36) p314 (by first | exact q314 | exact of_decide_eq_true (by first | (with_reducible assumption) | assumption) | (have e_ := (Kd.S_reads' HO_9.out).1; omega))
                      obtain ⟨ve314_0, rfl, ge314_0⟩ := hMe314
                      have hv314_0 := hcc314 0 _ rfl
                      rw [Nat.add_zero, show ((Kd.slice 3 (Kd.int .i64))).sz = 1 from rfl, Nat.mul_one] at hv314_0
                      replace hv314_0 := Option.some.inj (hv314_0.symm.trans hx314_0)
                      rw [hv314_0] at ge314_0
                      have HL314_0 := Aside0.mk (show Kd.R (Kd.int .i64) 3 _ _ _ _ (rd_L1 t292 (ji36)) from ge314_0)
                      clear hv314_0 ge314_0
                      clear hcc314 hce314
                      have HR314_0 := Aside0.mk hi314_0
                      have HC314_0 := Aside0.mk hl314_0
                      clear hi314_0 hl314_0
                      replace p314 := eq_true p314
                      replace q314 := eq_true q314
                      go_wp2_with (first | (go_at_call 39; (with_reducible refine (majority_mask.calls kj29 _ _ (rd_L1 t292 (ji36)) t315 _ ?side1 ?side2 A39.out).mono ?_); (case side1 => repeat (first | exact (by repeat (first | (with_reducible exact HR314_0.out) | (with_reducible refine Kd.C_alloc ?_ _) | (with_reducible refine Kd.C_drewN ?_ _) | (with_reducible refine Kd.C_drew ?_) | exact HR314_0.out)) | (with_reducible refine Kd.C_alloc ?_ _) | (with_reducible refine Kd.C_drewN ?_ _) | (with_reducible refine Kd.C_drew ?_))); (case side2 => exact HC314_0.out); rintro e w' ⟨rfl, ⟨nd, rfl⟩⟩; (try first | exact ⟨rfl, _, World.drewN_drewN _ _ _⟩ | exact ⟨rfl, _, Eq.trans (World.drewN_drewN _ _ _) (congrArg (World.drewN _) (Nat.add_assoc _ _ _))⟩); obtain ⟨Ao41, co41, eo41⟩ := Kd.R_slice HO_11.out; subst eo41) | (go_at_call 38; (with_reducible refine (majority_votes.calls kj29 _ _ x11_2 t315 t316 _ ?side1 ?side2 A40.out).mono ?_); (case side1 => repeat (first | exact (Kd.R_reads' HO_11.out).2.2 | (with_reducible refine Kd.C_alloc ?_ _) | (with_reducible refine Kd.C_drewN ?_ _) | (with_reducible refine Kd.C_drew ?_))); (case side2 => exact (Kd.R_reads' HO_11.out).2.1); rintro e w42 ⟨v317, rfl, ho0, hb⟩; have n0_ := Aside0.mk (Kd.S_elder' (by (with_reducible repeat (first | apply Kd.S_alloc | apply Kd.S_drewN | apply Kd.S_drew)); exact HO_9.out) (Kd.R_base ho0) hb); have n1_ := Aside0.mk (Kd.R_elder' (by (with_reducible repeat (first | apply Kd.R_alloc | apply Kd.R_drewN | apply Kd.R_drew)); exact HO_11.out) (Kd.R_base ho0) hb); have n2_ := Aside0.mk (Kd.R_elder' (by (with_reducible repeat (first | apply Kd.R_alloc | apply Kd.R_drewN | apply Kd.R_drew)); exact HO_12.out) (Kd.R_base ho0) hb); have n3_ := Aside0.mk (Kd.R_elder' (by (with_reducible repeat (first | apply Kd.R_alloc | apply Kd.R_drewN | apply Kd.R_drew)); exact HO_15.out) (Kd.R_base ho0) hb); have n4_ := Aside0.mk (Kd.R_elder' (by (with_reducible repeat (first | apply Kd.R_alloc | apply Kd.R_drewN | apply Kd.R_drew)); exact HL314_0.out) (Kd.R_base ho0) hb); have n5_ := Aside0.mk (Kd.R_lower (Kd.R_new' (Kd.R_new' (Kd.R_new' (Kd.R_new' ho0 (Kd.R_lt (by (with_reducible repeat (first | apply Kd.R_alloc | apply Kd.R_drewN | apply Kd.R_drew)); exact HO_11.out))) (Kd.R_lt (by (with_reducible repeat (first | apply Kd.R_alloc | apply Kd.R_drewN | apply Kd.R_drew)); exact HO_12.out))) (Kd.R_lt (by (with_reducible repeat (first | apply Kd.R_alloc | apply Kd.R_drewN | apply Kd.R_drew)); exact HO_15.out))) (Kd.R_lt (by (with_reducible repeat (first | apply Kd.R_alloc | apply Kd.R_drewN | apply Kd.R_drew)); exact HL314_0.out))) (below_size (by repeat (first | (with_reducible first | exact HB.out | apply below_alloc | apply pw_below_drewN | apply below_drew1 | refine below_set ?_ GE290.out) | exact HB.out)))); have n6_ := Aside0.mk (blk_below (g := gb290) (o := .cells #[.slice none 0 0, .slice none 0 0] 38 (0, 0)) (by (with_reducible repeat (first | refine blk_drewN ?_ _ | refine blk_drew ?_ | refine blk_alloc ?_ _)); exact BK290.out) hb); have n7_ := Aside0.mk (Kd.C_below (by repeat (first | (with_reducible exact HR314_0.out) | (with_reducible refine Kd.C_alloc ?_ _) | (with_reducible refine Kd.C_drewN ?_ _) | (with_reducible refine Kd.C_drew ?_) | exact HR314_0.out)) hb); have n8_ := Aside0.mk (below_step (by repeat (first | (with_reducible first | exact HB.out | apply below_alloc | apply pw_below_drewN | apply below_drew1 | refine below_set ?_ GE290.out) | exact HB.out)) hb); clear HO_9; clear HO_11; clear HO_12; clear HO_15; clear HL314_0; clear BK290; clear HR314_0; clear HB; have HO_9 := n0_; have HO_11 := n1_; have HO_12 := n2_; have HO_15 := n3_; have HL314_0 := n4_; have HO318 := n5_; have BK290 := n6_; have HR314_0 := n7_; have HB := n8_; clear n0_ n1_ n2_ n3_ n4_ n5_ n6_ n7_ n8_; (try clear hb); (try clear hb2); (try clear hk); (try clear hi); (try clear ho0); obtain ⟨Ao43, co43, eo43⟩ := Kd.R_slice HO318.out; subst eo43))
                      repeat (go_quiet (first | (go_at_call 39; (with_reducible refine (majority_mask.calls kj29 _ _ (rd_L1 t292 (ji36)) t315 _ ?side1 ?side2 A39.out).mono ?_); (case side1 => repeat (first | exact (by repeat (first | (with_reducible exact HR314_0.out) | (with_reducible refine Kd.C_alloc ?_ _) | (with_reducible refine Kd.C_drewN ?_ _) | (with_reducible refine Kd.C_drew ?_) | exact HR314_0.out)) | (with_reducible refine Kd.C_alloc ?_ _) | (with_reducible refine Kd.C_drewN ?_ _) | (with_reducible refine Kd.C_drew ?_))); (case side2 => exact HC314_0.out); rintro e w' ⟨rfl, ⟨nd, rfl⟩⟩; (try first | exact ⟨rfl, _, World.drewN_drewN _ _ _⟩ | exact ⟨rfl, _, Eq.trans (World.drewN_drewN _ _ _) (congrArg (World.drewN _) (Nat.add_assoc _ _ _))⟩); obtain ⟨Ao41, co41, eo41⟩ := Kd.R_slice HO_11.out; subst eo41) | (go_at_call 38; (with_reducible refine (majority_votes.calls kj29 _ _ x11_2 t315 t316 _ ?side1 ?side2 A40.out).mono ?_); (case side1 => repeat (first | exact (Kd.R_reads' HO_11.out).2.2 | (with_reducible refine Kd.C_alloc ?_ _) | (with_reducible refine Kd.C_drewN ?_ _) | (with_reducible refine Kd.C_drew ?_))); (case side2 => exact (Kd.R_reads' HO_11.out).2.1); rintro e w42 ⟨v317, rfl, ho0, hb⟩; have n0_ := Aside0.mk (Kd.S_elder' (by (with_reducible repeat (first | apply Kd.S_alloc | apply Kd.S_drewN | apply Kd.S_drew)); exact HO_9.out) (Kd.R_base ho0) hb); have n1_ := Aside0.mk (Kd.R_elder' (by (with_reducible repeat (first | apply Kd.R_alloc | apply Kd.R_drewN | apply Kd.R_drew)); exact HO_11.out) (Kd.R_base ho0) hb); have n2_ := Aside0.mk (Kd.R_elder' (by (with_reducible repeat (first | apply Kd.R_alloc | apply Kd.R_drewN | apply Kd.R_drew)); exact HO_12.out) (Kd.R_base ho0) hb); have n3_ := Aside0.mk (Kd.R_elder' (by (with_reducible repeat (first | apply Kd.R_alloc | apply Kd.R_drewN | apply Kd.R_drew)); exact HO_15.out) (Kd.R_base ho0) hb); have n4_ := Aside0.mk (Kd.R_elder' (by (with_reducible repeat (first | apply Kd.R_alloc | apply Kd.R_drewN | apply Kd.R_drew)); exact HL314_0.out) (Kd.R_base ho0) hb); have n5_ := Aside0.mk (Kd.R_lower (Kd.R_new' (Kd.R_new' (Kd.R_new' (Kd.R_new' ho0 (Kd.R_lt (by (with_reducible repeat (first | apply Kd.R_alloc | apply Kd.R_drewN | apply Kd.R_drew)); exact HO_11.out))) (Kd.R_lt (by (with_reducible repeat (first | apply Kd.R_alloc | apply Kd.R_drewN | apply Kd.R_drew)); exact HO_12.out))) (Kd.R_lt (by (with_reducible repeat (first | apply Kd.R_alloc | apply Kd.R_drewN | apply Kd.R_drew)); exact HO_15.out))) (Kd.R_lt (by (with_reducible repeat (first | apply Kd.R_alloc | apply Kd.R_drewN | apply Kd.R_drew)); exact HL314_0.out))) (below_size (by repeat (first | (with_reducible first | exact HB.out | apply below_alloc | apply pw_below_drewN | apply below_drew1 | refine below_set ?_ GE290.out) | exact HB.out)))); have n6_ := Aside0.mk (blk_below (g := gb290) (o := .cells #[.slice none 0 0, .slice none 0 0] 38 (0, 0)) (by (with_reducible repeat (first | refine blk_drewN ?_ _ | refine blk_drew ?_ | refine blk_alloc ?_ _)); exact BK290.out) hb); have n7_ := Aside0.mk (Kd.C_below (by repeat (first | (with_reducible exact HR314_0.out) | (with_reducible refine Kd.C_alloc ?_ _) | (with_reducible refine Kd.C_drewN ?_ _) | (with_reducible refine Kd.C_drew ?_) | exact HR314_0.out)) hb); have n8_ := Aside0.mk (below_step (by repeat (first | (with_reducible first | exact HB.out | apply below_alloc | apply pw_below_drewN | apply below_drew1 | refine below_set ?_ GE290.out) | exact HB.out)) hb); clear HO_9; clear HO_11; clear HO_12; clear HO_15; clear HL314_0; clear BK290; clear HR314_0; clear HB; have HO_9 := n0_; have HO_11 := n1_; have HO_12 := n2_; have HO_15 := n3_; have HL314_0 := n4_; have HO318 := n5_; have BK290 := n6_; have HR314_0 := n7_; have HB := n8_; clear n0_ n1_ n2_ n3_ n4_ n5_ n6_ n7_ n8_; (try clear hb); (try clear hb2); (try clear hk); (try clear hi); (try clear ho0); obtain ⟨Ao43, co43, eo43⟩ := Kd.R_slice HO318.out; subst eo43)); try go_wp2_with (first | (go_at_call 39; (with_reducible refine (majority_mask.calls kj29 _ _ (rd_L1 t292 (ji36)) t315 _ ?side1 ?side2 A39.out).mono ?_); (case side1 => repeat (first | exact (by repeat (first | (with_reducible exact HR314_0.out) | (with_reducible refine Kd.C_alloc ?_ _) | (with_reducible refine Kd.C_drewN ?_ _) | (with_reducible refine Kd.C_drew ?_) | exact HR314_0.out)) | (with_reducible refine Kd.C_alloc ?_ _) | (with_reducible refine Kd.C_drewN ?_ _) | (with_reducible refine Kd.C_drew ?_))); (case side2 => exact HC314_0.out); rintro e w' ⟨rfl, ⟨nd, rfl⟩⟩; (try first | exact ⟨rfl, _, World.drewN_drewN _ _ _⟩ | exact ⟨rfl, _, Eq.trans (World.drewN_drewN _ _ _) (congrArg (World.drewN _) (Nat.add_assoc _ _ _))⟩); obtain ⟨Ao41, co41, eo41⟩ := Kd.R_slice HO_11.out; subst eo41) | (go_at_call 38; (with_reducible refine (majority_votes.calls kj29 _ _ x11_2 t315 t316 _ ?side1 ?side2 A40.out).mono ?_); (case side1 => repeat (first | exact (Kd.R_reads' HO_11.out).2.2 | (with_reducible refine Kd.C_alloc ?_ _) | (with_reducible refine Kd.C_drewN ?_ _) | (with_reducible refine Kd.C_drew ?_))); (case side2 => exact (Kd.R_reads' HO_11.out).2.1); rintro e w42 ⟨v317, rfl, ho0, hb⟩; have n0_ := Aside0.mk (Kd.S_elder' (by (with_reducible repeat (first | apply Kd.S_alloc | apply Kd.S_drewN | apply Kd.S_drew)); exact HO_9.out) (Kd.R_base ho0) hb); have n1_ := Aside0.mk (Kd.R_elder' (by (with_reducible repeat (first | apply Kd.R_alloc | apply Kd.R_drewN | apply Kd.R_drew)); exact HO_11.out) (Kd.R_base ho0) hb); have n2_ := Aside0.mk (Kd.R_elder' (by (with_reducible repeat (first | apply Kd.R_alloc | apply Kd.R_drewN | apply Kd.R_drew)); exact HO_12.out) (Kd.R_base ho0) hb); have n3_ := Aside0.mk (Kd.R_elder' (by (with_reducible repeat (first | apply Kd.R_alloc | apply Kd.R_drewN | apply Kd.R_drew)); exact HO_15.out) (Kd.R_base ho0) hb); have n4_ := Aside0.mk (Kd.R_elder' (by (with_reducible repeat (first | apply Kd.R_alloc | apply Kd.R_drewN | apply Kd.R_drew)); exact HL314_0.out) (Kd.R_base ho0) hb); have n5_ := Aside0.mk (Kd.R_lower (Kd.R_new' (Kd.R_new' (Kd.R_new' (Kd.R_new' ho0 (Kd.R_lt (by (with_reducible repeat (first | apply Kd.R_alloc | apply Kd.R_drewN | apply Kd.R_drew)); exact HO_11.out))) (Kd.R_lt (by (with_reducible repeat (first | apply Kd.R_alloc | apply Kd.R_drewN | apply Kd.R_drew)); exact HO_12.out))) (Kd.R_lt (by (with_reducible repeat (first | apply Kd.R_alloc | apply Kd.R_drewN | apply Kd.R_drew)); exact HO_15.out))) (Kd.R_lt (by (with_reducible repeat (first | apply Kd.R_alloc | apply Kd.R_drewN | apply Kd.R_drew)); exact HL314_0.out))) (below_size (by repeat (first | (with_reducible first | exact HB.out | apply below_alloc | apply pw_below_drewN | apply below_drew1 | refine below_set ?_ GE290.out) | exact HB.out)))); have n6_ := Aside0.mk (blk_below (g := gb290) (o := .cells #[.slice none 0 0, .slice none 0 0] 38 (0, 0)) (by (with_reducible repeat (first | refine blk_drewN ?_ _ | refine blk_drew ?_ | refine blk_alloc ?_ _)); exact BK290.out) hb); have n7_ := Aside0.mk (Kd.C_below (by repeat (first | (with_reducible exact HR314_0.out) | (with_reducible refine Kd.C_alloc ?_ _) | (with_reducible refine Kd.C_drewN ?_ _) | (with_reducible refine Kd.C_drew ?_) | exact HR314_0.out)) hb); have n8_ := Aside0.mk (below_step (by repeat (first | (with_reducible first | exact HB.out | apply below_alloc | apply pw_below_drewN | apply below_drew1 | refine below_set ?_ GE290.out) | exact HB.out)) hb); clear HO_9; clear HO_11; clear HO_12; clear HO_15; clear HL314_0; clear BK290; clear HR314_0; clear HB; have HO_9 := n0_; have HO_11 := n1_; have HO_12 := n2_; have HO_15 := n3_; have HL314_0 := n4_; have HO318 := n5_; have BK290 := n6_; have HR314_0 := n7_; have HB := n8_; clear n0_ n1_ n2_ n3_ n4_ n5_ n6_ n7_ n8_; (try clear hb); (try clear hb2); (try clear hk); (try clear hi); (try clear ho0); obtain ⟨Ao43, co43, eo43⟩ := Kd.R_slice HO318.out; subst eo43)))
                      go_loopg [17, 97] kj29 (fun kq v17 v97 w' => ∃ (x17_5 : Int) (x97_5 : Int), v17 = .int .i64 x17_5 ∧ v97 = .int .i64 x97_5 ∧ Aside0 (majority_Reed.l2 kq a0 a1 l2 t292 x11_2 x12_2 x13_3 ((rd_L1 t292 (ji23)).length : Int) x15_3 t315 x17_5 t316 t316 (t316.length : Int) x97_5 = some (r1, r2, r3)) ∧ Aside0 (kq ≤ kj29) ∧ Aside0 (Kd.S (Kd.slice 3 (Kd.int .i64)) 22 w' w.heap.size (fun k_ => some k_ ≠ ((.slice Ao41 x11_2.length co41) : Value).ownBlock ∧ some k_ ≠ (v300 : Value).ownBlock ∧ some k_ ≠ (v311 : Value).ownBlock ∧ some k_ ≠ ((.slice Ao43 t316.length co43) : Value).ownBlock ∧ some k_ ≠ ((.slice Ao43 t316.length co43) : Value).ownBlock) (.slice (some ad309) t292.length co21) t292) ∧ Aside0 (Kd.R (Kd.int .i64) 3 w' w.heap.size (fun k_ => some k_ ≠ (v300 : Value).ownBlock ∧ some k_ ≠ (v311 : Value).ownBlock ∧ some k_ ≠ ((.slice Ao43 t316.length co43) : Value).ownBlock ∧ some k_ ≠ ((.slice Ao43 t316.length co43) : Value).ownBlock) (.slice Ao41 x11_2.length co41) x11_2) ∧ Aside0 (Kd.R (Kd.int .i64) 3 w' w.heap.size (fun k_ => some k_ ≠ ((.slice Ao41 x11_2.length co41) : Value).ownBlock ∧ some k_ ≠ (v311 : Value).ownBlock ∧ some k_ ≠ ((.slice Ao43 t316.length co43) : Value).ownBlock ∧ some k_ ≠ ((.slice Ao43 t316.length co43) : Value).ownBlock) v300 x12_2) ∧ Aside0 (Kd.R (Kd.int .i64) 3 w' w.heap.size (fun k_ => some k_ ≠ ((.slice Ao41 x11_2.length co41) : Value).ownBlock ∧ some k_ ≠ (v300 : Value).ownBlock ∧ some k_ ≠ ((.slice Ao43 t316.length co43) : Value).ownBlock ∧ some k_ ≠ ((.slice Ao43 t316.length co43) : Value).ownBlock) v311 x15_3) ∧ Aside0 (Kd.R (Kd.int .i64) 3 w' w.heap.size (fun k_ => some k_ ≠ ((.slice Ao41 x11_2.length co41) : Value).ownBlock ∧ some k_ ≠ (v300 : Value).ownBlock ∧ some k_ ≠ (v311 : Value).ownBlock) (.slice Ao43 t316.length co43) t316) ∧ Aside0 (Kd.R (Kd.int .i64) 3 w' w.heap.size (fun k_ => some k_ ≠ ((.slice Ao41 x11_2.length co41) : Value).ownBlock ∧ some k_ ≠ (v300 : Value).ownBlock ∧ some k_ ≠ (v311 : Value).ownBlock) (.slice Ao43 t316.length co43) t316) ∧ Aside0 (w'.heap[gb290]? = some (.cells #[(.slice none 0 0), (.slice none 0 0)] 38 (0, 0))) ∧ Aside0 (Kd.C (Kd.int .i64) w' A314_0 (rd_L1 t292 (ji36)).length (rd_L1 t292 (ji36))) ∧ Aside0 (Below w.heap.size w w'))
                      case atStart => exact ⟨(0), (0), (by first | rfl | (simp; done) | (simp [*]; done)), (by first | rfl | (simp; done) | (simp [*]; done)), H', ⟨Nat.le_refl _⟩, ⟨by (with_reducible repeat (first | apply Kd.S_alloc | apply Kd.S_drewN | apply Kd.S_drew)); exact Kd.S_mono HO_9.out (fun _ hk => ⟨hk.1.1, ⟨hk.1.2.1, ⟨hk.1.2.2, ⟨hk.2, hk.2⟩⟩⟩⟩)⟩, ⟨by (with_reducible repeat (first | apply Kd.R_alloc | apply Kd.R_drewN | apply Kd.R_drew)); exact Kd.R_mono HO_11.out (fun _ hk => ⟨hk.1.1, ⟨hk.1.2, ⟨hk.2, hk.2⟩⟩⟩)⟩, ⟨by (with_reducible repeat (first | apply Kd.R_alloc | apply Kd.R_drewN | apply Kd.R_drew)); exact Kd.R_mono HO_12.out (fun _ hk => ⟨hk.1.1, ⟨hk.1.2, ⟨hk.2, hk.2⟩⟩⟩)⟩, ⟨by (with_reducible repeat (first | apply Kd.R_alloc | apply Kd.R_drewN | apply Kd.R_drew)); exact Kd.R_mono HO_15.out (fun _ hk => ⟨hk.1.1, ⟨hk.1.2, ⟨hk.2, hk.2⟩⟩⟩)⟩, ⟨by (with_reducible repeat (first | apply Kd.R_alloc | apply Kd.R_drewN | apply Kd.R_drew)); exact Kd.R_mono HO318.out (fun _ hk => ⟨hk.1.1.1.2, ⟨hk.1.1.2, hk.1.2⟩⟩)⟩, ⟨by (with_reducible repeat (first | apply Kd.R_alloc | apply Kd.R_drewN | apply Kd.R_drew)); exact Kd.R_mono HO318.out (fun _ hk => ⟨hk.1.1.1.2, ⟨hk.1.1.2, hk.1.2⟩⟩)⟩, ⟨by (with_reducible repeat (first | refine blk_drewN ?_ _ | refine blk_drew ?_ | refine blk_alloc ?_ _)); exact BK290.out⟩, ⟨by repeat (first | (with_reducible exact HR314_0.out) | (with_reducible refine Kd.C_alloc ?_ _) | (with_reducible refine Kd.C_drewN ?_ _) | (with_reducible refine Kd.C_drew ?_) | exact HR314_0.out)⟩, ⟨by repeat (first | (with_reducible first | exact HB.out | apply below_alloc | apply pw_below_drewN | apply below_drew1 | refine below_set ?_ GE290.out) | exact HB.out)⟩⟩
                      case round =>
                       clear H'
                       try clear c1
                       try clear c2
                       try clear p2
                       try clear c3
                       try clear p3
                       try clear q3
                       try clear hx3
                       try clear c6
                       try clear c6b0
                       try clear p6
                       try clear c7
                       try clear c7b0
                       try clear c8
                       try clear c8b0
                       try clear c9
                       try clear c12
                       try clear c12b0
                       try clear c12b1
                       try clear c14
                       try clear c15
                       try clear c15b0
                       try clear c15b1
                       try clear c16
                       try clear c16b0
                       try clear c16b1
                       try clear c19
                       try clear c22
                       try clear c22b0
                       try clear c24
                       try clear c24b0
                       try clear c25
                       try clear c25b0
                       try clear c26
                       try clear c26b0
                       try clear c26b1
                       try clear c27
                       try clear c27b0
                       try clear c27b1
                       try clear c30
                       try clear p30
                       try clear q30
                       try clear hx30
                       try clear c31
                       try clear c31b0
                       try clear p31
                       try clear q31
                       try clear hx31
                       try clear c33
                       try clear c33b0
                       try clear c34
                       try clear c34b0
                       try clear c35
                       try clear c37
                       try clear c37b0
                       try clear c38
                       try clear c38b0
                       try clear hcz10_0
                       try clear hcz10_1
                       try clear hfz10_0
                       try clear hfz10_1
                       try clear hx309_0
                       try clear hx313_0
                       try clear hx314_0
                       try clear p2
                       try clear p3
                       try clear p30
                       try clear p309
                       try clear p31
                       try clear p313
                       try clear p314
                       try clear p6
                       try clear q3
                       try clear q30
                       try clear q309
                       try clear q31
                       try clear q313
                       try clear q314
                       obtain ⟨x17_5, x97_5, rfl, rfl, HA, HK5, HO_9, HO_11, HO_12, HO_15, HO_18, HO_95, BK290, HR314_0, HB⟩ := hrel
                       cases gk with
                       | zero => exact absurd HA.out (by simp [majority_Reed.l2])
                       | succ k5 =>
                        have H := HA.out
                        clear HA
                        simp only [majority_Reed.l2] at H
                        by_cases c44 : x97_5 < (t316.length : Int)
                        ·rw [if_pos c44] at H
                         have c44b0 : decide (x97_5 < (t316.length : Int)) = true := decide_eq_true c44
                         clear c44
                         by_cases c45 : 0 ≤ x97_5
                         ·rw [if_pos c45] at H
                          have c45b0 : decide (0 ≤ x97_5) = true := decide_eq_true c45
                          clear c45
                          by_cases c46 : x97_5 < (t316.length : Int)
                          ·rw [if_pos c46] at H
                           have c46b0 : decide (x97_5 < (t316.length : Int)) = true := decide_eq_true c46
                           clear c46
                           have H' := Aside0.mk H
                           clear H
                           have p319 : 0 ≤ (x97_5 : Int) := of_decide_eq_true (by first | (with_reducible assumption) | assumption)
                           have q319 : x97_5 < (t316.length : Int) := of_decide_eq_true (by first | (with_reducible assumption) | assumption)
                           obtain ⟨ad319, e319, hx319_0⟩ := Kd.at_int (Kd.R_reads' HO_95.out).2.2 x97_5 p319 q319
                           cases e319
                           replace p319 := eq_true p319
                           replace q319 := eq_true q319
                           go_wp2
                           repeat (go_quiet (fail); try go_wp2)
                           go_roundg k5
                           case measure => have := HJ3.out; have := HK2.out; have := HK3.out; have := HJ29.out; have := HK5.out; omega
                           case rel => exact ⟨(wrap64 (x17_5 + (rd t316 x97_5))), (wrap64 (x97_5 + 1)), (by first | rfl | (simp; done) | (simp [*]; done)), (by first | rfl | (simp; done) | (simp [*]; done)), H', ⟨by have := HJ3.out; have := HK2.out; have := HK3.out; have := HJ29.out; have := HK5.out; omega⟩, ⟨by (with_reducible repeat (first | apply Kd.S_alloc | apply Kd.S_drewN | apply Kd.S_drew)); exact HO_9.out⟩, ⟨by (with_reducible repeat (first | apply Kd.R_alloc | apply Kd.R_drewN | apply Kd.R_drew)); exact HO_11.out⟩, ⟨by (with_reducible repeat (first | apply Kd.R_alloc | apply Kd.R_drewN | apply Kd.R_drew)); exact HO_12.out⟩, ⟨by (with_reducible repeat (first | apply Kd.R_alloc | apply Kd.R_drewN | apply Kd.R_drew)); exact HO_15.out⟩, ⟨by (with_reducible repeat (first | apply Kd.R_alloc | apply Kd.R_drewN | apply Kd.R_drew)); exact HO_18.out⟩, ⟨by (with_reducible repeat (first | apply Kd.R_alloc | apply Kd.R_drewN | apply Kd.R_drew)); exact HO_95.out⟩, ⟨by (with_reducible repeat (first | refine blk_drewN ?_ _ | refine blk_drew ?_ | refine blk_alloc ?_ _)); exact BK290.out⟩, ⟨by repeat (first | (with_reducible exact HR314_0.out) | (with_reducible refine Kd.C_alloc ?_ _) | (with_reducible refine Kd.C_drewN ?_ _) | (with_reducible refine Kd.C_drew ?_) | exact HR314_0.out)⟩, ⟨by repeat (first | (with_reducible first | exact HB.out | apply below_alloc | apply pw_below_drewN | apply below_drew1 | refine below_set ?_ GE290.out) | exact HB.out)⟩⟩
                          ·rw [if_neg c46] at H
                           exact absurd H (by simp)
                         ·rw [if_neg c45] at H
                          exact absurd H (by simp)
                        ·rw [if_neg c44] at H
                         have c44b0 : decide (x97_5 < (t316.length : Int)) = false := decide_eq_false c44
                         clear c44
                         by_cases c47 : (wrap64 (2 * x17_5)) ≤ (t316.length : Int)
                         ·rw [if_pos c47] at H
                          have c47b0 : decide ((wrap64 (2 * x17_5)) ≤ (t316.length : Int)) = true := decide_eq_true c47
                          clear c47
                          have H' := Aside0.mk H
                          clear H
                          go_wp2
                          repeat (go_quiet (fail); try go_wp2)
                          go_roundg k5
                          case measure => have := HJ3.out; have := HK2.out; have := HK3.out; have := HJ29.out; have := HK5.out; omega
                          case rel => exact ⟨(wrap64 (x13_3 - 1)), (x15_3), (by first | rfl | (simp; done) | (simp [*]; done)), H', ⟨by have := HJ3.out; have := HK2.out; have := HK3.out; have := HJ29.out; have := HK5.out; omega⟩, ⟨by (with_reducible repeat (first | apply Kd.S_alloc | apply Kd.S_drewN | apply Kd.S_drew)); exact Kd.S_mono HO_9.out (fun _ hk => ⟨hk.1, ⟨hk.2.1, hk.2.2.1⟩⟩)⟩, ⟨by (with_reducible repeat (first | apply Kd.R_alloc | apply Kd.R_drewN | apply Kd.R_drew)); exact Kd.R_mono HO_11.out (fun _ hk => ⟨hk.1, hk.2.1⟩)⟩, ⟨by (with_reducible repeat (first | apply Kd.R_alloc | apply Kd.R_drewN | apply Kd.R_drew)); exact Kd.R_mono HO_12.out (fun _ hk => ⟨hk.1, hk.2.1⟩)⟩, ⟨by (with_reducible repeat (first | apply Kd.R_alloc | apply Kd.R_drewN | apply Kd.R_drew)); exact Kd.R_mono HO_15.out (fun _ hk => ⟨hk.1, hk.2.1⟩)⟩, ⟨by (with_reducible repeat (first | refine blk_drewN ?_ _ | refine blk_drew ?_ | refine blk_alloc ?_ _)); exact BK290.out⟩, ⟨by repeat (first | (with_reducible first | exact HB.out | apply below_alloc | apply pw_below_drewN | apply below_drew1 | refine below_set ?_ GE290.out) | exact HB.out)⟩⟩
                         ·rw [if_neg c47] at H
                          have c47b0 : decide ((wrap64 (2 * x17_5)) ≤ (t316.length : Int)) = false := decide_eq_false c47
                          clear c47
                          have H' := Aside0.mk H
                          clear H
                          obtain ⟨Ao48, co48, eo48⟩ := Kd.R_slice HO_15.out
                          subst eo48
                          go_wp2
                          repeat (go_quiet (fail); try go_wp2)
                          go_loopg [112] k5 (fun kq v112 w' => ∃ (x15_6 : List Int) (x112_6 : Int), v112 = .int .i64 x112_6 ∧ Aside0 (majority_Reed.l3 kq a0 a1 l2 t292 x11_2 x12_2 x13_3 ((rd_L1 t292 (ji23)).length : Int) x15_6 t315 (x15_3.length : Int) x112_6 = some (r1, r2, r3)) ∧ Aside0 (kq ≤ k5) ∧ Aside0 (Kd.S (Kd.slice 3 (Kd.int .i64)) 22 w' w.heap.size (fun k_ => some k_ ≠ ((.slice Ao41 x11_2.length co41) : Value).ownBlock ∧ some k_ ≠ (v300 : Value).ownBlock ∧ some k_ ≠ ((.slice Ao48 x15_3.length co48) : Value).ownBlock) (.slice (some ad309) t292.length co21) t292) ∧ Aside0 (Kd.R (Kd.int .i64) 3 w' w.heap.size (fun k_ => some k_ ≠ (v300 : Value).ownBlock ∧ some k_ ≠ ((.slice Ao48 x15_3.length co48) : Value).ownBlock) (.slice Ao41 x11_2.length co41) x11_2) ∧ Aside0 (Kd.R (Kd.int .i64) 3 w' w.heap.size (fun k_ => some k_ ≠ ((.slice Ao41 x11_2.length co41) : Value).ownBlock ∧ some k_ ≠ ((.slice Ao48 x15_3.length co48) : Value).ownBlock) v300 x12_2) ∧ Aside0 (Kd.R (Kd.int .i64) 3 w' w.heap.size (fun k_ => some k_ ≠ ((.slice Ao41 x11_2.length co41) : Value).ownBlock ∧ some k_ ≠ (v300 : Value).ownBlock) (.slice Ao48 x15_3.length co48) x15_6) ∧ Aside0 (w'.heap[gb290]? = some (.cells #[(.slice none 0 0), (.slice none 0 0)] 38 (0, 0))) ∧ Aside0 (Below w.heap.size w w'))
                          case atStart => exact ⟨(x15_3), (0), (by first | rfl | (simp; done) | (simp [*]; done)), H', ⟨Nat.le_refl _⟩, ⟨by (with_reducible repeat (first | apply Kd.S_alloc | apply Kd.S_drewN | apply Kd.S_drew)); exact Kd.S_mono HO_9.out (fun _ hk => ⟨hk.1, ⟨hk.2.1, hk.2.2.1⟩⟩)⟩, ⟨by (with_reducible repeat (first | apply Kd.R_alloc | apply Kd.R_drewN | apply Kd.R_drew)); exact Kd.R_mono HO_11.out (fun _ hk => ⟨hk.1, hk.2.1⟩)⟩, ⟨by (with_reducible repeat (first | apply Kd.R_alloc | apply Kd.R_drewN | apply Kd.R_drew)); exact Kd.R_mono HO_12.out (fun _ hk => ⟨hk.1, hk.2.1⟩)⟩, ⟨by (with_reducible repeat (first | apply Kd.R_alloc | apply Kd.R_drewN | apply Kd.R_drew)); exact Kd.R_mono HO_15.out (fun _ hk => ⟨hk.1, hk.2.1⟩)⟩, ⟨by (with_reducible repeat (first | refine blk_drewN ?_ _ | refine blk_drew ?_ | refine blk_alloc ?_ _)); exact BK290.out⟩, ⟨by repeat (first | (with_reducible first | exact HB.out | apply below_alloc | apply pw_below_drewN | apply below_drew1 | refine below_set ?_ GE290.out) | exact HB.out)⟩⟩
                          case round =>
                           clear H'
                           try clear c1
                           try clear c2
                           try clear p2
                           try clear c3
                           try clear p3
                           try clear q3
                           try clear hx3
                           try clear c4
                           try clear c6
                           try clear c6b0
                           try clear p6
                           try clear c7
                           try clear c7b0
                           try clear c8
                           try clear c8b0
                           try clear c9
                           try clear c12
                           try clear c12b0
                           try clear c12b1
                           try clear c14
                           try clear c15
                           try clear c15b0
                           try clear c15b1
                           try clear c16
                           try clear c16b0
                           try clear c16b1
                           try clear c19
                           try clear c22
                           try clear c22b0
                           try clear c24
                           try clear c24b0
                           try clear c25
                           try clear c25b0
                           try clear c26
                           try clear c26b0
                           try clear c26b1
                           try clear c27
                           try clear c27b0
                           try clear c27b1
                           try clear c30
                           try clear p30
                           try clear q30
                           try clear hx30
                           try clear c31
                           try clear c31b0
                           try clear p31
                           try clear q31
                           try clear hx31
                           try clear c33
                           try clear c33b0
                           try clear c34
                           try clear c34b0
                           try clear c35
                           try clear c37
                           try clear c37b0
                           try clear c38
                           try clear c38b0
                           try clear c44
                           try clear c44b0
                           try clear c45
                           try clear c45b0
                           try clear c46
                           try clear c46b0
                           try clear c47
                           try clear c47b0
                           try clear hcz10_0
                           try clear hcz10_1
                           try clear hfz10_0
                           try clear hfz10_1
                           try clear hx309_0
                           try clear hx313_0
                           try clear hx314_0
                           try clear hx319_0
                           try clear p2
                           try clear p3
                           try clear p30
                           try clear p309
                           try clear p31
                           try clear p313
                           try clear p314
                           try clear p319
                           try clear p6
                           try clear q3
                           try clear q30
                           try clear q309
                           try clear q31
                           try clear q313
                           try clear q314
                           try clear q319
                           obtain ⟨x15_6, x112_6, rfl, HA, HK6, HO_9, HO_11, HO_12, HO_15, BK290, HB⟩ := hrel
                           have hl15_6 := (Kd.R_reads' HO_15.out).1
                           rw [hl15_6] at HO_15
                           (try simp only [hl15_6])
                           (try simp only [hl15_6] at BK290)
                           (try simp only [hl15_6] at HO_9)
                           (try simp only [hl15_6] at HO_11)
                           (try simp only [hl15_6] at HO_12)
                           cases gk with
                           | zero => exact absurd HA.out (by simp [majority_Reed.l3])
                           | succ k6 =>
                            have H := HA.out
                            clear HA
                            simp only [majority_Reed.l3] at H
                            by_cases c49 : x112_6 < (x15_3.length : Int)
                            ·rw [if_pos c49] at H
                             have c49b0 : decide (x112_6 < (x15_3.length : Int)) = true := decide_eq_true c49
                             (try simp only [hl15_6] at c49b0)
                             clear c49
                             by_cases c50 : (Go.bits .and .i64 x112_6 t315) = t315
                             ·rw [if_pos c50] at H
                              have c50b0 : ((Go.bits .and .i64 x112_6 t315) == t315) = true := beq_iff_eq.mpr c50
                              have c50b1 : ((Go.bits .and .i64 x112_6 t315) != t315) = false := bne_eq_false_iff_eq.mpr c50
                              clear c50
                              by_cases c51 : 0 ≤ x112_6
                              ·rw [if_pos c51] at H
                               have c51b0 : decide (0 ≤ x112_6) = true := decide_eq_true c51
                               clear c51
                               by_cases c52 : x112_6 < (x15_6.length : Int)
                               ·rw [if_pos c52] at H
                                have c52b0 : decide (x112_6 < (x15_6.length : Int)) = true := decide_eq_true c52
                                (try simp only [hl15_6] at c52b0)
                                clear c52
                                obtain ⟨y321, hy321⟩ : ∃ y_ : List Int, y_ = (x15_6.set (x112_6 : Int).toNat (Go.bits .xor .i64 (rd x15_6 x112_6) 1)) := ⟨_, rfl⟩
                                replace H : (majority_Reed.l3 k6 a0 a1 l2 t292 x11_2 x12_2 x13_3 ((rd_L1 t292 (ji23)).length : Int) y321 t315 (x15_3.length : Int) (wrap64 (x112_6 + 1))) = some (r1, r2, r3) := by first | (rw [hy321]; with_reducible exact H) | (have H2_ := (Option.bind_some _ _).symm.trans H; rw [hy321]; with_reducible exact H2_) | (have H2_ := (Option.bind_some _ _).symm.trans H; with_reducible exact H2_) | with_reducible exact H | (rw [hy321]; exact H) | exact H
                                have Ny321 := Aside0.mk hy321
                                clear hy321
                                have H' := Aside0.mk H
                                clear H
                                have p320 : 0 ≤ (x112_6 : Int) := of_decide_eq_true (by first | (with_reducible assumption) | assumption)
                                have q320 : x112_6 < (x15_6.length : Int) := of_decide_eq_true (by first | (with_reducible assumption) | assumption)
                                obtain ⟨ad320, e320, hx320_0⟩ := Kd.at_int (Kd.R_reads' HO_15.out).2.2 x112_6 p320 q320
                                cases e320
                                replace p320 := eq_true p320
                                replace q320 := eq_true q320
                                have p53 : 0 ≤ (x112_6 : Int) := of_decide_eq_true (by first | (with_reducible assumption) | assumption)
                                have q53 : (x112_6 : Int) < ((x15_6.length : Int) : Int) := of_decide_eq_true (by first | (with_reducible assumption) | assumption)
                                obtain ⟨go53, co53, eo53, gb53, gl53, cl53, HG53⟩ := Kd.R_form HO_15.out (by omega)
                                (first | cases eo53 | (injection eo53 with ea_ en_ ec_; (first | subst ea_ | (injection ea_ with ea_; subst ea_)); subst ec_; clear en_))
                                have GB53 := Aside0.mk gb53
                                have GG53 := Aside0.mk HG53
                                clear gb53 gl53 HG53
                                (first | simp only [add_plain] at hx320_0 | skip)
                                obtain ⟨hx53_0, hf53_0⟩ := Kd.R_celln 0 HO_15.out (x112_6 : Int) p53 q53
                                replace p53 := eq_true p53
                                replace q53 := eq_true q53
                                have HP54 := Kd.R_putg HO_15.out (x112_6 : Int) (Go.bits .xor .i64 (rd x15_6 x112_6) 1)
                                go_wp2_with (first | ((with_reducible refine gate_store (t := 3) (p := 125) rfl ?_); (try (rw [drewN_self wr]; generalize hq_ : World.drewN wr _ = wr; have n0_ := Aside0.mk (Kd.S_at hq_ HO_9.out); have n1_ := Aside0.mk (Kd.R_at hq_ HO_11.out); have n2_ := Aside0.mk (Kd.R_at hq_ HO_12.out); have n3_ := Aside0.mk (Kd.R_at hq_ HO_15.out); have n4_ := Aside0.mk (blk_at hq_ BK290.out); have n5_ := Aside0.mk (below_at hq_ HB.out); clear hq_ HO_9 HO_11 HO_12 HO_15 BK290 HB; have HO_9 := n0_; have HO_11 := n1_; have HO_12 := n2_; have HO_15 := n3_; have BK290 := n4_; have HB := n5_; clear n0_ n1_ n2_ n3_ n4_ n5_; (try (have HP54 := Kd.R_putg HO_15.out (x112_6 : Int) (Go.bits .xor .i64 (rd x15_6 x112_6) 1))))); refine store_event (t := 3) (p := 125) (v := ?vo_w55) (w1 := (wr.setCell ⟨go53, (x112_6 : Int).toNat, none⟩ (.int .i64 (Go.bits .xor .i64 (rd x15_6 x112_6) 1)))) ?hg ?ho ?hn ?hr ?_; (case ho => rfl); (case hg => rfl); (case hn => rfl); (case hr => first | (go_simp; done) | (go_simp; rfl)); intro w55 hw; have hg : wr.grownBy w55 (some go53) := (by rw [hw]; exact HP54.2); have hp_ : Kd.R (Kd.int .i64) 3 w55 w.heap.size (fun k_ => some k_ ≠ (.slice Ao41 x11_2.length co41 : Value).ownBlock ∧ some k_ ≠ (v300 : Value).ownBlock) (.slice (some ⟨go53, 0, none⟩) x15_6.length co48) y321 := (by rw [hw, Ny321.out]; exact HP54.1); clear HP54; have n0_ := Aside0.mk (Kd.S_after (v := (.slice (some ⟨go53, 0, none⟩) x15_6.length co48)) (v1 := (.slice (some ⟨go53, 0, none⟩) x15_6.length co48)) (ok := (fun k_ => some k_ ≠ (.slice Ao41 x11_2.length co41 : Value).ownBlock ∧ some k_ ≠ (v300 : Value).ownBlock)) (by (with_reducible repeat (first | apply Kd.S_alloc | apply Kd.S_drewN | apply Kd.S_drew)); exact Kd.S_mono HO_9.out (fun _ hk => ⟨⟨hk.1, hk.2.1⟩, hk.2.2⟩)) hg (.inl rfl)); have n1_ := Aside0.mk (Kd.R_after (v := (.slice (some ⟨go53, 0, none⟩) x15_6.length co48)) (v1 := (.slice (some ⟨go53, 0, none⟩) x15_6.length co48)) (ok := (fun k_ => some k_ ≠ (v300 : Value).ownBlock)) (by (with_reducible repeat (first | apply Kd.R_alloc | apply Kd.R_drewN | apply Kd.R_drew)); exact HO_11.out) hg (.inl rfl)); have n2_ := Aside0.mk (Kd.R_after (v := (.slice (some ⟨go53, 0, none⟩) x15_6.length co48)) (v1 := (.slice (some ⟨go53, 0, none⟩) x15_6.length co48)) (ok := (fun k_ => some k_ ≠ (.slice Ao41 x11_2.length co41 : Value).ownBlock)) (by (with_reducible repeat (first | apply Kd.R_alloc | apply Kd.R_drewN | apply Kd.R_drew)); exact HO_12.out) hg (.inl rfl)); have n3_ := Aside0.mk (hp_); have n4_ := Aside0.mk (blk_grown (g := gb290) (o := .cells #[.slice none 0 0, .slice none 0 0] 38 (0, 0)) (by (with_reducible repeat (first | refine blk_drewN ?_ _ | refine blk_drew ?_ | refine blk_alloc ?_ _)); exact BK290.out) hg (Kd.R_ne HO_15.out BK290.out (by decide))); have n5_ := Aside0.mk ((by rw [hw]; exact below_set (HB.out) GB53.out : Below w.heap.size w w55)); clear HO_9; clear HO_11; clear HO_12; clear HO_15; clear BK290; clear HB; have HO_9 := n0_; have HO_11 := n1_; have HO_12 := n2_; have HO_15 := n3_; have BK290 := n4_; have HB := n5_; clear n0_ n1_ n2_ n3_ n4_ n5_; clear hg hw hp_))
                                repeat (go_quiet (first | ((with_reducible refine gate_store (t := 3) (p := 125) rfl ?_); (try (rw [drewN_self wr]; generalize hq_ : World.drewN wr _ = wr; have n0_ := Aside0.mk (Kd.S_at hq_ HO_9.out); have n1_ := Aside0.mk (Kd.R_at hq_ HO_11.out); have n2_ := Aside0.mk (Kd.R_at hq_ HO_12.out); have n3_ := Aside0.mk (Kd.R_at hq_ HO_15.out); have n4_ := Aside0.mk (blk_at hq_ BK290.out); have n5_ := Aside0.mk (below_at hq_ HB.out); clear hq_ HO_9 HO_11 HO_12 HO_15 BK290 HB; have HO_9 := n0_; have HO_11 := n1_; have HO_12 := n2_; have HO_15 := n3_; have BK290 := n4_; have HB := n5_; clear n0_ n1_ n2_ n3_ n4_ n5_; (try (have HP54 := Kd.R_putg HO_15.out (x112_6 : Int) (Go.bits .xor .i64 (rd x15_6 x112_6) 1))))); refine store_event (t := 3) (p := 125) (v := ?vo_w55) (w1 := (wr.setCell ⟨go53, (x112_6 : Int).toNat, none⟩ (.int .i64 (Go.bits .xor .i64 (rd x15_6 x112_6) 1)))) ?hg ?ho ?hn ?hr ?_; (case ho => rfl); (case hg => rfl); (case hn => rfl); (case hr => first | (go_simp; done) | (go_simp; rfl)); intro w55 hw; have hg : wr.grownBy w55 (some go53) := (by rw [hw]; exact HP54.2); have hp_ : Kd.R (Kd.int .i64) 3 w55 w.heap.size (fun k_ => some k_ ≠ (.slice Ao41 x11_2.length co41 : Value).ownBlock ∧ some k_ ≠ (v300 : Value).ownBlock) (.slice (some ⟨go53, 0, none⟩) x15_6.length co48) y321 := (by rw [hw, Ny321.out]; exact HP54.1); clear HP54; have n0_ := Aside0.mk (Kd.S_after (v := (.slice (some ⟨go53, 0, none⟩) x15_6.length co48)) (v1 := (.slice (some ⟨go53, 0, none⟩) x15_6.length co48)) (ok := (fun k_ => some k_ ≠ (.slice Ao41 x11_2.length co41 : Value).ownBlock ∧ some k_ ≠ (v300 : Value).ownBlock)) (by (with_reducible repeat (first | apply Kd.S_alloc | apply Kd.S_drewN | apply Kd.S_drew)); exact Kd.S_mono HO_9.out (fun _ hk => ⟨⟨hk.1, hk.2.1⟩, hk.2.2⟩)) hg (.inl rfl)); have n1_ := Aside0.mk (Kd.R_after (v := (.slice (some ⟨go53, 0, none⟩) x15_6.length co48)) (v1 := (.slice (some ⟨go53, 0, none⟩) x15_6.length co48)) (ok := (fun k_ => some k_ ≠ (v300 : Value).ownBlock)) (by (with_reducible repeat (first | apply Kd.R_alloc | apply Kd.R_drewN | apply Kd.R_drew)); exact HO_11.out) hg (.inl rfl)); have n2_ := Aside0.mk (Kd.R_after (v := (.slice (some ⟨go53, 0, none⟩) x15_6.length co48)) (v1 := (.slice (some ⟨go53, 0, none⟩) x15_6.length co48)) (ok := (fun k_ => some k_ ≠ (.slice Ao41 x11_2.length co41 : Value).ownBlock)) (by (with_reducible repeat (first | apply Kd.R_alloc | apply Kd.R_drewN | apply Kd.R_drew)); exact HO_12.out) hg (.inl rfl)); have n3_ := Aside0.mk (hp_); have n4_ := Aside0.mk (blk_grown (g := gb290) (o := .cells #[.slice none 0 0, .slice none 0 0] 38 (0, 0)) (by (with_reducible repeat (first | refine blk_drewN ?_ _ | refine blk_drew ?_ | refine blk_alloc ?_ _)); exact BK290.out) hg (Kd.R_ne HO_15.out BK290.out (by decide))); have n5_ := Aside0.mk ((by rw [hw]; exact below_set (HB.out) GB53.out : Below w.heap.size w w55)); clear HO_9; clear HO_11; clear HO_12; clear HO_15; clear BK290; clear HB; have HO_9 := n0_; have HO_11 := n1_; have HO_12 := n2_; have HO_15 := n3_; have BK290 := n4_; have HB := n5_; clear n0_ n1_ n2_ n3_ n4_ n5_; clear hg hw hp_)); try go_wp2_with (first | ((with_reducible refine gate_store (t := 3) (p := 125) rfl ?_); (try (rw [drewN_self wr]; generalize hq_ : World.drewN wr _ = wr; have n0_ := Aside0.mk (Kd.S_at hq_ HO_9.out); have n1_ := Aside0.mk (Kd.R_at hq_ HO_11.out); have n2_ := Aside0.mk (Kd.R_at hq_ HO_12.out); have n3_ := Aside0.mk (Kd.R_at hq_ HO_15.out); have n4_ := Aside0.mk (blk_at hq_ BK290.out); have n5_ := Aside0.mk (below_at hq_ HB.out); clear hq_ HO_9 HO_11 HO_12 HO_15 BK290 HB; have HO_9 := n0_; have HO_11 := n1_; have HO_12 := n2_; have HO_15 := n3_; have BK290 := n4_; have HB := n5_; clear n0_ n1_ n2_ n3_ n4_ n5_; (try (have HP54 := Kd.R_putg HO_15.out (x112_6 : Int) (Go.bits .xor .i64 (rd x15_6 x112_6) 1))))); refine store_event (t := 3) (p := 125) (v := ?vo_w55) (w1 := (wr.setCell ⟨go53, (x112_6 : Int).toNat, none⟩ (.int .i64 (Go.bits .xor .i64 (rd x15_6 x112_6) 1)))) ?hg ?ho ?hn ?hr ?_; (case ho => rfl); (case hg => rfl); (case hn => rfl); (case hr => first | (go_simp; done) | (go_simp; rfl)); intro w55 hw; have hg : wr.grownBy w55 (some go53) := (by rw [hw]; exact HP54.2); have hp_ : Kd.R (Kd.int .i64) 3 w55 w.heap.size (fun k_ => some k_ ≠ (.slice Ao41 x11_2.length co41 : Value).ownBlock ∧ some k_ ≠ (v300 : Value).ownBlock) (.slice (some ⟨go53, 0, none⟩) x15_6.length co48) y321 := (by rw [hw, Ny321.out]; exact HP54.1); clear HP54; have n0_ := Aside0.mk (Kd.S_after (v := (.slice (some ⟨go53, 0, none⟩) x15_6.length co48)) (v1 := (.slice (some ⟨go53, 0, none⟩) x15_6.length co48)) (ok := (fun k_ => some k_ ≠ (.slice Ao41 x11_2.length co41 : Value).ownBlock ∧ some k_ ≠ (v300 : Value).ownBlock)) (by (with_reducible repeat (first | apply Kd.S_alloc | apply Kd.S_drewN | apply Kd.S_drew)); exact Kd.S_mono HO_9.out (fun _ hk => ⟨⟨hk.1, hk.2.1⟩, hk.2.2⟩)) hg (.inl rfl)); have n1_ := Aside0.mk (Kd.R_after (v := (.slice (some ⟨go53, 0, none⟩) x15_6.length co48)) (v1 := (.slice (some ⟨go53, 0, none⟩) x15_6.length co48)) (ok := (fun k_ => some k_ ≠ (v300 : Value).ownBlock)) (by (with_reducible repeat (first | apply Kd.R_alloc | apply Kd.R_drewN | apply Kd.R_drew)); exact HO_11.out) hg (.inl rfl)); have n2_ := Aside0.mk (Kd.R_after (v := (.slice (some ⟨go53, 0, none⟩) x15_6.length co48)) (v1 := (.slice (some ⟨go53, 0, none⟩) x15_6.length co48)) (ok := (fun k_ => some k_ ≠ (.slice Ao41 x11_2.length co41 : Value).ownBlock)) (by (with_reducible repeat (first | apply Kd.R_alloc | apply Kd.R_drewN | apply Kd.R_drew)); exact HO_12.out) hg (.inl rfl)); have n3_ := Aside0.mk (hp_); have n4_ := Aside0.mk (blk_grown (g := gb290) (o := .cells #[.slice none 0 0, .slice none 0 0] 38 (0, 0)) (by (with_reducible repeat (first | refine blk_drewN ?_ _ | refine blk_drew ?_ | refine blk_alloc ?_ _)); exact BK290.out) hg (Kd.R_ne HO_15.out BK290.out (by decide))); have n5_ := Aside0.mk ((by rw [hw]; exact below_set (HB.out) GB53.out : Below w.heap.size w w55)); clear HO_9; clear HO_11; clear HO_12; clear HO_15; clear BK290; clear HB; have HO_9 := n0_; have HO_11 := n1_; have HO_12 := n2_; have HO_15 := n3_; have BK290 := n4_; have HB := n5_; clear n0_ n1_ n2_ n3_ n4_ n5_; clear hg hw hp_)))
                                (try simp only [← hl15_6])
                                go_roundg k6
                                case measure => have := HJ3.out; have := HK2.out; have := HK3.out; have := HJ29.out; have := HK5.out; have := HK6.out; omega
                                case rel => exact ⟨(y321), (wrap64 (x112_6 + 1)), (by first | rfl | (simp; done) | (simp [*]; done)), H', ⟨by have := HJ3.out; have := HK2.out; have := HK3.out; have := HJ29.out; have := HK5.out; have := HK6.out; omega⟩, ⟨by (try simp only [hl15_6]); (with_reducible repeat (first | apply Kd.S_alloc | apply Kd.S_drewN | apply Kd.S_drew)); exact Kd.S_mono HO_9.out (fun _ hk => ⟨hk.1.1, ⟨hk.1.2, hk.2⟩⟩)⟩, ⟨by (try simp only [hl15_6]); (with_reducible repeat (first | apply Kd.R_alloc | apply Kd.R_drewN | apply Kd.R_drew)); exact HO_11.out⟩, ⟨by (try simp only [hl15_6]); (with_reducible repeat (first | apply Kd.R_alloc | apply Kd.R_drewN | apply Kd.R_drew)); exact HO_12.out⟩, ⟨by (try simp only [hl15_6]); (with_reducible repeat (first | apply Kd.R_alloc | apply Kd.R_drewN | apply Kd.R_drew)); exact HO_15.out⟩, ⟨by (try simp only [hl15_6]); (with_reducible repeat (first | refine blk_drewN ?_ _ | refine blk_drew ?_ | refine blk_alloc ?_ _)); exact BK290.out⟩, ⟨by repeat (first | (with_reducible first | exact HB.out | apply below_alloc | apply pw_below_drewN | apply below_drew1 | refine below_set ?_ GE290.out) | exact HB.out)⟩⟩
                               ·rw [if_neg c52] at H
                                exact absurd H (by simp)
                              ·rw [if_neg c51] at H
                               exact absurd H (by simp)
                             ·rw [if_neg c50] at H
                              have c50b0 : ((Go.bits .and .i64 x112_6 t315) == t315) = false := beq_eq_false_iff_ne.mpr c50
                              have c50b1 : ((Go.bits .and .i64 x112_6 t315) != t315) = true := bne_iff_ne.mpr c50
                              have H' := Aside0.mk H
                              clear H
                              go_wp2
                              repeat (go_quiet (fail); try go_wp2)
                              (try simp only [← hl15_6])
                              go_roundg k6
                              case measure => have := HJ3.out; have := HK2.out; have := HK3.out; have := HJ29.out; have := HK5.out; have := HK6.out; omega
                              case rel => exact ⟨(x15_6), (wrap64 (x112_6 + 1)), (by first | rfl | (simp; done) | (simp [*]; done)), H', ⟨by have := HJ3.out; have := HK2.out; have := HK3.out; have := HJ29.out; have := HK5.out; have := HK6.out; omega⟩, ⟨by (try simp only [hl15_6]); (with_reducible repeat (first | apply Kd.S_alloc | apply Kd.S_drewN | apply Kd.S_drew)); exact HO_9.out⟩, ⟨by (try simp only [hl15_6]); (with_reducible repeat (first | apply Kd.R_alloc | apply Kd.R_drewN | apply Kd.R_drew)); exact HO_11.out⟩, ⟨by (try simp only [hl15_6]); (with_reducible repeat (first | apply Kd.R_alloc | apply Kd.R_drewN | apply Kd.R_drew)); exact HO_12.out⟩, ⟨by (try simp only [hl15_6]); (with_reducible repeat (first | apply Kd.R_alloc | apply Kd.R_drewN | apply Kd.R_drew)); exact HO_15.out⟩, ⟨by (try simp only [hl15_6]); (with_reducible repeat (first | refine blk_drewN ?_ _ | refine blk_drew ?_ | refine blk_alloc ?_ _)); exact BK290.out⟩, ⟨by repeat (first | (with_reducible first | exact HB.out | apply below_alloc | apply pw_below_drewN | apply below_drew1 | refine below_set ?_ GE290.out) | exact HB.out)⟩⟩
                            ·rw [if_neg c49] at H
                             have c49b0 : decide (x112_6 < (x15_3.length : Int)) = false := decide_eq_false c49
                             (try simp only [hl15_6] at c49b0)
                             clear c49
                             have H' := Aside0.mk H
                             clear H
                             go_wp2
                             repeat (go_quiet (fail); try go_wp2)
                             (try simp only [← hl15_6])
                             go_roundg k6
                             case measure => have := HJ3.out; have := HK2.out; have := HK3.out; have := HJ29.out; have := HK5.out; have := HK6.out; omega
                             case rel => exact ⟨(wrap64 (x13_3 - 1)), (x15_6), (by first | rfl | (simp; done) | (simp [*]; done)), H', ⟨by have := HJ3.out; have := HK2.out; have := HK3.out; have := HJ29.out; have := HK5.out; have := HK6.out; omega⟩, ⟨by (try simp only [hl15_6]); (with_reducible repeat (first | apply Kd.S_alloc | apply Kd.S_drewN | apply Kd.S_drew)); exact HO_9.out⟩, ⟨by (try simp only [hl15_6]); (with_reducible repeat (first | apply Kd.R_alloc | apply Kd.R_drewN | apply Kd.R_drew)); exact HO_11.out⟩, ⟨by (try simp only [hl15_6]); (with_reducible repeat (first | apply Kd.R_alloc | apply Kd.R_drewN | apply Kd.R_drew)); exact HO_12.out⟩, ⟨by (try simp only [hl15_6]); (with_reducible repeat (first | apply Kd.R_alloc | apply Kd.R_drewN | apply Kd.R_drew)); exact HO_15.out⟩, ⟨by (try simp only [hl15_6]); (with_reducible repeat (first | refine blk_drewN ?_ _ | refine blk_drew ?_ | refine blk_alloc ?_ _)); exact BK290.out⟩, ⟨by repeat (first | (with_reducible first | exact HB.out | apply below_alloc | apply pw_below_drewN | apply below_drew1 | refine below_set ?_ GE290.out) | exact HB.out)⟩⟩
                     ·rw [if_neg c38] at H
                      exact absurd H (by simp)
                    ·rw [if_neg c37] at H
                     exact absurd H (by simp)
                   ·replace c35 := Bool.eq_false_iff.mpr c35
                    subst c35
                    have H1 : (majority_Reed.l4 kj29 a0 a1 l2 t292 x11_2 x12_2 x13_3 x15_3 (x15_3.length : Int) 0) = some (r1, r2, r3) := by rw [if_neg (show ¬ (false = true) by decide)] at H; exact H
                    clear H
                    have H := H1
                    clear H1
                    have H' := Aside0.mk H
                    clear H
                    obtain ⟨Ao56, co56, eo56⟩ := Kd.R_slice HO_15.out
                    subst eo56
                    go_wp2
                    repeat (go_quiet (fail); try go_wp2)
                    go_loopg [129] kj29 (fun kq v129 w' => ∃ (x11_5 : List Int) (x12_5 : List Int) (x129_5 : Int), v129 = .int .i64 x129_5 ∧ Aside0 (majority_Reed.l4 kq a0 a1 l2 t292 x11_5 x12_5 x13_3 x15_3 (x15_3.length : Int) x129_5 = some (r1, r2, r3)) ∧ Aside0 (kq ≤ kj29) ∧ Aside0 (Kd.S (Kd.slice 3 (Kd.int .i64)) 22 w' w.heap.size (fun k_ => some k_ ≠ (v297 : Value).ownBlock ∧ some k_ ≠ (v300 : Value).ownBlock ∧ some k_ ≠ ((.slice Ao56 x15_3.length co56) : Value).ownBlock) (.slice (some ad309) t292.length co21) t292) ∧ Aside0 (Kd.R (Kd.int .i64) 3 w' w.heap.size (fun k_ => some k_ ≠ (v300 : Value).ownBlock ∧ some k_ ≠ ((.slice Ao56 x15_3.length co56) : Value).ownBlock) v297 x11_5) ∧ Aside0 (Kd.R (Kd.int .i64) 3 w' w.heap.size (fun k_ => some k_ ≠ (v297 : Value).ownBlock ∧ some k_ ≠ ((.slice Ao56 x15_3.length co56) : Value).ownBlock) v300 x12_5) ∧ Aside0 (Kd.R (Kd.int .i64) 3 w' w.heap.size (fun k_ => some k_ ≠ (v297 : Value).ownBlock ∧ some k_ ≠ (v300 : Value).ownBlock) (.slice Ao56 x15_3.length co56) x15_3) ∧ Aside0 (w'.heap[gb290]? = some (.cells #[(.slice none 0 0), (.slice none 0 0)] 38 (0, 0))) ∧ Aside0 (Below w.heap.size w w'))
                    case atStart => exact ⟨(x11_2), (x12_2), (0), (by first | rfl | (simp; done) | (simp [*]; done)), H', ⟨Nat.le_refl _⟩, ⟨by (with_reducible repeat (first | apply Kd.S_alloc | apply Kd.S_drewN | apply Kd.S_drew)); exact HO_9.out⟩, ⟨by (with_reducible repeat (first | apply Kd.R_alloc | apply Kd.R_drewN | apply Kd.R_drew)); exact HO_11.out⟩, ⟨by (with_reducible repeat (first | apply Kd.R_alloc | apply Kd.R_drewN | apply Kd.R_drew)); exact HO_12.out⟩, ⟨by (with_reducible repeat (first | apply Kd.R_alloc | apply Kd.R_drewN | apply Kd.R_drew)); exact HO_15.out⟩, ⟨by (with_reducible repeat (first | refine blk_drewN ?_ _ | refine blk_drew ?_ | refine blk_alloc ?_ _)); exact BK290.out⟩, ⟨by repeat (first | (with_reducible first | exact HB.out | apply below_alloc | apply pw_below_drewN | apply below_drew1 | refine below_set ?_ GE290.out) | exact HB.out)⟩⟩
                    case round =>
                     clear H'
                     try clear c1
                     try clear c2
                     try clear p2
                     try clear c3
                     try clear p3
                     try clear q3
                     try clear hx3
                     try clear c4
                     try clear c5
                     try clear p5
                     try clear q5
                     try clear hx5
                     try clear hf5
                     try clear c6
                     try clear c6b0
                     try clear p6
                     try clear c7
                     try clear c7b0
                     try clear c8
                     try clear c8b0
                     try clear c9
                     try clear c12
                     try clear c12b0
                     try clear c12b1
                     try clear c14
                     try clear c15
                     try clear c15b0
                     try clear c15b1
                     try clear c16
                     try clear c16b0
                     try clear c16b1
                     try clear c19
                     try clear c22
                     try clear c22b0
                     try clear c24
                     try clear c24b0
                     try clear c25
                     try clear c25b0
                     try clear c26
                     try clear c26b0
                     try clear c26b1
                     try clear c27
                     try clear c27b0
                     try clear c27b1
                     try clear c30
                     try clear p30
                     try clear q30
                     try clear hx30
                     try clear c31
                     try clear c31b0
                     try clear p31
                     try clear q31
                     try clear hx31
                     try clear p32
                     try clear q32
                     try clear hx32
                     try clear c33
                     try clear c33b0
                     try clear c34
                     try clear c34b0
                     try clear c35
                     try clear c37
                     try clear c37b0
                     try clear c38
                     try clear c38b0
                     try clear c44
                     try clear c44b0
                     try clear c45
                     try clear c45b0
                     try clear c46
                     try clear c46b0
                     try clear c47
                     try clear c47b0
                     try clear c49
                     try clear c49b0
                     try clear c50
                     try clear c50b0
                     try clear c50b1
                     try clear c51
                     try clear c51b0
                     try clear c52
                     try clear c52b0
                     try clear p53
                     try clear q53
                     try clear hx53
                     try clear hf53
                     try clear hcz10_0
                     try clear hcz10_1
                     try clear hfz10_0
                     try clear hfz10_1
                     try clear hx309_0
                     try clear hx313_0
                     try clear hx314_0
                     try clear hx319_0
                     try clear hx320_0
                     try clear hx53_0
                     try clear p2
                     try clear p3
                     try clear p30
                     try clear p309
                     try clear p31
                     try clear p313
                     try clear p314
                     try clear p319
                     try clear p320
                     try clear p53
                     try clear p6
                     try clear q3
                     try clear q30
                     try clear q309
                     try clear q31
                     try clear q313
                     try clear q314
                     try clear q319
                     try clear q320
                     try clear q53
                     obtain ⟨x11_5, x12_5, x129_5, rfl, HA, HK5, HO_9, HO_11, HO_12, HO_127, BK290, HB⟩ := hrel
                     cases gk with
                     | zero => exact absurd HA.out (by simp [majority_Reed.l4])
                     | succ k5 =>
                      have H := HA.out
                      clear HA
                      simp only [majority_Reed.l4] at H
                      by_cases c57 : x129_5 < (x15_3.length : Int)
                      ·rw [if_pos c57] at H
                       have c57b0 : decide (x129_5 < (x15_3.length : Int)) = true := decide_eq_true c57
                       clear c57
                       by_cases c58 : 0 ≤ x129_5
                       ·rw [if_pos c58] at H
                        have c58b0 : decide (0 ≤ x129_5) = true := decide_eq_true c58
                        clear c58
                        by_cases c59 : x129_5 < (x15_3.length : Int)
                        ·rw [if_pos c59] at H
                         have c59b0 : decide (x129_5 < (x15_3.length : Int)) = true := decide_eq_true c59
                         clear c59
                         by_cases c60 : x129_5 < (x11_5.length : Int)
                         ·rw [if_pos c60] at H
                          have c60b0 : decide (x129_5 < (x11_5.length : Int)) = true := decide_eq_true c60
                          clear c60
                          obtain ⟨y324, hy324⟩ : ∃ y_ : List Int, y_ = (x11_5.set (x129_5 : Int).toNat (Go.bits .xor .i64 (rd x11_5 x129_5) (rd x15_3 x129_5))) := ⟨_, rfl⟩
                          replace H : (if x129_5 < (x12_5.length : Int) then (majority_Reed.l4 k5 a0 a1 l2 t292 y324 (x12_5.set (x129_5 : Int).toNat (Go.bits .xor .i64 (rd x12_5 x129_5) (rd x15_3 x129_5))) x13_3 x15_3 (x15_3.length : Int) (wrap64 (x129_5 + 1))) else (none)) = some (r1, r2, r3) := by first | (rw [hy324]; with_reducible exact H) | (have H2_ := (Option.bind_some _ _).symm.trans H; rw [hy324]; with_reducible exact H2_) | (have H2_ := (Option.bind_some _ _).symm.trans H; with_reducible exact H2_) | with_reducible exact H | (rw [hy324]; exact H) | exact H
                          have Ny324 := Aside0.mk hy324
                          clear hy324
                          by_cases c62 : x129_5 < (x12_5.length : Int)
                          ·rw [if_pos c62] at H
                           have c62b0 : decide (x129_5 < (x12_5.length : Int)) = true := decide_eq_true c62
                           clear c62
                           obtain ⟨y326, hy326⟩ : ∃ y_ : List Int, y_ = (x12_5.set (x129_5 : Int).toNat (Go.bits .xor .i64 (rd x12_5 x129_5) (rd x15_3 x129_5))) := ⟨_, rfl⟩
                           replace H : (majority_Reed.l4 k5 a0 a1 l2 t292 y324 y326 x13_3 x15_3 (x15_3.length : Int) (wrap64 (x129_5 + 1))) = some (r1, r2, r3) := by first | (rw [hy326]; with_reducible exact H) | (have H2_ := (Option.bind_some _ _).symm.trans H; rw [hy326]; with_reducible exact H2_) | (have H2_ := (Option.bind_some _ _).symm.trans H; with_reducible exact H2_) | with_reducible exact H | (rw [hy326]; exact H) | exact H
                           have Ny326 := Aside0.mk hy326
                           clear hy326
                           have H' := Aside0.mk H
                           clear H
                           have p322 : 0 ≤ (x129_5 : Int) := of_decide_eq_true (by first | (with_reducible assumption) | assumption)
                           have q322 : x129_5 < (x15_3.length : Int) := of_decide_eq_true (by first | (with_reducible assumption) | assumption)
                           obtain ⟨ad322, e322, hx322_0⟩ := Kd.at_int (Kd.R_reads' HO_127.out).2.2 x129_5 p322 q322
                           cases e322
                           replace p322 := eq_true p322
                           replace q322 := eq_true q322
                           obtain ⟨Ao64, co64, eo64⟩ := Kd.R_slice HO_11.out
                           subst eo64
                           have p323 : 0 ≤ (x129_5 : Int) := of_decide_eq_true (by first | (with_reducible assumption) | assumption)
                           have q323 : x129_5 < (x11_5.length : Int) := of_decide_eq_true (by first | (with_reducible assumption) | assumption)
                           obtain ⟨ad323, e323, hx323_0⟩ := Kd.at_int (Kd.R_reads' HO_11.out).2.2 x129_5 p323 q323
                           cases e323
                           replace p323 := eq_true p323
                           replace q323 := eq_true q323
                           have p61 : 0 ≤ (x129_5 : Int) := of_decide_eq_true (by first | (with_reducible assumption) | assumption)
                           have q61 : (x129_5 : Int) < ((x11_5.length : Int) : Int) := of_decide_eq_true (by first | (with_reducible assumption) | assumption)
                           obtain ⟨go61, co61, eo61, gb61, gl61, cl61, HG61⟩ := Kd.R_form HO_11.out (by omega)
                           (first | cases eo61 | (injection eo61 with ea_ en_ ec_; (first | subst ea_ | (injection ea_ with ea_; subst ea_)); subst ec_; clear en_))
                           have GB61 := Aside0.mk gb61
                           have GG61 := Aside0.mk HG61
                           clear gb61 gl61 HG61
                           (first | simp only [add_plain] at hx323_0 | skip)
                           obtain ⟨hx61_0, hf61_0⟩ := Kd.R_celln 0 HO_11.out (x129_5 : Int) p61 q61
                           replace p61 := eq_true p61
                           replace q61 := eq_true q61
                           have HP65 := Kd.R_putg HO_11.out (x129_5 : Int) (Go.bits .xor .i64 (rd x11_5 x129_5) (rd x15_3 x129_5))
                           go_wp2_with (first | ((with_reducible refine gate_store (t := 3) (p := 140) rfl ?_); (try (rw [drewN_self wr]; generalize hq_ : World.drewN wr _ = wr; have n0_ := Aside0.mk (Kd.S_at hq_ HO_9.out); have n1_ := Aside0.mk (Kd.R_at hq_ HO_11.out); have n2_ := Aside0.mk (Kd.R_at hq_ HO_12.out); have n3_ := Aside0.mk (Kd.R_at hq_ HO_127.out); have n4_ := Aside0.mk (blk_at hq_ BK290.out); have n5_ := Aside0.mk (below_at hq_ HB.out); clear hq_ HO_9 HO_11 HO_12 HO_127 BK290 HB; have HO_9 := n0_; have HO_11 := n1_; have HO_12 := n2_; have HO_127 := n3_; have BK290 := n4_; have HB := n5_; clear n0_ n1_ n2_ n3_ n4_ n5_; (try (have HP65 := Kd.R_putg HO_11.out (x129_5 : Int) (Go.bits .xor .i64 (rd x11_5 x129_5) (rd x15_3 x129_5)))))); refine store_event (t := 3) (p := 140) (v := ?vo_w66) (w1 := (wr.setCell ⟨go61, (x129_5 : Int).toNat, none⟩ (.int .i64 (Go.bits .xor .i64 (rd x11_5 x129_5) (rd x15_3 x129_5))))) ?hg ?ho ?hn ?hr ?_; (case ho => rfl); (case hg => rfl); (case hn => rfl); (case hr => first | (go_simp; done) | (go_simp; rfl)); intro w66 hw; have hg : wr.grownBy w66 (some go61) := (by rw [hw]; exact HP65.2); have hp_ : Kd.R (Kd.int .i64) 3 w66 w.heap.size (fun k_ => some k_ ≠ (v300 : Value).ownBlock ∧ some k_ ≠ (.slice (some ad322) x15_3.length co56 : Value).ownBlock) (.slice (some ⟨go61, 0, none⟩) x11_5.length co64) y324 := (by rw [hw, Ny324.out]; exact HP65.1); clear HP65; have n0_ := Aside0.mk (Kd.S_after (v := (.slice (some ⟨go61, 0, none⟩) x11_5.length co64)) (v1 := (.slice (some ⟨go61, 0, none⟩) x11_5.length co64)) (ok := (fun k_ => some k_ ≠ (v300 : Value).ownBlock ∧ some k_ ≠ (.slice (some ad322) x15_3.length co56 : Value).ownBlock)) (by (with_reducible repeat (first | apply Kd.S_alloc | apply Kd.S_drewN | apply Kd.S_drew)); exact Kd.S_mono HO_9.out (fun _ hk => ⟨⟨hk.2.1, hk.2.2⟩, hk.1⟩)) hg (.inl rfl)); have n1_ := Aside0.mk (hp_); have n2_ := Aside0.mk (Kd.R_after (v := (.slice (some ⟨go61, 0, none⟩) x11_5.length co64)) (v1 := (.slice (some ⟨go61, 0, none⟩) x11_5.length co64)) (ok := (fun k_ => some k_ ≠ (.slice (some ad322) x15_3.length co56 : Value).ownBlock)) (by (with_reducible repeat (first | apply Kd.R_alloc | apply Kd.R_drewN | apply Kd.R_drew)); exact Kd.R_mono HO_12.out (fun _ hk => ⟨hk.2, hk.1⟩)) hg (.inl rfl)); have n3_ := Aside0.mk (Kd.R_after (v := (.slice (some ⟨go61, 0, none⟩) x11_5.length co64)) (v1 := (.slice (some ⟨go61, 0, none⟩) x11_5.length co64)) (ok := (fun k_ => some k_ ≠ (v300 : Value).ownBlock)) (by (with_reducible repeat (first | apply Kd.R_alloc | apply Kd.R_drewN | apply Kd.R_drew)); exact Kd.R_mono HO_127.out (fun _ hk => ⟨hk.2, hk.1⟩)) hg (.inl rfl)); have n4_ := Aside0.mk (blk_grown (g := gb290) (o := .cells #[.slice none 0 0, .slice none 0 0] 38 (0, 0)) (by (with_reducible repeat (first | refine blk_drewN ?_ _ | refine blk_drew ?_ | refine blk_alloc ?_ _)); exact BK290.out) hg (Kd.R_ne HO_11.out BK290.out (by decide))); have n5_ := Aside0.mk ((by rw [hw]; exact below_set (HB.out) GB61.out : Below w.heap.size w w66)); clear HO_9; clear HO_11; clear HO_12; clear HO_127; clear BK290; clear HB; have HO_9 := n0_; have HO_11 := n1_; have HO_12 := n2_; have HO_127 := n3_; have BK290 := n4_; have HB := n5_; clear n0_ n1_ n2_ n3_ n4_ n5_; clear hg hw hp_; obtain ⟨Ao67, co67, eo67⟩ := Kd.R_slice HO_12.out; subst eo67; have p325 : 0 ≤ (x129_5 : Int) := of_decide_eq_true (by first | (with_reducible assumption) | assumption); have q325 : x129_5 < (x12_5.length : Int) := of_decide_eq_true (by first | (with_reducible assumption) | assumption); obtain ⟨ad325, e325, hx325_0⟩ := Kd.at_int (Kd.R_reads' HO_12.out).2.2 x129_5 p325 q325; cases e325; replace p325 := eq_true p325; replace q325 := eq_true q325; have p63 : 0 ≤ (x129_5 : Int) := of_decide_eq_true (by first | (with_reducible assumption) | assumption); have q63 : (x129_5 : Int) < ((x12_5.length : Int) : Int) := of_decide_eq_true (by first | (with_reducible assumption) | assumption); obtain ⟨go63, co63, eo63, gb63, gl63, cl63, HG63⟩ := Kd.R_form HO_12.out (by omega); (first | cases eo63 | (injection eo63 with ea_ en_ ec_; (first | subst ea_ | (injection ea_ with ea_; subst ea_)); subst ec_; clear en_)); have GB63 := Aside0.mk gb63; have GG63 := Aside0.mk HG63; clear gb63 gl63 HG63; (first | simp only [add_plain] at hx325_0 | skip); obtain ⟨hx63_0, hf63_0⟩ := Kd.R_celln 0 HO_12.out (x129_5 : Int) p63 q63; replace p63 := eq_true p63; replace q63 := eq_true q63; obtain ⟨hy68_, hz68_⟩ := Kd.R_celln 0 HO_12.out (x129_5 : Int) (of_decide_eq_true (by first | (with_reducible assumption) | assumption)) (of_decide_eq_true (by first | (with_reducible assumption) | assumption)); have HP68 := Kd.R_putg HO_12.out (x129_5 : Int) (Go.bits .xor .i64 (rd x12_5 x129_5) (rd x15_3 x129_5))) | ((with_reducible refine gate_store (t := 3) (p := 147) rfl ?_); (try (rw [drewN_self w66]; generalize hq_ : World.drewN w66 _ = w66; have n0_ := Aside0.mk (Kd.S_at hq_ HO_9.out); have n1_ := Aside0.mk (Kd.R_at hq_ HO_11.out); have n2_ := Aside0.mk (Kd.R_at hq_ HO_12.out); have n3_ := Aside0.mk (Kd.R_at hq_ HO_127.out); have n4_ := Aside0.mk (blk_at hq_ BK290.out); have n5_ := Aside0.mk (below_at hq_ HB.out); clear hq_ HO_9 HO_11 HO_12 HO_127 BK290 HB; have HO_9 := n0_; have HO_11 := n1_; have HO_12 := n2_; have HO_127 := n3_; have BK290 := n4_; have HB := n5_; clear n0_ n1_ n2_ n3_ n4_ n5_; (try (obtain ⟨hy68_, hz68_⟩ := Kd.R_celln 0 HO_12.out (x129_5 : Int) (of_decide_eq_true (by first | (with_reducible assumption) | assumption)) (of_decide_eq_true (by first | (with_reducible assumption) | assumption)))); (try (have HP68 := Kd.R_putg HO_12.out (x129_5 : Int) (Go.bits .xor .i64 (rd x12_5 x129_5) (rd x15_3 x129_5)))))); refine store_event (t := 3) (p := 147) (v := ?vo_w69) (w1 := (w66.setCell ⟨go63, (x129_5 : Int).toNat, none⟩ (.int .i64 (Go.bits .xor .i64 (rd x12_5 x129_5) (rd x15_3 x129_5))))) ?hg ?ho ?hn ?hr ?_; (case ho => rfl); (case hg => rfl); (case hn => rfl); (case hr => first | (go_simp; done) | (go_simp; rfl)); intro w69 hw; have hg : w66.grownBy w69 (some go63) := (by rw [hw]; exact HP68.2); have hp_ : Kd.R (Kd.int .i64) 3 w69 w.heap.size (fun k_ => some k_ ≠ (.slice (some ad322) x15_3.length co56 : Value).ownBlock ∧ some k_ ≠ (.slice (some ⟨go61, 0, none⟩) x11_5.length co64 : Value).ownBlock) (.slice (some ⟨go63, 0, none⟩) x12_5.length co67) y326 := (by rw [hw, Ny326.out]; exact HP68.1); clear HP68; have n0_ := Aside0.mk (Kd.S_after (v := (.slice (some ⟨go63, 0, none⟩) x12_5.length co67)) (v1 := (.slice (some ⟨go63, 0, none⟩) x12_5.length co67)) (ok := (fun k_ => some k_ ≠ (.slice (some ⟨go61, 0, none⟩) x11_5.length co64 : Value).ownBlock ∧ some k_ ≠ (.slice (some ad322) x15_3.length co56 : Value).ownBlock)) (by (with_reducible repeat (first | apply Kd.S_alloc | apply Kd.S_drewN | apply Kd.S_drew)); exact Kd.S_mono HO_9.out (fun _ hk => ⟨⟨hk.2, hk.1.2⟩, hk.1.1⟩)) hg (.inl rfl)); have n1_ := Aside0.mk (Kd.R_after (v := (.slice (some ⟨go63, 0, none⟩) x12_5.length co67)) (v1 := (.slice (some ⟨go63, 0, none⟩) x12_5.length co67)) (ok := (fun k_ => some k_ ≠ (.slice (some ad322) x15_3.length co56 : Value).ownBlock)) (by (with_reducible repeat (first | apply Kd.R_alloc | apply Kd.R_drewN | apply Kd.R_drew)); exact Kd.R_mono HO_11.out (fun _ hk => ⟨hk.2, hk.1⟩)) hg (.inl rfl)); have n2_ := Aside0.mk (hp_); have n3_ := Aside0.mk (Kd.R_after (v := (.slice (some ⟨go63, 0, none⟩) x12_5.length co67)) (v1 := (.slice (some ⟨go63, 0, none⟩) x12_5.length co67)) (ok := (fun k_ => some k_ ≠ (.slice (some ⟨go61, 0, none⟩) x11_5.length co64 : Value).ownBlock)) (by (with_reducible repeat (first | apply Kd.R_alloc | apply Kd.R_drewN | apply Kd.R_drew)); exact Kd.R_mono HO_127.out (fun _ hk => ⟨hk.2, hk.1⟩)) hg (.inl rfl)); have n4_ := Aside0.mk (blk_grown (g := gb290) (o := .cells #[.slice none 0 0, .slice none 0 0] 38 (0, 0)) (by (with_reducible repeat (first | refine blk_drewN ?_ _ | refine blk_drew ?_ | refine blk_alloc ?_ _)); exact BK290.out) hg (Kd.R_ne HO_12.out BK290.out (by decide))); have n5_ := Aside0.mk ((by rw [hw]; exact below_set (HB.out) GB63.out : Below w.heap.size w w69)); clear HO_9; clear HO_11; clear HO_12; clear HO_127; clear BK290; clear HB; have HO_9 := n0_; have HO_11 := n1_; have HO_12 := n2_; have HO_127 := n3_; have BK290 := n4_; have HB := n5_; clear n0_ n1_ n2_ n3_ n4_ n5_; clear hg hw hp_))
                           repeat (go_quiet (first | ((with_reducible refine gate_store (t := 3) (p := 140) rfl ?_); (try (rw [drewN_self wr]; generalize hq_ : World.drewN wr _ = wr; have n0_ := Aside0.mk (Kd.S_at hq_ HO_9.out); have n1_ := Aside0.mk (Kd.R_at hq_ HO_11.out); have n2_ := Aside0.mk (Kd.R_at hq_ HO_12.out); have n3_ := Aside0.mk (Kd.R_at hq_ HO_127.out); have n4_ := Aside0.mk (blk_at hq_ BK290.out); have n5_ := Aside0.mk (below_at hq_ HB.out); clear hq_ HO_9 HO_11 HO_12 HO_127 BK290 HB; have HO_9 := n0_; have HO_11 := n1_; have HO_12 := n2_; have HO_127 := n3_; have BK290 := n4_; have HB := n5_; clear n0_ n1_ n2_ n3_ n4_ n5_; (try (have HP65 := Kd.R_putg HO_11.out (x129_5 : Int) (Go.bits .xor .i64 (rd x11_5 x129_5) (rd x15_3 x129_5)))))); refine store_event (t := 3) (p := 140) (v := ?vo_w66) (w1 := (wr.setCell ⟨go61, (x129_5 : Int).toNat, none⟩ (.int .i64 (Go.bits .xor .i64 (rd x11_5 x129_5) (rd x15_3 x129_5))))) ?hg ?ho ?hn ?hr ?_; (case ho => rfl); (case hg => rfl); (case hn => rfl); (case hr => first | (go_simp; done) | (go_simp; rfl)); intro w66 hw; have hg : wr.grownBy w66 (some go61) := (by rw [hw]; exact HP65.2); have hp_ : Kd.R (Kd.int .i64) 3 w66 w.heap.size (fun k_ => some k_ ≠ (v300 : Value).ownBlock ∧ some k_ ≠ (.slice (some ad322) x15_3.length co56 : Value).ownBlock) (.slice (some ⟨go61, 0, none⟩) x11_5.length co64) y324 := (by rw [hw, Ny324.out]; exact HP65.1); clear HP65; have n0_ := Aside0.mk (Kd.S_after (v := (.slice (some ⟨go61, 0, none⟩) x11_5.length co64)) (v1 := (.slice (some ⟨go61, 0, none⟩) x11_5.length co64)) (ok := (fun k_ => some k_ ≠ (v300 : Value).ownBlock ∧ some k_ ≠ (.slice (some ad322) x15_3.length co56 : Value).ownBlock)) (by (with_reducible repeat (first | apply Kd.S_alloc | apply Kd.S_drewN | apply Kd.S_drew)); exact Kd.S_mono HO_9.out (fun _ hk => ⟨⟨hk.2.1, hk.2.2⟩, hk.1⟩)) hg (.inl rfl)); have n1_ := Aside0.mk (hp_); have n2_ := Aside0.mk (Kd.R_after (v := (.slice (some ⟨go61, 0, none⟩) x11_5.length co64)) (v1 := (.slice (some ⟨go61, 0, none⟩) x11_5.length co64)) (ok := (fun k_ => some k_ ≠ (.slice (some ad322) x15_3.length co56 : Value).ownBlock)) (by (with_reducible repeat (first | apply Kd.R_alloc | apply Kd.R_drewN | apply Kd.R_drew)); exact Kd.R_mono HO_12.out (fun _ hk => ⟨hk.2, hk.1⟩)) hg (.inl rfl)); have n3_ := Aside0.mk (Kd.R_after (v := (.slice (some ⟨go61, 0, none⟩) x11_5.length co64)) (v1 := (.slice (some ⟨go61, 0, none⟩) x11_5.length co64)) (ok := (fun k_ => some k_ ≠ (v300 : Value).ownBlock)) (by (with_reducible repeat (first | apply Kd.R_alloc | apply Kd.R_drewN | apply Kd.R_drew)); exact Kd.R_mono HO_127.out (fun _ hk => ⟨hk.2, hk.1⟩)) hg (.inl rfl)); have n4_ := Aside0.mk (blk_grown (g := gb290) (o := .cells #[.slice none 0 0, .slice none 0 0] 38 (0, 0)) (by (with_reducible repeat (first | refine blk_drewN ?_ _ | refine blk_drew ?_ | refine blk_alloc ?_ _)); exact BK290.out) hg (Kd.R_ne HO_11.out BK290.out (by decide))); have n5_ := Aside0.mk ((by rw [hw]; exact below_set (HB.out) GB61.out : Below w.heap.size w w66)); clear HO_9; clear HO_11; clear HO_12; clear HO_127; clear BK290; clear HB; have HO_9 := n0_; have HO_11 := n1_; have HO_12 := n2_; have HO_127 := n3_; have BK290 := n4_; have HB := n5_; clear n0_ n1_ n2_ n3_ n4_ n5_; clear hg hw hp_; obtain ⟨Ao67, co67, eo67⟩ := Kd.R_slice HO_12.out; subst eo67; have p325 : 0 ≤ (x129_5 : Int) := of_decide_eq_true (by first | (with_reducible assumption) | assumption); have q325 : x129_5 < (x12_5.length : Int) := of_decide_eq_true (by first | (with_reducible assumption) | assumption); obtain ⟨ad325, e325, hx325_0⟩ := Kd.at_int (Kd.R_reads' HO_12.out).2.2 x129_5 p325 q325; cases e325; replace p325 := eq_true p325; replace q325 := eq_true q325; have p63 : 0 ≤ (x129_5 : Int) := of_decide_eq_true (by first | (with_reducible assumption) | assumption); have q63 : (x129_5 : Int) < ((x12_5.length : Int) : Int) := of_decide_eq_true (by first | (with_reducible assumption) | assumption); obtain ⟨go63, co63, eo63, gb63, gl63, cl63, HG63⟩ := Kd.R_form HO_12.out (by omega); (first | cases eo63 | (injection eo63 with ea_ en_ ec_; (first | subst ea_ | (injection ea_ with ea_; subst ea_)); subst ec_; clear en_)); have GB63 := Aside0.mk gb63; have GG63 := Aside0.mk HG63; clear gb63 gl63 HG63; (first | simp only [add_plain] at hx325_0 | skip); obtain ⟨hx63_0, hf63_0⟩ := Kd.R_celln 0 HO_12.out (x129_5 : Int) p63 q63; replace p63 := eq_true p63; replace q63 := eq_true q63; obtain ⟨hy68_, hz68_⟩ := Kd.R_celln 0 HO_12.out (x129_5 : Int) (of_decide_eq_true (by first | (with_reducible assumption) | assumption)) (of_decide_eq_true (by first | (with_reducible assumption) | assumption)); have HP68 := Kd.R_putg HO_12.out (x129_5 : Int) (Go.bits .xor .i64 (rd x12_5 x129_5) (rd x15_3 x129_5))) | ((with_reducible refine gate_store (t := 3) (p := 147) rfl ?_); (try (rw [drewN_self w66]; generalize hq_ : World.drewN w66 _ = w66; have n0_ := Aside0.mk (Kd.S_at hq_ HO_9.out); have n1_ := Aside0.mk (Kd.R_at hq_ HO_11.out); have n2_ := Aside0.mk (Kd.R_at hq_ HO_12.out); have n3_ := Aside0.mk (Kd.R_at hq_ HO_127.out); have n4_ := Aside0.mk (blk_at hq_ BK290.out); have n5_ := Aside0.mk (below_at hq_ HB.out); clear hq_ HO_9 HO_11 HO_12 HO_127 BK290 HB; have HO_9 := n0_; have HO_11 := n1_; have HO_12 := n2_; have HO_127 := n3_; have BK290 := n4_; have HB := n5_; clear n0_ n1_ n2_ n3_ n4_ n5_; (try (obtain ⟨hy68_, hz68_⟩ := Kd.R_celln 0 HO_12.out (x129_5 : Int) (of_decide_eq_true (by first | (with_reducible assumption) | assumption)) (of_decide_eq_true (by first | (with_reducible assumption) | assumption)))); (try (have HP68 := Kd.R_putg HO_12.out (x129_5 : Int) (Go.bits .xor .i64 (rd x12_5 x129_5) (rd x15_3 x129_5)))))); refine store_event (t := 3) (p := 147) (v := ?vo_w69) (w1 := (w66.setCell ⟨go63, (x129_5 : Int).toNat, none⟩ (.int .i64 (Go.bits .xor .i64 (rd x12_5 x129_5) (rd x15_3 x129_5))))) ?hg ?ho ?hn ?hr ?_; (case ho => rfl); (case hg => rfl); (case hn => rfl); (case hr => first | (go_simp; done) | (go_simp; rfl)); intro w69 hw; have hg : w66.grownBy w69 (some go63) := (by rw [hw]; exact HP68.2); have hp_ : Kd.R (Kd.int .i64) 3 w69 w.heap.size (fun k_ => some k_ ≠ (.slice (some ad322) x15_3.length co56 : Value).ownBlock ∧ some k_ ≠ (.slice (some ⟨go61, 0, none⟩) x11_5.length co64 : Value).ownBlock) (.slice (some ⟨go63, 0, none⟩) x12_5.length co67) y326 := (by rw [hw, Ny326.out]; exact HP68.1); clear HP68; have n0_ := Aside0.mk (Kd.S_after (v := (.slice (some ⟨go63, 0, none⟩) x12_5.length co67)) (v1 := (.slice (some ⟨go63, 0, none⟩) x12_5.length co67)) (ok := (fun k_ => some k_ ≠ (.slice (some ⟨go61, 0, none⟩) x11_5.length co64 : Value).ownBlock ∧ some k_ ≠ (.slice (some ad322) x15_3.length co56 : Value).ownBlock)) (by (with_reducible repeat (first | apply Kd.S_alloc | apply Kd.S_drewN | apply Kd.S_drew)); exact Kd.S_mono HO_9.out (fun _ hk => ⟨⟨hk.2, hk.1.2⟩, hk.1.1⟩)) hg (.inl rfl)); have n1_ := Aside0.mk (Kd.R_after (v := (.slice (some ⟨go63, 0, none⟩) x12_5.length co67)) (v1 := (.slice (some ⟨go63, 0, none⟩) x12_5.length co67)) (ok := (fun k_ => some k_ ≠ (.slice (some ad322) x15_3.length co56 : Value).ownBlock)) (by (with_reducible repeat (first | apply Kd.R_alloc | apply Kd.R_drewN | apply Kd.R_drew)); exact Kd.R_mono HO_11.out (fun _ hk => ⟨hk.2, hk.1⟩)) hg (.inl rfl)); have n2_ := Aside0.mk (hp_); have n3_ := Aside0.mk (Kd.R_after (v := (.slice (some ⟨go63, 0, none⟩) x12_5.length co67)) (v1 := (.slice (some ⟨go63, 0, none⟩) x12_5.length co67)) (ok := (fun k_ => some k_ ≠ (.slice (some ⟨go61, 0, none⟩) x11_5.length co64 : Value).ownBlock)) (by (with_reducible repeat (first | apply Kd.R_alloc | apply Kd.R_drewN | apply Kd.R_drew)); exact Kd.R_mono HO_127.out (fun _ hk => ⟨hk.2, hk.1⟩)) hg (.inl rfl)); have n4_ := Aside0.mk (blk_grown (g := gb290) (o := .cells #[.slice none 0 0, .slice none 0 0] 38 (0, 0)) (by (with_reducible repeat (first | refine blk_drewN ?_ _ | refine blk_drew ?_ | refine blk_alloc ?_ _)); exact BK290.out) hg (Kd.R_ne HO_12.out BK290.out (by decide))); have n5_ := Aside0.mk ((by rw [hw]; exact below_set (HB.out) GB63.out : Below w.heap.size w w69)); clear HO_9; clear HO_11; clear HO_12; clear HO_127; clear BK290; clear HB; have HO_9 := n0_; have HO_11 := n1_; have HO_12 := n2_; have HO_127 := n3_; have BK290 := n4_; have HB := n5_; clear n0_ n1_ n2_ n3_ n4_ n5_; clear hg hw hp_)); try go_wp2_with (first | ((with_reducible refine gate_store (t := 3) (p := 140) rfl ?_); (try (rw [drewN_self wr]; generalize hq_ : World.drewN wr _ = wr; have n0_ := Aside0.mk (Kd.S_at hq_ HO_9.out); have n1_ := Aside0.mk (Kd.R_at hq_ HO_11.out); have n2_ := Aside0.mk (Kd.R_at hq_ HO_12.out); have n3_ := Aside0.mk (Kd.R_at hq_ HO_127.out); have n4_ := Aside0.mk (blk_at hq_ BK290.out); have n5_ := Aside0.mk (below_at hq_ HB.out); clear hq_ HO_9 HO_11 HO_12 HO_127 BK290 HB; have HO_9 := n0_; have HO_11 := n1_; have HO_12 := n2_; have HO_127 := n3_; have BK290 := n4_; have HB := n5_; clear n0_ n1_ n2_ n3_ n4_ n5_; (try (have HP65 := Kd.R_putg HO_11.out (x129_5 : Int) (Go.bits .xor .i64 (rd x11_5 x129_5) (rd x15_3 x129_5)))))); refine store_event (t := 3) (p := 140) (v := ?vo_w66) (w1 := (wr.setCell ⟨go61, (x129_5 : Int).toNat, none⟩ (.int .i64 (Go.bits .xor .i64 (rd x11_5 x129_5) (rd x15_3 x129_5))))) ?hg ?ho ?hn ?hr ?_; (case ho => rfl); (case hg => rfl); (case hn => rfl); (case hr => first | (go_simp; done) | (go_simp; rfl)); intro w66 hw; have hg : wr.grownBy w66 (some go61) := (by rw [hw]; exact HP65.2); have hp_ : Kd.R (Kd.int .i64) 3 w66 w.heap.size (fun k_ => some k_ ≠ (v300 : Value).ownBlock ∧ some k_ ≠ (.slice (some ad322) x15_3.length co56 : Value).ownBlock) (.slice (some ⟨go61, 0, none⟩) x11_5.length co64) y324 := (by rw [hw, Ny324.out]; exact HP65.1); clear HP65; have n0_ := Aside0.mk (Kd.S_after (v := (.slice (some ⟨go61, 0, none⟩) x11_5.length co64)) (v1 := (.slice (some ⟨go61, 0, none⟩) x11_5.length co64)) (ok := (fun k_ => some k_ ≠ (v300 : Value).ownBlock ∧ some k_ ≠ (.slice (some ad322) x15_3.length co56 : Value).ownBlock)) (by (with_reducible repeat (first | apply Kd.S_alloc | apply Kd.S_drewN | apply Kd.S_drew)); exact Kd.S_mono HO_9.out (fun _ hk => ⟨⟨hk.2.1, hk.2.2⟩, hk.1⟩)) hg (.inl rfl)); have n1_ := Aside0.mk (hp_); have n2_ := Aside0.mk (Kd.R_after (v := (.slice (some ⟨go61, 0, none⟩) x11_5.length co64)) (v1 := (.slice (some ⟨go61, 0, none⟩) x11_5.length co64)) (ok := (fun k_ => some k_ ≠ (.slice (some ad322) x15_3.length co56 : Value).ownBlock)) (by (with_reducible repeat (first | apply Kd.R_alloc | apply Kd.R_drewN | apply Kd.R_drew)); exact Kd.R_mono HO_12.out (fun _ hk => ⟨hk.2, hk.1⟩)) hg (.inl rfl)); have n3_ := Aside0.mk (Kd.R_after (v := (.slice (some ⟨go61, 0, none⟩) x11_5.length co64)) (v1 := (.slice (some ⟨go61, 0, none⟩) x11_5.length co64)) (ok := (fun k_ => some k_ ≠ (v300 : Value).ownBlock)) (by (with_reducible repeat (first | apply Kd.R_alloc | apply Kd.R_drewN | apply Kd.R_drew)); exact Kd.R_mono HO_127.out (fun _ hk => ⟨hk.2, hk.1⟩)) hg (.inl rfl)); have n4_ := Aside0.mk (blk_grown (g := gb290) (o := .cells #[.slice none 0 0, .slice none 0 0] 38 (0, 0)) (by (with_reducible repeat (first | refine blk_drewN ?_ _ | refine blk_drew ?_ | refine blk_alloc ?_ _)); exact BK290.out) hg (Kd.R_ne HO_11.out BK290.out (by decide))); have n5_ := Aside0.mk ((by rw [hw]; exact below_set (HB.out) GB61.out : Below w.heap.size w w66)); clear HO_9; clear HO_11; clear HO_12; clear HO_127; clear BK290; clear HB; have HO_9 := n0_; have HO_11 := n1_; have HO_12 := n2_; have HO_127 := n3_; have BK290 := n4_; have HB := n5_; clear n0_ n1_ n2_ n3_ n4_ n5_; clear hg hw hp_; obtain ⟨Ao67, co67, eo67⟩ := Kd.R_slice HO_12.out; subst eo67; have p325 : 0 ≤ (x129_5 : Int) := of_decide_eq_true (by first | (with_reducible assumption) | assumption); have q325 : x129_5 < (x12_5.length : Int) := of_decide_eq_true (by first | (with_reducible assumption) | assumption); obtain ⟨ad325, e325, hx325_0⟩ := Kd.at_int (Kd.R_reads' HO_12.out).2.2 x129_5 p325 q325; cases e325; replace p325 := eq_true p325; replace q325 := eq_true q325; have p63 : 0 ≤ (x129_5 : Int) := of_decide_eq_true (by first | (with_reducible assumption) | assumption); have q63 : (x129_5 : Int) < ((x12_5.length : Int) : Int) := of_decide_eq_true (by first | (with_reducible assumption) | assumption); obtain ⟨go63, co63, eo63, gb63, gl63, cl63, HG63⟩ := Kd.R_form HO_12.out (by omega); (first | cases eo63 | (injection eo63 with ea_ en_ ec_; (first | subst ea_ | (injection ea_ with ea_; subst ea_)); subst ec_; clear en_)); have GB63 := Aside0.mk gb63; have GG63 := Aside0.mk HG63; clear gb63 gl63 HG63; (first | simp only [add_plain] at hx325_0 | skip); obtain ⟨hx63_0, hf63_0⟩ := Kd.R_celln 0 HO_12.out (x129_5 : Int) p63 q63; replace p63 := eq_true p63; replace q63 := eq_true q63; obtain ⟨hy68_, hz68_⟩ := Kd.R_celln 0 HO_12.out (x129_5 : Int) (of_decide_eq_true (by first | (with_reducible assumption) | assumption)) (of_decide_eq_true (by first | (with_reducible assumption) | assumption)); have HP68 := Kd.R_putg HO_12.out (x129_5 : Int) (Go.bits .xor .i64 (rd x12_5 x129_5) (rd x15_3 x129_5))) | ((with_reducible refine gate_store (t := 3) (p := 147) rfl ?_); (try (rw [drewN_self w66]; generalize hq_ : World.drewN w66 _ = w66; have n0_ := Aside0.mk (Kd.S_at hq_ HO_9.out); have n1_ := Aside0.mk (Kd.R_at hq_ HO_11.out); have n2_ := Aside0.mk (Kd.R_at hq_ HO_12.out); have n3_ := Aside0.mk (Kd.R_at hq_ HO_127.out); have n4_ := Aside0.mk (blk_at hq_ BK290.out); have n5_ := Aside0.mk (below_at hq_ HB.out); clear hq_ HO_9 HO_11 HO_12 HO_127 BK290 HB; have HO_9 := n0_; have HO_11 := n1_; have HO_12 := n2_; have HO_127 := n3_; have BK290 := n4_; have HB := n5_; clear n0_ n1_ n2_ n3_ n4_ n5_; (try (obtain ⟨hy68_, hz68_⟩ := Kd.R_celln 0 HO_12.out (x129_5 : Int) (of_decide_eq_true (by first | (with_reducible assumption) | assumption)) (of_decide_eq_true (by first | (with_reducible assumption) | assumption)))); (try (have HP68 := Kd.R_putg HO_12.out (x129_5 : Int) (Go.bits .xor .i64 (rd x12_5 x129_5) (rd x15_3 x129_5)))))); refine store_event (t := 3) (p := 147) (v := ?vo_w69) (w1 := (w66.setCell ⟨go63, (x129_5 : Int).toNat, none⟩ (.int .i64 (Go.bits .xor .i64 (rd x12_5 x129_5) (rd x15_3 x129_5))))) ?hg ?ho ?hn ?hr ?_; (case ho => rfl); (case hg => rfl); (case hn => rfl); (case hr => first | (go_simp; done) | (go_simp; rfl)); intro w69 hw; have hg : w66.grownBy w69 (some go63) := (by rw [hw]; exact HP68.2); have hp_ : Kd.R (Kd.int .i64) 3 w69 w.heap.size (fun k_ => some k_ ≠ (.slice (some ad322) x15_3.length co56 : Value).ownBlock ∧ some k_ ≠ (.slice (some ⟨go61, 0, none⟩) x11_5.length co64 : Value).ownBlock) (.slice (some ⟨go63, 0, none⟩) x12_5.length co67) y326 := (by rw [hw, Ny326.out]; exact HP68.1); clear HP68; have n0_ := Aside0.mk (Kd.S_after (v := (.slice (some ⟨go63, 0, none⟩) x12_5.length co67)) (v1 := (.slice (some ⟨go63, 0, none⟩) x12_5.length co67)) (ok := (fun k_ => some k_ ≠ (.slice (some ⟨go61, 0, none⟩) x11_5.length co64 : Value).ownBlock ∧ some k_ ≠ (.slice (some ad322) x15_3.length co56 : Value).ownBlock)) (by (with_reducible repeat (first | apply Kd.S_alloc | apply Kd.S_drewN | apply Kd.S_drew)); exact Kd.S_mono HO_9.out (fun _ hk => ⟨⟨hk.2, hk.1.2⟩, hk.1.1⟩)) hg (.inl rfl)); have n1_ := Aside0.mk (Kd.R_after (v := (.slice (some ⟨go63, 0, none⟩) x12_5.length co67)) (v1 := (.slice (some ⟨go63, 0, none⟩) x12_5.length co67)) (ok := (fun k_ => some k_ ≠ (.slice (some ad322) x15_3.length co56 : Value).ownBlock)) (by (with_reducible repeat (first | apply Kd.R_alloc | apply Kd.R_drewN | apply Kd.R_drew)); exact Kd.R_mono HO_11.out (fun _ hk => ⟨hk.2, hk.1⟩)) hg (.inl rfl)); have n2_ := Aside0.mk (hp_); have n3_ := Aside0.mk (Kd.R_after (v := (.slice (some ⟨go63, 0, none⟩) x12_5.length co67)) (v1 := (.slice (some ⟨go63, 0, none⟩) x12_5.length co67)) (ok := (fun k_ => some k_ ≠ (.slice (some ⟨go61, 0, none⟩) x11_5.length co64 : Value).ownBlock)) (by (with_reducible repeat (first | apply Kd.R_alloc | apply Kd.R_drewN | apply Kd.R_drew)); exact Kd.R_mono HO_127.out (fun _ hk => ⟨hk.2, hk.1⟩)) hg (.inl rfl)); have n4_ := Aside0.mk (blk_grown (g := gb290) (o := .cells #[.slice none 0 0, .slice none 0 0] 38 (0, 0)) (by (with_reducible repeat (first | refine blk_drewN ?_ _ | refine blk_drew ?_ | refine blk_alloc ?_ _)); exact BK290.out) hg (Kd.R_ne HO_12.out BK290.out (by decide))); have n5_ := Aside0.mk ((by rw [hw]; exact below_set (HB.out) GB63.out : Below w.heap.size w w69)); clear HO_9; clear HO_11; clear HO_12; clear HO_127; clear BK290; clear HB; have HO_9 := n0_; have HO_11 := n1_; have HO_12 := n2_; have HO_127 := n3_; have BK290 := n4_; have HB := n5_; clear n0_ n1_ n2_ n3_ n4_ n5_; clear hg hw hp_)))
                           go_roundg k5
                           case measure => have := HJ3.out; have := HK2.out; have := HK3.out; have := HJ29.out; have := HK5.out; omega
                           case rel => exact ⟨(y324), (y326), (wrap64 (x129_5 + 1)), (by first | rfl | (simp; done) | (simp [*]; done)), H', ⟨by have := HJ3.out; have := HK2.out; have := HK3.out; have := HJ29.out; have := HK5.out; omega⟩, ⟨by (with_reducible repeat (first | apply Kd.S_alloc | apply Kd.S_drewN | apply Kd.S_drew)); exact Kd.S_mono HO_9.out (fun _ hk => ⟨hk.1.1, ⟨hk.2, hk.1.2⟩⟩)⟩, ⟨by (with_reducible repeat (first | apply Kd.R_alloc | apply Kd.R_drewN | apply Kd.R_drew)); exact Kd.R_mono HO_11.out (fun _ hk => ⟨hk.2, hk.1⟩)⟩, ⟨by (with_reducible repeat (first | apply Kd.R_alloc | apply Kd.R_drewN | apply Kd.R_drew)); exact Kd.R_mono HO_12.out (fun _ hk => ⟨hk.2, hk.1⟩)⟩, ⟨by (with_reducible repeat (first | apply Kd.R_alloc | apply Kd.R_drewN | apply Kd.R_drew)); exact HO_127.out⟩, ⟨by (with_reducible repeat (first | refine blk_drewN ?_ _ | refine blk_drew ?_ | refine blk_alloc ?_ _)); exact BK290.out⟩, ⟨by repeat (first | (with_reducible first | exact HB.out | apply below_alloc | apply pw_below_drewN | apply below_drew1 | refine below_set ?_ GE290.out) | exact HB.out)⟩⟩
                          ·rw [if_neg c62] at H
                           exact absurd H (by simp)
                         ·rw [if_neg c60] at H
                          exact absurd H (by simp)
                        ·rw [if_neg c59] at H
                         exact absurd H (by simp)
                       ·rw [if_neg c58] at H
                        exact absurd H (by simp)
                      ·rw [if_neg c57] at H
                       have c57b0 : decide (x129_5 < (x15_3.length : Int)) = false := decide_eq_false c57
                       clear c57
                       have H' := Aside0.mk H
                       clear H
                       go_wp2
                       repeat (go_quiet (fail); try go_wp2)
                       go_roundg k5
                       case measure => have := HJ3.out; have := HK2.out; have := HK3.out; have := HJ29.out; have := HK5.out; omega
                       case rel => exact ⟨(x11_5), (x12_5), (x13_3), (by first | rfl | (simp; done) | (simp [*]; done)), H', ⟨by have := HJ3.out; have := HK2.out; have := HK3.out; have := HJ29.out; have := HK5.out; omega⟩, ⟨by (with_reducible repeat (first | apply Kd.S_alloc | apply Kd.S_drewN | apply Kd.S_drew)); exact Kd.S_mono HO_9.out (fun _ hk => ⟨hk.1, hk.2.1⟩)⟩, ⟨by (with_reducible repeat (first | apply Kd.R_alloc | apply Kd.R_drewN | apply Kd.R_drew)); exact Kd.R_mono HO_11.out (fun _ hk => hk.1)⟩, ⟨by (with_reducible repeat (first | apply Kd.R_alloc | apply Kd.R_drewN | apply Kd.R_drew)); exact Kd.R_mono HO_12.out (fun _ hk => hk.1)⟩, ⟨by (with_reducible repeat (first | refine blk_drewN ?_ _ | refine blk_drew ?_ | refine blk_alloc ?_ _)); exact BK290.out⟩, ⟨by repeat (first | (with_reducible first | exact HB.out | apply below_alloc | apply pw_below_drewN | apply below_drew1 | refine below_set ?_ GE290.out) | exact HB.out)⟩⟩
              ·rw [if_neg c27] at H
               exact absurd H (by simp)
             ·rw [if_neg c26] at H
              exact absurd H (by simp)
            ·rw [if_neg c25] at H
             exact absurd H (by simp)
           ·rw [if_neg c24] at H
            exact absurd H (by simp)
          ·rw [if_neg c22] at H
           have c22b0 : decide (0 < x13_2) = false := decide_eq_false c22
           clear c22
           replace H := Option.bind_eq_some_iff.mp H
           obtain ⟨⟨t302, t305⟩, A700, H⟩ := H
           replace H : (if 0 ≤ (wrap64 (a1 - a0)) then (if (t305.length : Int) > (wrap64 (Int.tdiv (wrap64 ((shl .i64 1 (wrap64 (a1 - a0))) - 1)) 2)) then (some (([] : List Int), ([] : List Int), 12)) else (some (t302, t305, 0))) else (none)) = some (r1, r2, r3) := H
           have A70 := Aside0.mk A700
           clear A700
           obtain ⟨ji71, hji71⟩ : ∃ j_ : Int, (wrap64 (a1 - a0)) = j_ := ⟨_, rfl⟩
           replace H : (if 0 ≤ (ji71) then (if (t305.length : Int) > (wrap64 (Int.tdiv (wrap64 ((shl .i64 1 (ji71)) - 1)) 2)) then (some (([] : List Int), ([] : List Int), 12)) else (some (t302, t305, 0))) else (none)) = some (r1, r2, r3) := by first | (rw [hji71] at H; exact H) | (simp only [hji71] at H ⊢; exact H)
           (try rw [hji71] at A70)
           have hji71w : (IntKind.i64.wrap (a1 - a0)) = ji71 := (i64_w _).trans hji71
           by_cases c72 : 0 ≤ (ji71)
           ·rw [if_pos c72] at H
            have c72b0 := eq_true c72
            have c72b1 : decide (0 ≤ (ji71)) = true := decide_eq_true c72
            clear c72
            obtain ⟨ji73, hji73⟩ : ∃ j_ : Int, (shl .i64 1 (ji71)) = j_ := ⟨_, rfl⟩
            replace H : (if (t305.length : Int) > (wrap64 (Int.tdiv (wrap64 ((ji73) - 1)) 2)) then (some (([] : List Int), ([] : List Int), 12)) else (some (t302, t305, 0))) = some (r1, r2, r3) := by first | (rw [hji73] at H; exact H) | (simp only [hji73] at H ⊢; exact H)
            (try rw [hji73] at A70)
            have hji73_ : (IntKind.i64.wrap (1 * 2 ^ min (ji71).toNat 64)) = ji73 := hji73
            have hji73z : (ji71) ≤ 64 → (IntKind.i64.wrap (1 * 2 ^ (ji71).toNat)) = ji73 := shl_small hji73
            have hji73u : (IntKind.i64.wrap (2 ^ min (ji71).toNat 64)) = ji73 := by have h_ := hji73_; rw [Int.one_mul] at h_; exact h_
            have hji73v : (ji71) ≤ 64 → (IntKind.i64.wrap (2 ^ (ji71).toNat)) = ji73 := fun hle_ => by have h_ := hji73z hle_; rw [Int.one_mul] at h_; exact h_
            have hji73y : (wrap64 (1 * 2 ^ min (ji71).toNat 64)) = ji73 := (i64_w _).symm.trans hji73_
            have hji73x : (ji71) ≤ 64 → (wrap64 (1 * 2 ^ (ji71).toNat)) = ji73 := fun h_ => (i64_w _).symm.trans (hji73z h_)
            by_cases c74 : (t305.length : Int) > (wrap64 (Int.tdiv (wrap64 ((ji73) - 1)) 2))
            ·rw [if_pos c74] at H
             have c74b0 : decide ((wrap64 (Int.tdiv (wrap64 ((ji73) - 1)) 2)) < (t305.length : Int)) = true := decide_eq_true c74
             clear c74
             simp only [Option.some.injEq, Prod.mk.injEq] at H
             obtain ⟨rfl, rfl, rfl⟩ := H
             obtain ⟨Ao75, co75, eo75⟩ := Kd.R_slice HO_12.out
             subst eo75
             go_wp2_with (first | (go_at_call 41; (with_reducible refine (majority_decoded.calls (fun k_ => some k_ = (.slice Ao75 x12_2.length co75 : Value).ownBlock) (.slice Ao75 x12_2.length co75) x12_2 _ _ l2 t302 t305 w _ ?side1 ?side2 ?side3 ?side4 A70.out).mono ?_); (case side1 => repeat (first | (with_reducible first | exact HB.out | apply below_alloc | apply pw_below_drewN | apply below_drew1 | refine below_set ?_ GE290.out) | exact HB.out)); (case side2 => exact Kd.R_tight rfl HO_12.out); (case side3 => exact Kd.C_kept_came (Kd.heap_int .i64) HR2.out (by repeat (first | (with_reducible first | exact HB.out | apply below_alloc | apply pw_below_drewN | apply below_drew1 | refine below_set ?_ GE290.out) | exact HB.out)) (fun k_ hs_ => (fun e_ => Kd.R_base HO_12.out k_ e_.symm) hs_)); (case side4 => exact HC2.out); rintro e w76 ⟨v303, v306, rfl, ho0, ho1, hb, hkp⟩; have n0_ := Aside0.mk (Kd.S_mono (ok' := fun k_ => some k_ ≠ (v297 : Value).ownBlock ∧ some k_ ≠ (v303 : Value).ownBlock ∧ some k_ ≠ (v306 : Value).ownBlock) (Kd.S_keptB (HO_9.out) hkp (fun k_ hk_ hs_ => (hk_.2) hs_)) (fun k_ hk_ => ⟨hk_.1.1, fun e_ => Or.elim (ho0.1 k_ e_.symm).1 (fun hs_ => hk_.2.1 hs_) (fun hn_ => Nat.not_le.2 hk_.2.2 hn_), fun e_ => Or.elim (ho1.1 k_ e_.symm).1 (fun hs_ => hk_.2.1 hs_) (fun hn_ => Nat.not_le.2 hk_.2.2 hn_)⟩)); have n1_ := Aside0.mk (Kd.R_mono (ok' := fun k_ => some k_ ≠ (v303 : Value).ownBlock ∧ some k_ ≠ (v306 : Value).ownBlock) (Kd.R_keptB (HO_11.out) hkp (fun k_ hk_ hs_ => (hk_) hs_)) (fun k_ hk_ => ⟨fun e_ => Or.elim (ho0.1 k_ e_.symm).1 (fun hs_ => hk_.2.1 hs_) (fun hn_ => Nat.not_le.2 hk_.2.2 hn_), fun e_ => Or.elim (ho1.1 k_ e_.symm).1 (fun hs_ => hk_.2.1 hs_) (fun hn_ => Nat.not_le.2 hk_.2.2 hn_)⟩)); have n2_ := Aside0.mk (blk_kept (by (with_reducible repeat (first | refine blk_drewN ?_ _ | refine blk_drew ?_ | refine blk_alloc ?_ _)); exact BK290.out) hkp (fun hs_ => (fun e_ => (Kd.R_ne HO_12.out BK290.out (by decide)) e_) hs_)); have n3_ := Aside0.mk (Kd.R_mono (ok' := fun k_ => some k_ ≠ (v306 : Value).ownBlock ∧ some k_ ≠ (v297 : Value).ownBlock) ho0 (fun k_ hk_ => ⟨hk_.2, Or.elim hk_.1 (fun hs_ => fun e_ => (((HO_11.out).1 k_ e_.symm)) hs_) (fun hn_ => (Kd.fresh' (Kd.R_lt (by (with_reducible repeat (first | apply Kd.R_alloc | apply Kd.R_drewN | apply Kd.R_drew)); exact HO_11.out)) k_ hn_))⟩)); have n4_ := Aside0.mk (Kd.R_mono (ok' := fun k_ => some k_ ≠ (v303 : Value).ownBlock ∧ some k_ ≠ (v297 : Value).ownBlock) ho1 (fun k_ hk_ => ⟨hk_.2, Or.elim hk_.1 (fun hs_ => fun e_ => (((HO_11.out).1 k_ e_.symm)) hs_) (fun hn_ => (Kd.fresh' (Kd.R_lt (by (with_reducible repeat (first | apply Kd.R_alloc | apply Kd.R_drewN | apply Kd.R_drew)); exact HO_11.out)) k_ hn_))⟩)); have n5_ := Aside0.mk (hb); clear HO_9; clear HO_11; clear BK290; clear HB; clear HO_12; have HO_9 := n0_; have HO_11 := n1_; have BK290 := n2_; have HO304 := n3_; have HO307 := n4_; have HB := n5_; clear n0_ n1_ n2_ n3_ n4_ n5_; (try clear hb); (try clear hkp); (try clear ho0); (try clear ho1)) | ((with_reducible refine gate_dst (N := 24) rfl ?_); (try (refine gate_guard (by rfl) ?_; dsimp only)); refine box_event ?hg (N := 24) ?hd (cs := #[.slice none 0 0, .slice none 0 0]) (t := 38) ?hr ?_; (case hd => rfl); (case hg => rfl); (case hr => first | (go_simp; done) | (go_simp; rfl)); intro gb308 hg w77 hbox hb; have n0_ := Aside0.mk (Kd.S_below (by (with_reducible repeat (first | apply Kd.S_alloc | apply Kd.S_drewN | apply Kd.S_drew)); exact HO_9.out) hb); have n1_ := Aside0.mk (Kd.R_below (by (with_reducible repeat (first | apply Kd.R_alloc | apply Kd.R_drewN | apply Kd.R_drew)); exact HO_11.out) hb); have n2_ := Aside0.mk (Kd.R_below (by (with_reducible repeat (first | apply Kd.R_alloc | apply Kd.R_drewN | apply Kd.R_drew)); exact HO304.out) hb); have n3_ := Aside0.mk (Kd.R_below (by (with_reducible repeat (first | apply Kd.R_alloc | apply Kd.R_drewN | apply Kd.R_drew)); exact HO307.out) hb); have n4_ := Aside0.mk (blk_below (g := gb290) (o := .cells #[.slice none 0 0, .slice none 0 0] 38 (0, 0)) (by (with_reducible repeat (first | refine blk_drewN ?_ _ | refine blk_drew ?_ | refine blk_alloc ?_ _)); exact BK290.out) hb); have n5_ := Aside0.mk (below_step (by repeat (first | (with_reducible first | exact HB.out | apply below_alloc | apply pw_below_drewN | apply below_drew1 | refine below_set ?_ GE290.out) | exact HB.out)) hb); have n6_ := Aside0.mk (hbox); have n7_ := Aside0.mk ((by rw [hg]; exact (below_size (by repeat (first | (with_reducible first | exact HB.out | apply below_alloc | apply pw_below_drewN | apply below_drew1 | refine below_set ?_ GE290.out) | exact HB.out))) : w.heap.size ≤ gb308)); have n8_ := Aside0.mk ((by rw [hg]; exact (below_size (by repeat (first | (with_reducible first | exact HB.out | apply below_alloc | apply pw_below_drewN | apply below_drew1 | refine below_set ?_ GE290.out) | exact HB.out))) : w.heap.size ≤ gb308)); have n9_ := Aside0.mk ((by rw [hg]; exact Nat.ne_of_lt (blk_lt (g := gb290) (o := .cells #[.slice none 0 0, .slice none 0 0] 38 (0, 0)) (by (with_reducible repeat (first | refine blk_drewN ?_ _ | refine blk_drew ?_ | refine blk_alloc ?_ _)); exact BK290.out)) : gb290 ≠ gb308)); have n10_ := Aside0.mk ((by rw [hg]; exact Nat.ne_of_gt (blk_lt (g := gb290) (o := .cells #[.slice none 0 0, .slice none 0 0] 38 (0, 0)) (by (with_reducible repeat (first | refine blk_drewN ?_ _ | refine blk_drew ?_ | refine blk_alloc ?_ _)); exact BK290.out)) : gb308 ≠ gb290)); clear HO_9; clear HO_11; clear HO304; clear HO307; clear BK290; clear HB; have HO_9 := n0_; have HO_11 := n1_; have HO304 := n2_; have HO307 := n3_; have BK290 := n4_; have HB := n5_; have BK308 := n6_; have GW308 := n7_; have GE308 := n8_; have NB290_308 := n9_; have NB308_290 := n10_; clear n0_ n1_ n2_ n3_ n4_ n5_ n6_ n7_ n8_ n9_ n10_; clear hb hbox hg; obtain ⟨Ao78, co78, eo78⟩ := Kd.R_slice HO304.out; subst eo78; have hnb79 := NB308_290.out; have hnc79 := NB290_308.out; have hcz80_0 : w77.cell? ⟨gb308, 0, none⟩ = some (.slice none 0 0) := (blk_cell BK308.out 0).trans rfl; have hcz80_1 : w77.cell? ⟨gb308, 1, none⟩ = some (.slice none 0 0) := (blk_cell BK308.out 1).trans rfl; have hfz80_0 := blk_frozen BK308.out 0; have hfz80_1 := blk_frozen BK308.out 1; obtain ⟨Ao81, co81, eo81⟩ := Kd.R_slice HO307.out; subst eo81; have hcz82_0 : w77.cell? ⟨gb290, 0, none⟩ = some (.slice none 0 0) := (blk_cell BK290.out 0).trans rfl; have hcz82_1 : w77.cell? ⟨gb290, 1, none⟩ = some (.slice none 0 0) := (blk_cell BK290.out 1).trans rfl; have hfz82_0 := blk_frozen BK290.out 0; have hfz82_1 := blk_frozen BK290.out 1))
             repeat (go_quiet (first | (go_at_call 41; (with_reducible refine (majority_decoded.calls (fun k_ => some k_ = (.slice Ao75 x12_2.length co75 : Value).ownBlock) (.slice Ao75 x12_2.length co75) x12_2 _ _ l2 t302 t305 w _ ?side1 ?side2 ?side3 ?side4 A70.out).mono ?_); (case side1 => repeat (first | (with_reducible first | exact HB.out | apply below_alloc | apply pw_below_drewN | apply below_drew1 | refine below_set ?_ GE290.out) | exact HB.out)); (case side2 => exact Kd.R_tight rfl HO_12.out); (case side3 => exact Kd.C_kept_came (Kd.heap_int .i64) HR2.out (by repeat (first | (with_reducible first | exact HB.out | apply below_alloc | apply pw_below_drewN | apply below_drew1 | refine below_set ?_ GE290.out) | exact HB.out)) (fun k_ hs_ => (fun e_ => Kd.R_base HO_12.out k_ e_.symm) hs_)); (case side4 => exact HC2.out); rintro e w76 ⟨v303, v306, rfl, ho0, ho1, hb, hkp⟩; have n0_ := Aside0.mk (Kd.S_mono (ok' := fun k_ => some k_ ≠ (v297 : Value).ownBlock ∧ some k_ ≠ (v303 : Value).ownBlock ∧ some k_ ≠ (v306 : Value).ownBlock) (Kd.S_keptB (HO_9.out) hkp (fun k_ hk_ hs_ => (hk_.2) hs_)) (fun k_ hk_ => ⟨hk_.1.1, fun e_ => Or.elim (ho0.1 k_ e_.symm).1 (fun hs_ => hk_.2.1 hs_) (fun hn_ => Nat.not_le.2 hk_.2.2 hn_), fun e_ => Or.elim (ho1.1 k_ e_.symm).1 (fun hs_ => hk_.2.1 hs_) (fun hn_ => Nat.not_le.2 hk_.2.2 hn_)⟩)); have n1_ := Aside0.mk (Kd.R_mono (ok' := fun k_ => some k_ ≠ (v303 : Value).ownBlock ∧ some k_ ≠ (v306 : Value).ownBlock) (Kd.R_keptB (HO_11.out) hkp (fun k_ hk_ hs_ => (hk_) hs_)) (fun k_ hk_ => ⟨fun e_ => Or.elim (ho0.1 k_ e_.symm).1 (fun hs_ => hk_.2.1 hs_) (fun hn_ => Nat.not_le.2 hk_.2.2 hn_), fun e_ => Or.elim (ho1.1 k_ e_.symm).1 (fun hs_ => hk_.2.1 hs_) (fun hn_ => Nat.not_le.2 hk_.2.2 hn_)⟩)); have n2_ := Aside0.mk (blk_kept (by (with_reducible repeat (first | refine blk_drewN ?_ _ | refine blk_drew ?_ | refine blk_alloc ?_ _)); exact BK290.out) hkp (fun hs_ => (fun e_ => (Kd.R_ne HO_12.out BK290.out (by decide)) e_) hs_)); have n3_ := Aside0.mk (Kd.R_mono (ok' := fun k_ => some k_ ≠ (v306 : Value).ownBlock ∧ some k_ ≠ (v297 : Value).ownBlock) ho0 (fun k_ hk_ => ⟨hk_.2, Or.elim hk_.1 (fun hs_ => fun e_ => (((HO_11.out).1 k_ e_.symm)) hs_) (fun hn_ => (Kd.fresh' (Kd.R_lt (by (with_reducible repeat (first | apply Kd.R_alloc | apply Kd.R_drewN | apply Kd.R_drew)); exact HO_11.out)) k_ hn_))⟩)); have n4_ := Aside0.mk (Kd.R_mono (ok' := fun k_ => some k_ ≠ (v303 : Value).ownBlock ∧ some k_ ≠ (v297 : Value).ownBlock) ho1 (fun k_ hk_ => ⟨hk_.2, Or.elim hk_.1 (fun hs_ => fun e_ => (((HO_11.out).1 k_ e_.symm)) hs_) (fun hn_ => (Kd.fresh' (Kd.R_lt (by (with_reducible repeat (first | apply Kd.R_alloc | apply Kd.R_drewN | apply Kd.R_drew)); exact HO_11.out)) k_ hn_))⟩)); have n5_ := Aside0.mk (hb); clear HO_9; clear HO_11; clear BK290; clear HB; clear HO_12; have HO_9 := n0_; have HO_11 := n1_; have BK290 := n2_; have HO304 := n3_; have HO307 := n4_; have HB := n5_; clear n0_ n1_ n2_ n3_ n4_ n5_; (try clear hb); (try clear hkp); (try clear ho0); (try clear ho1)) | ((with_reducible refine gate_dst (N := 24) rfl ?_); (try (refine gate_guard (by rfl) ?_; dsimp only)); refine box_event ?hg (N := 24) ?hd (cs := #[.slice none 0 0, .slice none 0 0]) (t := 38) ?hr ?_; (case hd => rfl); (case hg => rfl); (case hr => first | (go_simp; done) | (go_simp; rfl)); intro gb308 hg w77 hbox hb; have n0_ := Aside0.mk (Kd.S_below (by (with_reducible repeat (first | apply Kd.S_alloc | apply Kd.S_drewN | apply Kd.S_drew)); exact HO_9.out) hb); have n1_ := Aside0.mk (Kd.R_below (by (with_reducible repeat (first | apply Kd.R_alloc | apply Kd.R_drewN | apply Kd.R_drew)); exact HO_11.out) hb); have n2_ := Aside0.mk (Kd.R_below (by (with_reducible repeat (first | apply Kd.R_alloc | apply Kd.R_drewN | apply Kd.R_drew)); exact HO304.out) hb); have n3_ := Aside0.mk (Kd.R_below (by (with_reducible repeat (first | apply Kd.R_alloc | apply Kd.R_drewN | apply Kd.R_drew)); exact HO307.out) hb); have n4_ := Aside0.mk (blk_below (g := gb290) (o := .cells #[.slice none 0 0, .slice none 0 0] 38 (0, 0)) (by (with_reducible repeat (first | refine blk_drewN ?_ _ | refine blk_drew ?_ | refine blk_alloc ?_ _)); exact BK290.out) hb); have n5_ := Aside0.mk (below_step (by repeat (first | (with_reducible first | exact HB.out | apply below_alloc | apply pw_below_drewN | apply below_drew1 | refine below_set ?_ GE290.out) | exact HB.out)) hb); have n6_ := Aside0.mk (hbox); have n7_ := Aside0.mk ((by rw [hg]; exact (below_size (by repeat (first | (with_reducible first | exact HB.out | apply below_alloc | apply pw_below_drewN | apply below_drew1 | refine below_set ?_ GE290.out) | exact HB.out))) : w.heap.size ≤ gb308)); have n8_ := Aside0.mk ((by rw [hg]; exact (below_size (by repeat (first | (with_reducible first | exact HB.out | apply below_alloc | apply pw_below_drewN | apply below_drew1 | refine below_set ?_ GE290.out) | exact HB.out))) : w.heap.size ≤ gb308)); have n9_ := Aside0.mk ((by rw [hg]; exact Nat.ne_of_lt (blk_lt (g := gb290) (o := .cells #[.slice none 0 0, .slice none 0 0] 38 (0, 0)) (by (with_reducible repeat (first | refine blk_drewN ?_ _ | refine blk_drew ?_ | refine blk_alloc ?_ _)); exact BK290.out)) : gb290 ≠ gb308)); have n10_ := Aside0.mk ((by rw [hg]; exact Nat.ne_of_gt (blk_lt (g := gb290) (o := .cells #[.slice none 0 0, .slice none 0 0] 38 (0, 0)) (by (with_reducible repeat (first | refine blk_drewN ?_ _ | refine blk_drew ?_ | refine blk_alloc ?_ _)); exact BK290.out)) : gb308 ≠ gb290)); clear HO_9; clear HO_11; clear HO304; clear HO307; clear BK290; clear HB; have HO_9 := n0_; have HO_11 := n1_; have HO304 := n2_; have HO307 := n3_; have BK290 := n4_; have HB := n5_; have BK308 := n6_; have GW308 := n7_; have GE308 := n8_; have NB290_308 := n9_; have NB308_290 := n10_; clear n0_ n1_ n2_ n3_ n4_ n5_ n6_ n7_ n8_ n9_ n10_; clear hb hbox hg; obtain ⟨Ao78, co78, eo78⟩ := Kd.R_slice HO304.out; subst eo78; have hnb79 := NB308_290.out; have hnc79 := NB290_308.out; have hcz80_0 : w77.cell? ⟨gb308, 0, none⟩ = some (.slice none 0 0) := (blk_cell BK308.out 0).trans rfl; have hcz80_1 : w77.cell? ⟨gb308, 1, none⟩ = some (.slice none 0 0) := (blk_cell BK308.out 1).trans rfl; have hfz80_0 := blk_frozen BK308.out 0; have hfz80_1 := blk_frozen BK308.out 1; obtain ⟨Ao81, co81, eo81⟩ := Kd.R_slice HO307.out; subst eo81; have hcz82_0 : w77.cell? ⟨gb290, 0, none⟩ = some (.slice none 0 0) := (blk_cell BK290.out 0).trans rfl; have hcz82_1 : w77.cell? ⟨gb290, 1, none⟩ = some (.slice none 0 0) := (blk_cell BK290.out 1).trans rfl; have hfz82_0 := blk_frozen BK290.out 0; have hfz82_1 := blk_frozen BK290.out 1)); try go_wp2_with (first | (go_at_call 41; (with_reducible refine (majority_decoded.calls (fun k_ => some k_ = (.slice Ao75 x12_2.length co75 : Value).ownBlock) (.slice Ao75 x12_2.length co75) x12_2 _ _ l2 t302 t305 w _ ?side1 ?side2 ?side3 ?side4 A70.out).mono ?_); (case side1 => repeat (first | (with_reducible first | exact HB.out | apply below_alloc | apply pw_below_drewN | apply below_drew1 | refine below_set ?_ GE290.out) | exact HB.out)); (case side2 => exact Kd.R_tight rfl HO_12.out); (case side3 => exact Kd.C_kept_came (Kd.heap_int .i64) HR2.out (by repeat (first | (with_reducible first | exact HB.out | apply below_alloc | apply pw_below_drewN | apply below_drew1 | refine below_set ?_ GE290.out) | exact HB.out)) (fun k_ hs_ => (fun e_ => Kd.R_base HO_12.out k_ e_.symm) hs_)); (case side4 => exact HC2.out); rintro e w76 ⟨v303, v306, rfl, ho0, ho1, hb, hkp⟩; have n0_ := Aside0.mk (Kd.S_mono (ok' := fun k_ => some k_ ≠ (v297 : Value).ownBlock ∧ some k_ ≠ (v303 : Value).ownBlock ∧ some k_ ≠ (v306 : Value).ownBlock) (Kd.S_keptB (HO_9.out) hkp (fun k_ hk_ hs_ => (hk_.2) hs_)) (fun k_ hk_ => ⟨hk_.1.1, fun e_ => Or.elim (ho0.1 k_ e_.symm).1 (fun hs_ => hk_.2.1 hs_) (fun hn_ => Nat.not_le.2 hk_.2.2 hn_), fun e_ => Or.elim (ho1.1 k_ e_.symm).1 (fun hs_ => hk_.2.1 hs_) (fun hn_ => Nat.not_le.2 hk_.2.2 hn_)⟩)); have n1_ := Aside0.mk (Kd.R_mono (ok' := fun k_ => some k_ ≠ (v303 : Value).ownBlock ∧ some k_ ≠ (v306 : Value).ownBlock) (Kd.R_keptB (HO_11.out) hkp (fun k_ hk_ hs_ => (hk_) hs_)) (fun k_ hk_ => ⟨fun e_ => Or.elim (ho0.1 k_ e_.symm).1 (fun hs_ => hk_.2.1 hs_) (fun hn_ => Nat.not_le.2 hk_.2.2 hn_), fun e_ => Or.elim (ho1.1 k_ e_.symm).1 (fun hs_ => hk_.2.1 hs_) (fun hn_ => Nat.not_le.2 hk_.2.2 hn_)⟩)); have n2_ := Aside0.mk (blk_kept (by (with_reducible repeat (first | refine blk_drewN ?_ _ | refine blk_drew ?_ | refine blk_alloc ?_ _)); exact BK290.out) hkp (fun hs_ => (fun e_ => (Kd.R_ne HO_12.out BK290.out (by decide)) e_) hs_)); have n3_ := Aside0.mk (Kd.R_mono (ok' := fun k_ => some k_ ≠ (v306 : Value).ownBlock ∧ some k_ ≠ (v297 : Value).ownBlock) ho0 (fun k_ hk_ => ⟨hk_.2, Or.elim hk_.1 (fun hs_ => fun e_ => (((HO_11.out).1 k_ e_.symm)) hs_) (fun hn_ => (Kd.fresh' (Kd.R_lt (by (with_reducible repeat (first | apply Kd.R_alloc | apply Kd.R_drewN | apply Kd.R_drew)); exact HO_11.out)) k_ hn_))⟩)); have n4_ := Aside0.mk (Kd.R_mono (ok' := fun k_ => some k_ ≠ (v303 : Value).ownBlock ∧ some k_ ≠ (v297 : Value).ownBlock) ho1 (fun k_ hk_ => ⟨hk_.2, Or.elim hk_.1 (fun hs_ => fun e_ => (((HO_11.out).1 k_ e_.symm)) hs_) (fun hn_ => (Kd.fresh' (Kd.R_lt (by (with_reducible repeat (first | apply Kd.R_alloc | apply Kd.R_drewN | apply Kd.R_drew)); exact HO_11.out)) k_ hn_))⟩)); have n5_ := Aside0.mk (hb); clear HO_9; clear HO_11; clear BK290; clear HB; clear HO_12; have HO_9 := n0_; have HO_11 := n1_; have BK290 := n2_; have HO304 := n3_; have HO307 := n4_; have HB := n5_; clear n0_ n1_ n2_ n3_ n4_ n5_; (try clear hb); (try clear hkp); (try clear ho0); (try clear ho1)) | ((with_reducible refine gate_dst (N := 24) rfl ?_); (try (refine gate_guard (by rfl) ?_; dsimp only)); refine box_event ?hg (N := 24) ?hd (cs := #[.slice none 0 0, .slice none 0 0]) (t := 38) ?hr ?_; (case hd => rfl); (case hg => rfl); (case hr => first | (go_simp; done) | (go_simp; rfl)); intro gb308 hg w77 hbox hb; have n0_ := Aside0.mk (Kd.S_below (by (with_reducible repeat (first | apply Kd.S_alloc | apply Kd.S_drewN | apply Kd.S_drew)); exact HO_9.out) hb); have n1_ := Aside0.mk (Kd.R_below (by (with_reducible repeat (first | apply Kd.R_alloc | apply Kd.R_drewN | apply Kd.R_drew)); exact HO_11.out) hb); have n2_ := Aside0.mk (Kd.R_below (by (with_reducible repeat (first | apply Kd.R_alloc | apply Kd.R_drewN | apply Kd.R_drew)); exact HO304.out) hb); have n3_ := Aside0.mk (Kd.R_below (by (with_reducible repeat (first | apply Kd.R_alloc | apply Kd.R_drewN | apply Kd.R_drew)); exact HO307.out) hb); have n4_ := Aside0.mk (blk_below (g := gb290) (o := .cells #[.slice none 0 0, .slice none 0 0] 38 (0, 0)) (by (with_reducible repeat (first | refine blk_drewN ?_ _ | refine blk_drew ?_ | refine blk_alloc ?_ _)); exact BK290.out) hb); have n5_ := Aside0.mk (below_step (by repeat (first | (with_reducible first | exact HB.out | apply below_alloc | apply pw_below_drewN | apply below_drew1 | refine below_set ?_ GE290.out) | exact HB.out)) hb); have n6_ := Aside0.mk (hbox); have n7_ := Aside0.mk ((by rw [hg]; exact (below_size (by repeat (first | (with_reducible first | exact HB.out | apply below_alloc | apply pw_below_drewN | apply below_drew1 | refine below_set ?_ GE290.out) | exact HB.out))) : w.heap.size ≤ gb308)); have n8_ := Aside0.mk ((by rw [hg]; exact (below_size (by repeat (first | (with_reducible first | exact HB.out | apply below_alloc | apply pw_below_drewN | apply below_drew1 | refine below_set ?_ GE290.out) | exact HB.out))) : w.heap.size ≤ gb308)); have n9_ := Aside0.mk ((by rw [hg]; exact Nat.ne_of_lt (blk_lt (g := gb290) (o := .cells #[.slice none 0 0, .slice none 0 0] 38 (0, 0)) (by (with_reducible repeat (first | refine blk_drewN ?_ _ | refine blk_drew ?_ | refine blk_alloc ?_ _)); exact BK290.out)) : gb290 ≠ gb308)); have n10_ := Aside0.mk ((by rw [hg]; exact Nat.ne_of_gt (blk_lt (g := gb290) (o := .cells #[.slice none 0 0, .slice none 0 0] 38 (0, 0)) (by (with_reducible repeat (first | refine blk_drewN ?_ _ | refine blk_drew ?_ | refine blk_alloc ?_ _)); exact BK290.out)) : gb308 ≠ gb290)); clear HO_9; clear HO_11; clear HO304; clear HO307; clear BK290; clear HB; have HO_9 := n0_; have HO_11 := n1_; have HO304 := n2_; have HO307 := n3_; have BK290 := n4_; have HB := n5_; have BK308 := n6_; have GW308 := n7_; have GE308 := n8_; have NB290_308 := n9_; have NB308_290 := n10_; clear n0_ n1_ n2_ n3_ n4_ n5_ n6_ n7_ n8_ n9_ n10_; clear hb hbox hg; obtain ⟨Ao78, co78, eo78⟩ := Kd.R_slice HO304.out; subst eo78; have hnb79 := NB308_290.out; have hnc79 := NB290_308.out; have hcz80_0 : w77.cell? ⟨gb308, 0, none⟩ = some (.slice none 0 0) := (blk_cell BK308.out 0).trans rfl; have hcz80_1 : w77.cell? ⟨gb308, 1, none⟩ = some (.slice none 0 0) := (blk_cell BK308.out 1).trans rfl; have hfz80_0 := blk_frozen BK308.out 0; have hfz80_1 := blk_frozen BK308.out 1; obtain ⟨Ao81, co81, eo81⟩ := Kd.R_slice HO307.out; subst eo81; have hcz82_0 : w77.cell? ⟨gb290, 0, none⟩ = some (.slice none 0 0) := (blk_cell BK290.out 0).trans rfl; have hcz82_1 : w77.cell? ⟨gb290, 1, none⟩ = some (.slice none 0 0) := (blk_cell BK290.out 1).trans rfl; have hfz82_0 := blk_frozen BK290.out 0; have hfz82_1 := blk_frozen BK290.out 1)))
             refine bodyPost_ret (results_ct rfl _ _ gb290 38 #[.slice none 0 0, .slice none 0 0] (0, 0) _ rfl (by (with_reducible repeat (first | refine blk_drewN ?_ _ | refine blk_drew ?_ | refine blk_alloc ?_ _)); refine blk_put (cs := #[.slice none 0 0, .slice none 0 0]) ?_ 1 _ rfl; (with_reducible repeat (first | refine blk_drewN ?_ _ | refine blk_drew ?_ | refine blk_alloc ?_ _)); refine blk_put (cs := #[.slice none 0 0, .slice none 0 0]) ?_ 0 _ rfl; (with_reducible repeat (first | refine blk_drewN ?_ _ | refine blk_drew ?_ | refine blk_alloc ?_ _)); refine blk_far ?_ NB290_308.out _; (with_reducible repeat (first | refine blk_drewN ?_ _ | refine blk_drew ?_ | refine blk_alloc ?_ _)); refine blk_far ?_ NB290_308.out _; (with_reducible repeat (first | refine blk_drewN ?_ _ | refine blk_drew ?_ | refine blk_alloc ?_ _)); exact BK290.out) Try.underlying38 rfl (by kernel_rfl)) rfl ?_
             exact ⟨_, _, by first | rfl | (simp [errW_none, errW_some] <;> rfl) | (simp only [← hji71, ← hji73]; first | rfl | (simp [errW_none, errW_some] <;> rfl)) | (simp [*, errW_none, errW_some] <;> rfl), by first | exact Kd.R_nil _ _ _ _ _ | exact Kd.S_nil _ _ _ _ _ | exact Kd.N_nil _ _ _ _ _ | exact Kd.V_nil _ _ _ _ _ | exact Kd.Q_nil _ _ _ _ _ | exact Kd.S_nil _ _ _ _ _, by first | exact Kd.R_nil _ _ _ _ _ | exact Kd.S_nil _ _ _ _ _ | exact Kd.N_nil _ _ _ _ _ | exact Kd.V_nil _ _ _ _ _ | exact Kd.Q_nil _ _ _ _ _ | exact Kd.S_nil _ _ _ _ _, by repeat (first | (with_reducible first | exact HB.out | apply below_alloc | apply pw_below_drewN | apply below_drew1 | refine below_set ?_ GE290.out | refine below_set ?_ GE308.out) | exact HB.out)⟩
            ·rw [if_neg c74] at H
             have c74b0 : decide ((wrap64 (Int.tdiv (wrap64 ((ji73) - 1)) 2)) < (t305.length : Int)) = false := decide_eq_false c74
             clear c74
             simp only [Option.some.injEq, Prod.mk.injEq] at H
             obtain ⟨rfl, rfl, rfl⟩ := H
             obtain ⟨Ao83, co83, eo83⟩ := Kd.R_slice HO_12.out
             subst eo83
             go_wp2_with (first | (go_at_call 41; (with_reducible refine (majority_decoded.calls (fun k_ => some k_ = (.slice Ao83 x12_2.length co83 : Value).ownBlock) (.slice Ao83 x12_2.length co83) x12_2 _ _ l2 t302 t305 w _ ?side1 ?side2 ?side3 ?side4 A70.out).mono ?_); (case side1 => repeat (first | (with_reducible first | exact HB.out | apply below_alloc | apply pw_below_drewN | apply below_drew1 | refine below_set ?_ GE290.out) | exact HB.out)); (case side2 => exact Kd.R_tight rfl HO_12.out); (case side3 => exact Kd.C_kept_came (Kd.heap_int .i64) HR2.out (by repeat (first | (with_reducible first | exact HB.out | apply below_alloc | apply pw_below_drewN | apply below_drew1 | refine below_set ?_ GE290.out) | exact HB.out)) (fun k_ hs_ => (fun e_ => Kd.R_base HO_12.out k_ e_.symm) hs_)); (case side4 => exact HC2.out); rintro e w84 ⟨v303, v306, rfl, ho0, ho1, hb, hkp⟩; have n0_ := Aside0.mk (Kd.S_mono (ok' := fun k_ => some k_ ≠ (v297 : Value).ownBlock ∧ some k_ ≠ (v303 : Value).ownBlock ∧ some k_ ≠ (v306 : Value).ownBlock) (Kd.S_keptB (HO_9.out) hkp (fun k_ hk_ hs_ => (hk_.2) hs_)) (fun k_ hk_ => ⟨hk_.1.1, fun e_ => Or.elim (ho0.1 k_ e_.symm).1 (fun hs_ => hk_.2.1 hs_) (fun hn_ => Nat.not_le.2 hk_.2.2 hn_), fun e_ => Or.elim (ho1.1 k_ e_.symm).1 (fun hs_ => hk_.2.1 hs_) (fun hn_ => Nat.not_le.2 hk_.2.2 hn_)⟩)); have n1_ := Aside0.mk (Kd.R_mono (ok' := fun k_ => some k_ ≠ (v303 : Value).ownBlock ∧ some k_ ≠ (v306 : Value).ownBlock) (Kd.R_keptB (HO_11.out) hkp (fun k_ hk_ hs_ => (hk_) hs_)) (fun k_ hk_ => ⟨fun e_ => Or.elim (ho0.1 k_ e_.symm).1 (fun hs_ => hk_.2.1 hs_) (fun hn_ => Nat.not_le.2 hk_.2.2 hn_), fun e_ => Or.elim (ho1.1 k_ e_.symm).1 (fun hs_ => hk_.2.1 hs_) (fun hn_ => Nat.not_le.2 hk_.2.2 hn_)⟩)); have n2_ := Aside0.mk (blk_kept (by (with_reducible repeat (first | refine blk_drewN ?_ _ | refine blk_drew ?_ | refine blk_alloc ?_ _)); exact BK290.out) hkp (fun hs_ => (fun e_ => (Kd.R_ne HO_12.out BK290.out (by decide)) e_) hs_)); have n3_ := Aside0.mk (Kd.R_mono (ok' := fun k_ => some k_ ≠ (v306 : Value).ownBlock ∧ some k_ ≠ (v297 : Value).ownBlock) ho0 (fun k_ hk_ => ⟨hk_.2, Or.elim hk_.1 (fun hs_ => fun e_ => (((HO_11.out).1 k_ e_.symm)) hs_) (fun hn_ => (Kd.fresh' (Kd.R_lt (by (with_reducible repeat (first | apply Kd.R_alloc | apply Kd.R_drewN | apply Kd.R_drew)); exact HO_11.out)) k_ hn_))⟩)); have n4_ := Aside0.mk (Kd.R_mono (ok' := fun k_ => some k_ ≠ (v303 : Value).ownBlock ∧ some k_ ≠ (v297 : Value).ownBlock) ho1 (fun k_ hk_ => ⟨hk_.2, Or.elim hk_.1 (fun hs_ => fun e_ => (((HO_11.out).1 k_ e_.symm)) hs_) (fun hn_ => (Kd.fresh' (Kd.R_lt (by (with_reducible repeat (first | apply Kd.R_alloc | apply Kd.R_drewN | apply Kd.R_drew)); exact HO_11.out)) k_ hn_))⟩)); have n5_ := Aside0.mk (hb); clear HO_9; clear HO_11; clear BK290; clear HB; clear HO_12; have HO_9 := n0_; have HO_11 := n1_; have BK290 := n2_; have HO304 := n3_; have HO307 := n4_; have HB := n5_; clear n0_ n1_ n2_ n3_ n4_ n5_; (try clear hb); (try clear hkp); (try clear ho0); (try clear ho1)) | ((with_reducible refine gate_dst (N := 24) rfl ?_); (try (refine gate_guard (by rfl) ?_; dsimp only)); refine box_event ?hg (N := 24) ?hd (cs := #[.slice none 0 0, .slice none 0 0]) (t := 38) ?hr ?_; (case hd => rfl); (case hg => rfl); (case hr => first | (go_simp; done) | (go_simp; rfl)); intro gb308 hg w85 hbox hb; have n0_ := Aside0.mk (Kd.S_below (by (with_reducible repeat (first | apply Kd.S_alloc | apply Kd.S_drewN | apply Kd.S_drew)); exact HO_9.out) hb); have n1_ := Aside0.mk (Kd.R_below (by (with_reducible repeat (first | apply Kd.R_alloc | apply Kd.R_drewN | apply Kd.R_drew)); exact HO_11.out) hb); have n2_ := Aside0.mk (Kd.R_below (by (with_reducible repeat (first | apply Kd.R_alloc | apply Kd.R_drewN | apply Kd.R_drew)); exact HO304.out) hb); have n3_ := Aside0.mk (Kd.R_below (by (with_reducible repeat (first | apply Kd.R_alloc | apply Kd.R_drewN | apply Kd.R_drew)); exact HO307.out) hb); have n4_ := Aside0.mk (blk_below (g := gb290) (o := .cells #[.slice none 0 0, .slice none 0 0] 38 (0, 0)) (by (with_reducible repeat (first | refine blk_drewN ?_ _ | refine blk_drew ?_ | refine blk_alloc ?_ _)); exact BK290.out) hb); have n5_ := Aside0.mk (below_step (by repeat (first | (with_reducible first | exact HB.out | apply below_alloc | apply pw_below_drewN | apply below_drew1 | refine below_set ?_ GE290.out) | exact HB.out)) hb); have n6_ := Aside0.mk (hbox); have n7_ := Aside0.mk ((by rw [hg]; exact (below_size (by repeat (first | (with_reducible first | exact HB.out | apply below_alloc | apply pw_below_drewN | apply below_drew1 | refine below_set ?_ GE290.out) | exact HB.out))) : w.heap.size ≤ gb308)); have n8_ := Aside0.mk ((by rw [hg]; exact (below_size (by repeat (first | (with_reducible first | exact HB.out | apply below_alloc | apply pw_below_drewN | apply below_drew1 | refine below_set ?_ GE290.out) | exact HB.out))) : w.heap.size ≤ gb308)); have n9_ := Aside0.mk ((by rw [hg]; exact Nat.ne_of_lt (blk_lt (g := gb290) (o := .cells #[.slice none 0 0, .slice none 0 0] 38 (0, 0)) (by (with_reducible repeat (first | refine blk_drewN ?_ _ | refine blk_drew ?_ | refine blk_alloc ?_ _)); exact BK290.out)) : gb290 ≠ gb308)); have n10_ := Aside0.mk ((by rw [hg]; exact Nat.ne_of_gt (blk_lt (g := gb290) (o := .cells #[.slice none 0 0, .slice none 0 0] 38 (0, 0)) (by (with_reducible repeat (first | refine blk_drewN ?_ _ | refine blk_drew ?_ | refine blk_alloc ?_ _)); exact BK290.out)) : gb308 ≠ gb290)); clear HO_9; clear HO_11; clear HO304; clear HO307; clear BK290; clear HB; have HO_9 := n0_; have HO_11 := n1_; have HO304 := n2_; have HO307 := n3_; have BK290 := n4_; have HB := n5_; have BK308 := n6_; have GW308 := n7_; have GE308 := n8_; have NB290_308 := n9_; have NB308_290 := n10_; clear n0_ n1_ n2_ n3_ n4_ n5_ n6_ n7_ n8_ n9_ n10_; clear hb hbox hg; obtain ⟨Ao86, co86, eo86⟩ := Kd.R_slice HO304.out; subst eo86; have hnb87 := NB308_290.out; have hnc87 := NB290_308.out; have hcz88_0 : w85.cell? ⟨gb308, 0, none⟩ = some (.slice none 0 0) := (blk_cell BK308.out 0).trans rfl; have hcz88_1 : w85.cell? ⟨gb308, 1, none⟩ = some (.slice none 0 0) := (blk_cell BK308.out 1).trans rfl; have hfz88_0 := blk_frozen BK308.out 0; have hfz88_1 := blk_frozen BK308.out 1; obtain ⟨Ao89, co89, eo89⟩ := Kd.R_slice HO307.out; subst eo89; have hcz90_0 : w85.cell? ⟨gb290, 0, none⟩ = some (.slice none 0 0) := (blk_cell BK290.out 0).trans rfl; have hcz90_1 : w85.cell? ⟨gb290, 1, none⟩ = some (.slice none 0 0) := (blk_cell BK290.out 1).trans rfl; have hfz90_0 := blk_frozen BK290.out 0; have hfz90_1 := blk_frozen BK290.out 1))
             repeat (go_quiet (first | (go_at_call 41; (with_reducible refine (majority_decoded.calls (fun k_ => some k_ = (.slice Ao83 x12_2.length co83 : Value).ownBlock) (.slice Ao83 x12_2.length co83) x12_2 _ _ l2 t302 t305 w _ ?side1 ?side2 ?side3 ?side4 A70.out).mono ?_); (case side1 => repeat (first | (with_reducible first | exact HB.out | apply below_alloc | apply pw_below_drewN | apply below_drew1 | refine below_set ?_ GE290.out) | exact HB.out)); (case side2 => exact Kd.R_tight rfl HO_12.out); (case side3 => exact Kd.C_kept_came (Kd.heap_int .i64) HR2.out (by repeat (first | (with_reducible first | exact HB.out | apply below_alloc | apply pw_below_drewN | apply below_drew1 | refine below_set ?_ GE290.out) | exact HB.out)) (fun k_ hs_ => (fun e_ => Kd.R_base HO_12.out k_ e_.symm) hs_)); (case side4 => exact HC2.out); rintro e w84 ⟨v303, v306, rfl, ho0, ho1, hb, hkp⟩; have n0_ := Aside0.mk (Kd.S_mono (ok' := fun k_ => some k_ ≠ (v297 : Value).ownBlock ∧ some k_ ≠ (v303 : Value).ownBlock ∧ some k_ ≠ (v306 : Value).ownBlock) (Kd.S_keptB (HO_9.out) hkp (fun k_ hk_ hs_ => (hk_.2) hs_)) (fun k_ hk_ => ⟨hk_.1.1, fun e_ => Or.elim (ho0.1 k_ e_.symm).1 (fun hs_ => hk_.2.1 hs_) (fun hn_ => Nat.not_le.2 hk_.2.2 hn_), fun e_ => Or.elim (ho1.1 k_ e_.symm).1 (fun hs_ => hk_.2.1 hs_) (fun hn_ => Nat.not_le.2 hk_.2.2 hn_)⟩)); have n1_ := Aside0.mk (Kd.R_mono (ok' := fun k_ => some k_ ≠ (v303 : Value).ownBlock ∧ some k_ ≠ (v306 : Value).ownBlock) (Kd.R_keptB (HO_11.out) hkp (fun k_ hk_ hs_ => (hk_) hs_)) (fun k_ hk_ => ⟨fun e_ => Or.elim (ho0.1 k_ e_.symm).1 (fun hs_ => hk_.2.1 hs_) (fun hn_ => Nat.not_le.2 hk_.2.2 hn_), fun e_ => Or.elim (ho1.1 k_ e_.symm).1 (fun hs_ => hk_.2.1 hs_) (fun hn_ => Nat.not_le.2 hk_.2.2 hn_)⟩)); have n2_ := Aside0.mk (blk_kept (by (with_reducible repeat (first | refine blk_drewN ?_ _ | refine blk_drew ?_ | refine blk_alloc ?_ _)); exact BK290.out) hkp (fun hs_ => (fun e_ => (Kd.R_ne HO_12.out BK290.out (by decide)) e_) hs_)); have n3_ := Aside0.mk (Kd.R_mono (ok' := fun k_ => some k_ ≠ (v306 : Value).ownBlock ∧ some k_ ≠ (v297 : Value).ownBlock) ho0 (fun k_ hk_ => ⟨hk_.2, Or.elim hk_.1 (fun hs_ => fun e_ => (((HO_11.out).1 k_ e_.symm)) hs_) (fun hn_ => (Kd.fresh' (Kd.R_lt (by (with_reducible repeat (first | apply Kd.R_alloc | apply Kd.R_drewN | apply Kd.R_drew)); exact HO_11.out)) k_ hn_))⟩)); have n4_ := Aside0.mk (Kd.R_mono (ok' := fun k_ => some k_ ≠ (v303 : Value).ownBlock ∧ some k_ ≠ (v297 : Value).ownBlock) ho1 (fun k_ hk_ => ⟨hk_.2, Or.elim hk_.1 (fun hs_ => fun e_ => (((HO_11.out).1 k_ e_.symm)) hs_) (fun hn_ => (Kd.fresh' (Kd.R_lt (by (with_reducible repeat (first | apply Kd.R_alloc | apply Kd.R_drewN | apply Kd.R_drew)); exact HO_11.out)) k_ hn_))⟩)); have n5_ := Aside0.mk (hb); clear HO_9; clear HO_11; clear BK290; clear HB; clear HO_12; have HO_9 := n0_; have HO_11 := n1_; have BK290 := n2_; have HO304 := n3_; have HO307 := n4_; have HB := n5_; clear n0_ n1_ n2_ n3_ n4_ n5_; (try clear hb); (try clear hkp); (try clear ho0); (try clear ho1)) | ((with_reducible refine gate_dst (N := 24) rfl ?_); (try (refine gate_guard (by rfl) ?_; dsimp only)); refine box_event ?hg (N := 24) ?hd (cs := #[.slice none 0 0, .slice none 0 0]) (t := 38) ?hr ?_; (case hd => rfl); (case hg => rfl); (case hr => first | (go_simp; done) | (go_simp; rfl)); intro gb308 hg w85 hbox hb; have n0_ := Aside0.mk (Kd.S_below (by (with_reducible repeat (first | apply Kd.S_alloc | apply Kd.S_drewN | apply Kd.S_drew)); exact HO_9.out) hb); have n1_ := Aside0.mk (Kd.R_below (by (with_reducible repeat (first | apply Kd.R_alloc | apply Kd.R_drewN | apply Kd.R_drew)); exact HO_11.out) hb); have n2_ := Aside0.mk (Kd.R_below (by (with_reducible repeat (first | apply Kd.R_alloc | apply Kd.R_drewN | apply Kd.R_drew)); exact HO304.out) hb); have n3_ := Aside0.mk (Kd.R_below (by (with_reducible repeat (first | apply Kd.R_alloc | apply Kd.R_drewN | apply Kd.R_drew)); exact HO307.out) hb); have n4_ := Aside0.mk (blk_below (g := gb290) (o := .cells #[.slice none 0 0, .slice none 0 0] 38 (0, 0)) (by (with_reducible repeat (first | refine blk_drewN ?_ _ | refine blk_drew ?_ | refine blk_alloc ?_ _)); exact BK290.out) hb); have n5_ := Aside0.mk (below_step (by repeat (first | (with_reducible first | exact HB.out | apply below_alloc | apply pw_below_drewN | apply below_drew1 | refine below_set ?_ GE290.out) | exact HB.out)) hb); have n6_ := Aside0.mk (hbox); have n7_ := Aside0.mk ((by rw [hg]; exact (below_size (by repeat (first | (with_reducible first | exact HB.out | apply below_alloc | apply pw_below_drewN | apply below_drew1 | refine below_set ?_ GE290.out) | exact HB.out))) : w.heap.size ≤ gb308)); have n8_ := Aside0.mk ((by rw [hg]; exact (below_size (by repeat (first | (with_reducible first | exact HB.out | apply below_alloc | apply pw_below_drewN | apply below_drew1 | refine below_set ?_ GE290.out) | exact HB.out))) : w.heap.size ≤ gb308)); have n9_ := Aside0.mk ((by rw [hg]; exact Nat.ne_of_lt (blk_lt (g := gb290) (o := .cells #[.slice none 0 0, .slice none 0 0] 38 (0, 0)) (by (with_reducible repeat (first | refine blk_drewN ?_ _ | refine blk_drew ?_ | refine blk_alloc ?_ _)); exact BK290.out)) : gb290 ≠ gb308)); have n10_ := Aside0.mk ((by rw [hg]; exact Nat.ne_of_gt (blk_lt (g := gb290) (o := .cells #[.slice none 0 0, .slice none 0 0] 38 (0, 0)) (by (with_reducible repeat (first | refine blk_drewN ?_ _ | refine blk_drew ?_ | refine blk_alloc ?_ _)); exact BK290.out)) : gb308 ≠ gb290)); clear HO_9; clear HO_11; clear HO304; clear HO307; clear BK290; clear HB; have HO_9 := n0_; have HO_11 := n1_; have HO304 := n2_; have HO307 := n3_; have BK290 := n4_; have HB := n5_; have BK308 := n6_; have GW308 := n7_; have GE308 := n8_; have NB290_308 := n9_; have NB308_290 := n10_; clear n0_ n1_ n2_ n3_ n4_ n5_ n6_ n7_ n8_ n9_ n10_; clear hb hbox hg; obtain ⟨Ao86, co86, eo86⟩ := Kd.R_slice HO304.out; subst eo86; have hnb87 := NB308_290.out; have hnc87 := NB290_308.out; have hcz88_0 : w85.cell? ⟨gb308, 0, none⟩ = some (.slice none 0 0) := (blk_cell BK308.out 0).trans rfl; have hcz88_1 : w85.cell? ⟨gb308, 1, none⟩ = some (.slice none 0 0) := (blk_cell BK308.out 1).trans rfl; have hfz88_0 := blk_frozen BK308.out 0; have hfz88_1 := blk_frozen BK308.out 1; obtain ⟨Ao89, co89, eo89⟩ := Kd.R_slice HO307.out; subst eo89; have hcz90_0 : w85.cell? ⟨gb290, 0, none⟩ = some (.slice none 0 0) := (blk_cell BK290.out 0).trans rfl; have hcz90_1 : w85.cell? ⟨gb290, 1, none⟩ = some (.slice none 0 0) := (blk_cell BK290.out 1).trans rfl; have hfz90_0 := blk_frozen BK290.out 0; have hfz90_1 := blk_frozen BK290.out 1)); try go_wp2_with (first | (go_at_call 41; (with_reducible refine (majority_decoded.calls (fun k_ => some k_ = (.slice Ao83 x12_2.length co83 : Value).ownBlock) (.slice Ao83 x12_2.length co83) x12_2 _ _ l2 t302 t305 w _ ?side1 ?side2 ?side3 ?side4 A70.out).mono ?_); (case side1 => repeat (first | (with_reducible first | exact HB.out | apply below_alloc | apply pw_below_drewN | apply below_drew1 | refine below_set ?_ GE290.out) | exact HB.out)); (case side2 => exact Kd.R_tight rfl HO_12.out); (case side3 => exact Kd.C_kept_came (Kd.heap_int .i64) HR2.out (by repeat (first | (with_reducible first | exact HB.out | apply below_alloc | apply pw_below_drewN | apply below_drew1 | refine below_set ?_ GE290.out) | exact HB.out)) (fun k_ hs_ => (fun e_ => Kd.R_base HO_12.out k_ e_.symm) hs_)); (case side4 => exact HC2.out); rintro e w84 ⟨v303, v306, rfl, ho0, ho1, hb, hkp⟩; have n0_ := Aside0.mk (Kd.S_mono (ok' := fun k_ => some k_ ≠ (v297 : Value).ownBlock ∧ some k_ ≠ (v303 : Value).ownBlock ∧ some k_ ≠ (v306 : Value).ownBlock) (Kd.S_keptB (HO_9.out) hkp (fun k_ hk_ hs_ => (hk_.2) hs_)) (fun k_ hk_ => ⟨hk_.1.1, fun e_ => Or.elim (ho0.1 k_ e_.symm).1 (fun hs_ => hk_.2.1 hs_) (fun hn_ => Nat.not_le.2 hk_.2.2 hn_), fun e_ => Or.elim (ho1.1 k_ e_.symm).1 (fun hs_ => hk_.2.1 hs_) (fun hn_ => Nat.not_le.2 hk_.2.2 hn_)⟩)); have n1_ := Aside0.mk (Kd.R_mono (ok' := fun k_ => some k_ ≠ (v303 : Value).ownBlock ∧ some k_ ≠ (v306 : Value).ownBlock) (Kd.R_keptB (HO_11.out) hkp (fun k_ hk_ hs_ => (hk_) hs_)) (fun k_ hk_ => ⟨fun e_ => Or.elim (ho0.1 k_ e_.symm).1 (fun hs_ => hk_.2.1 hs_) (fun hn_ => Nat.not_le.2 hk_.2.2 hn_), fun e_ => Or.elim (ho1.1 k_ e_.symm).1 (fun hs_ => hk_.2.1 hs_) (fun hn_ => Nat.not_le.2 hk_.2.2 hn_)⟩)); have n2_ := Aside0.mk (blk_kept (by (with_reducible repeat (first | refine blk_drewN ?_ _ | refine blk_drew ?_ | refine blk_alloc ?_ _)); exact BK290.out) hkp (fun hs_ => (fun e_ => (Kd.R_ne HO_12.out BK290.out (by decide)) e_) hs_)); have n3_ := Aside0.mk (Kd.R_mono (ok' := fun k_ => some k_ ≠ (v306 : Value).ownBlock ∧ some k_ ≠ (v297 : Value).ownBlock) ho0 (fun k_ hk_ => ⟨hk_.2, Or.elim hk_.1 (fun hs_ => fun e_ => (((HO_11.out).1 k_ e_.symm)) hs_) (fun hn_ => (Kd.fresh' (Kd.R_lt (by (with_reducible repeat (first | apply Kd.R_alloc | apply Kd.R_drewN | apply Kd.R_drew)); exact HO_11.out)) k_ hn_))⟩)); have n4_ := Aside0.mk (Kd.R_mono (ok' := fun k_ => some k_ ≠ (v303 : Value).ownBlock ∧ some k_ ≠ (v297 : Value).ownBlock) ho1 (fun k_ hk_ => ⟨hk_.2, Or.elim hk_.1 (fun hs_ => fun e_ => (((HO_11.out).1 k_ e_.symm)) hs_) (fun hn_ => (Kd.fresh' (Kd.R_lt (by (with_reducible repeat (first | apply Kd.R_alloc | apply Kd.R_drewN | apply Kd.R_drew)); exact HO_11.out)) k_ hn_))⟩)); have n5_ := Aside0.mk (hb); clear HO_9; clear HO_11; clear BK290; clear HB; clear HO_12; have HO_9 := n0_; have HO_11 := n1_; have BK290 := n2_; have HO304 := n3_; have HO307 := n4_; have HB := n5_; clear n0_ n1_ n2_ n3_ n4_ n5_; (try clear hb); (try clear hkp); (try clear ho0); (try clear ho1)) | ((with_reducible refine gate_dst (N := 24) rfl ?_); (try (refine gate_guard (by rfl) ?_; dsimp only)); refine box_event ?hg (N := 24) ?hd (cs := #[.slice none 0 0, .slice none 0 0]) (t := 38) ?hr ?_; (case hd => rfl); (case hg => rfl); (case hr => first | (go_simp; done) | (go_simp; rfl)); intro gb308 hg w85 hbox hb; have n0_ := Aside0.mk (Kd.S_below (by (with_reducible repeat (first | apply Kd.S_alloc | apply Kd.S_drewN | apply Kd.S_drew)); exact HO_9.out) hb); have n1_ := Aside0.mk (Kd.R_below (by (with_reducible repeat (first | apply Kd.R_alloc | apply Kd.R_drewN | apply Kd.R_drew)); exact HO_11.out) hb); have n2_ := Aside0.mk (Kd.R_below (by (with_reducible repeat (first | apply Kd.R_alloc | apply Kd.R_drewN | apply Kd.R_drew)); exact HO304.out) hb); have n3_ := Aside0.mk (Kd.R_below (by (with_reducible repeat (first | apply Kd.R_alloc | apply Kd.R_drewN | apply Kd.R_drew)); exact HO307.out) hb); have n4_ := Aside0.mk (blk_below (g := gb290) (o := .cells #[.slice none 0 0, .slice none 0 0] 38 (0, 0)) (by (with_reducible repeat (first | refine blk_drewN ?_ _ | refine blk_drew ?_ | refine blk_alloc ?_ _)); exact BK290.out) hb); have n5_ := Aside0.mk (below_step (by repeat (first | (with_reducible first | exact HB.out | apply below_alloc | apply pw_below_drewN | apply below_drew1 | refine below_set ?_ GE290.out) | exact HB.out)) hb); have n6_ := Aside0.mk (hbox); have n7_ := Aside0.mk ((by rw [hg]; exact (below_size (by repeat (first | (with_reducible first | exact HB.out | apply below_alloc | apply pw_below_drewN | apply below_drew1 | refine below_set ?_ GE290.out) | exact HB.out))) : w.heap.size ≤ gb308)); have n8_ := Aside0.mk ((by rw [hg]; exact (below_size (by repeat (first | (with_reducible first | exact HB.out | apply below_alloc | apply pw_below_drewN | apply below_drew1 | refine below_set ?_ GE290.out) | exact HB.out))) : w.heap.size ≤ gb308)); have n9_ := Aside0.mk ((by rw [hg]; exact Nat.ne_of_lt (blk_lt (g := gb290) (o := .cells #[.slice none 0 0, .slice none 0 0] 38 (0, 0)) (by (with_reducible repeat (first | refine blk_drewN ?_ _ | refine blk_drew ?_ | refine blk_alloc ?_ _)); exact BK290.out)) : gb290 ≠ gb308)); have n10_ := Aside0.mk ((by rw [hg]; exact Nat.ne_of_gt (blk_lt (g := gb290) (o := .cells #[.slice none 0 0, .slice none 0 0] 38 (0, 0)) (by (with_reducible repeat (first | refine blk_drewN ?_ _ | refine blk_drew ?_ | refine blk_alloc ?_ _)); exact BK290.out)) : gb308 ≠ gb290)); clear HO_9; clear HO_11; clear HO304; clear HO307; clear BK290; clear HB; have HO_9 := n0_; have HO_11 := n1_; have HO304 := n2_; have HO307 := n3_; have BK290 := n4_; have HB := n5_; have BK308 := n6_; have GW308 := n7_; have GE308 := n8_; have NB290_308 := n9_; have NB308_290 := n10_; clear n0_ n1_ n2_ n3_ n4_ n5_ n6_ n7_ n8_ n9_ n10_; clear hb hbox hg; obtain ⟨Ao86, co86, eo86⟩ := Kd.R_slice HO304.out; subst eo86; have hnb87 := NB308_290.out; have hnc87 := NB290_308.out; have hcz88_0 : w85.cell? ⟨gb308, 0, none⟩ = some (.slice none 0 0) := (blk_cell BK308.out 0).trans rfl; have hcz88_1 : w85.cell? ⟨gb308, 1, none⟩ = some (.slice none 0 0) := (blk_cell BK308.out 1).trans rfl; have hfz88_0 := blk_frozen BK308.out 0; have hfz88_1 := blk_frozen BK308.out 1; obtain ⟨Ao89, co89, eo89⟩ := Kd.R_slice HO307.out; subst eo89; have hcz90_0 : w85.cell? ⟨gb290, 0, none⟩ = some (.slice none 0 0) := (blk_cell BK290.out 0).trans rfl; have hcz90_1 : w85.cell? ⟨gb290, 1, none⟩ = some (.slice none 0 0) := (blk_cell BK290.out 1).trans rfl; have hfz90_0 := blk_frozen BK290.out 0; have hfz90_1 := blk_frozen BK290.out 1)))
             refine bodyPost_ret (results_ct rfl _ _ gb290 38 #[.slice Ao86 t302.length co86, .slice Ao89 t305.length co89] (0, 0) _ rfl (by (with_reducible repeat (first | refine blk_drewN ?_ _ | refine blk_drew ?_ | refine blk_alloc ?_ _)); refine blk_put (cs := #[.slice Ao86 t302.length co86, .slice none 0 0]) ?_ 1 _ rfl; (with_reducible repeat (first | refine blk_drewN ?_ _ | refine blk_drew ?_ | refine blk_alloc ?_ _)); refine blk_put (cs := #[.slice none 0 0, .slice none 0 0]) ?_ 0 _ rfl; (with_reducible repeat (first | refine blk_drewN ?_ _ | refine blk_drew ?_ | refine blk_alloc ?_ _)); refine blk_far ?_ NB290_308.out _; (with_reducible repeat (first | refine blk_drewN ?_ _ | refine blk_drew ?_ | refine blk_alloc ?_ _)); refine blk_far ?_ NB290_308.out _; (with_reducible repeat (first | refine blk_drewN ?_ _ | refine blk_drew ?_ | refine blk_alloc ?_ _)); exact BK290.out) Try.underlying38 rfl (by kernel_rfl)) rfl ?_
             exact ⟨_, _, by first | rfl | (simp [errW_none, errW_some] <;> rfl) | (simp only [← hji71, ← hji73]; first | rfl | (simp [errW_none, errW_some] <;> rfl)) | (simp [*, errW_none, errW_some] <;> rfl), by (with_reducible repeat (first | apply Kd.R_alloc | apply Kd.R_drewN | apply Kd.R_drew)); exact Kd.R_mono (Kd.R_far (p := ⟨gb290, 1, none⟩) (Kd.R_far (p := ⟨gb290, 0, none⟩) (Kd.R_far (p := ⟨gb308, 1, none⟩) (Kd.R_far (p := ⟨gb308, 0, none⟩) (Kd.R_types (Kd.R_types HO304.out BK308.out (by decide)) BK290.out (by decide)) (fun _ hk => by first | exact hk.1.2 | exact hk.1) (.slice Ao86 t302.length co86)) (fun _ hk => by first | exact hk.1.2 | exact hk.1) (.slice Ao89 t305.length co89)) (fun _ hk => hk.2) (.slice Ao86 t302.length co86)) (fun _ hk => hk.2) (.slice Ao89 t305.length co89)) (fun _ hk => hk.1.1.1), by (with_reducible repeat (first | apply Kd.R_alloc | apply Kd.R_drewN | apply Kd.R_drew)); exact Kd.R_mono (Kd.R_far (p := ⟨gb290, 1, none⟩) (Kd.R_far (p := ⟨gb290, 0, none⟩) (Kd.R_far (p := ⟨gb308, 1, none⟩) (Kd.R_far (p := ⟨gb308, 0, none⟩) (Kd.R_types (Kd.R_types HO307.out BK308.out (by decide)) BK290.out (by decide)) (fun _ hk => by first | exact hk.1.2 | exact hk.1) (.slice Ao86 t302.length co86)) (fun _ hk => by first | exact hk.1.2 | exact hk.1) (.slice Ao89 t305.length co89)) (fun _ hk => hk.2) (.slice Ao86 t302.length co86)) (fun _ hk => hk.2) (.slice Ao89 t305.length co89)) (fun _ hk => hk.1.1.1), by repeat (first | (with_reducible first | exact HB.out | apply below_alloc | apply pw_below_drewN | apply below_drew1 | refine below_set ?_ GE290.out | refine below_set ?_ GE308.out) | exact HB.out)⟩
           ·rw [if_neg c72] at H
            exact absurd H (by simp)
       ·rw [if_neg c16] at H
        exact absurd H (by simp)
      ·rw [if_neg c15] at H
       exact absurd H (by simp)
     ·rw [if_neg c14] at H
      exact absurd H (by simp)
    ·rw [if_neg c12] at H
     have c12b0 : (t291 == 0) = false := beq_eq_false_iff_ne.mpr c12
     have c12b1 : (t291 != 0) = true := bne_iff_ne.mpr c12
     simp only [Option.some.injEq, Prod.mk.injEq] at H
     obtain ⟨rfl, rfl, rfl⟩ := H
     go_wp2_with (first | (go_at_call 37; (with_reducible refine (majority_bits.calls kj3 a1 _ _ l2 t291 _ ?side1 ?side2 A11.out).mono ?_); (case side1 => repeat (first | exact (Kd.C_below HR2.out HB.out) | (with_reducible refine Kd.C_alloc ?_ _) | (with_reducible refine Kd.C_drewN ?_ _) | (with_reducible refine Kd.C_drew ?_))); (case side2 => exact HC2.out); rintro e w' ⟨rfl, ⟨nd, rfl⟩⟩; (try first | exact ⟨rfl, _, World.drewN_drewN _ _ _⟩ | exact ⟨rfl, _, Eq.trans (World.drewN_drewN _ _ _) (congrArg (World.drewN _) (Nat.add_assoc _ _ _))⟩); have hcz91_0 : wc.cell? ⟨gb290, 0, none⟩ = some (.slice none 0 0) := (blk_cell BK290.out 0).trans rfl; have hcz91_1 : wc.cell? ⟨gb290, 1, none⟩ = some (.slice none 0 0) := (blk_cell BK290.out 1).trans rfl; have hfz91_0 := blk_frozen BK290.out 0; have hfz91_1 := blk_frozen BK290.out 1))
     repeat (go_quiet (first | (go_at_call 37; (with_reducible refine (majority_bits.calls kj3 a1 _ _ l2 t291 _ ?side1 ?side2 A11.out).mono ?_); (case side1 => repeat (first | exact (Kd.C_below HR2.out HB.out) | (with_reducible refine Kd.C_alloc ?_ _) | (with_reducible refine Kd.C_drewN ?_ _) | (with_reducible refine Kd.C_drew ?_))); (case side2 => exact HC2.out); rintro e w' ⟨rfl, ⟨nd, rfl⟩⟩; (try first | exact ⟨rfl, _, World.drewN_drewN _ _ _⟩ | exact ⟨rfl, _, Eq.trans (World.drewN_drewN _ _ _) (congrArg (World.drewN _) (Nat.add_assoc _ _ _))⟩); have hcz91_0 : wc.cell? ⟨gb290, 0, none⟩ = some (.slice none 0 0) := (blk_cell BK290.out 0).trans rfl; have hcz91_1 : wc.cell? ⟨gb290, 1, none⟩ = some (.slice none 0 0) := (blk_cell BK290.out 1).trans rfl; have hfz91_0 := blk_frozen BK290.out 0; have hfz91_1 := blk_frozen BK290.out 1)); try go_wp2_with (first | (go_at_call 37; (with_reducible refine (majority_bits.calls kj3 a1 _ _ l2 t291 _ ?side1 ?side2 A11.out).mono ?_); (case side1 => repeat (first | exact (Kd.C_below HR2.out HB.out) | (with_reducible refine Kd.C_alloc ?_ _) | (with_reducible refine Kd.C_drewN ?_ _) | (with_reducible refine Kd.C_drew ?_))); (case side2 => exact HC2.out); rintro e w' ⟨rfl, ⟨nd, rfl⟩⟩; (try first | exact ⟨rfl, _, World.drewN_drewN _ _ _⟩ | exact ⟨rfl, _, Eq.trans (World.drewN_drewN _ _ _) (congrArg (World.drewN _) (Nat.add_assoc _ _ _))⟩); have hcz91_0 : wc.cell? ⟨gb290, 0, none⟩ = some (.slice none 0 0) := (blk_cell BK290.out 0).trans rfl; have hcz91_1 : wc.cell? ⟨gb290, 1, none⟩ = some (.slice none 0 0) := (blk_cell BK290.out 1).trans rfl; have hfz91_0 := blk_frozen BK290.out 0; have hfz91_1 := blk_frozen BK290.out 1)))
     refine bodyPost_ret (results_ct rfl _ _ gb290 38 #[.slice none 0 0, .slice none 0 0] (0, 0) _ rfl (by (with_reducible repeat (first | refine blk_drewN ?_ _ | refine blk_drew ?_ | refine blk_alloc ?_ _)); refine blk_put (cs := #[.slice none 0 0, .slice none 0 0]) ?_ 1 _ rfl; (with_reducible repeat (first | refine blk_drewN ?_ _ | refine blk_drew ?_ | refine blk_alloc ?_ _)); refine blk_put (cs := #[.slice none 0 0, .slice none 0 0]) ?_ 0 _ rfl; (with_reducible repeat (first | refine blk_drewN ?_ _ | refine blk_drew ?_ | refine blk_alloc ?_ _)); exact BK290.out) Try.underlying38 rfl (by kernel_rfl)) rfl ?_
     exact ⟨_, _, by first | rfl | (simp [errW_none, errW_some] <;> rfl) | (simp [*, errW_none, errW_some] <;> rfl), by first | exact Kd.R_nil _ _ _ _ _ | exact Kd.S_nil _ _ _ _ _ | exact Kd.N_nil _ _ _ _ _ | exact Kd.V_nil _ _ _ _ _ | exact Kd.Q_nil _ _ _ _ _ | exact Kd.S_nil _ _ _ _ _, by first | exact Kd.R_nil _ _ _ _ _ | exact Kd.S_nil _ _ _ _ _ | exact Kd.N_nil _ _ _ _ _ | exact Kd.V_nil _ _ _ _ _ | exact Kd.Q_nil _ _ _ _ _ | exact Kd.S_nil _ _ _ _ _, by repeat (first | (with_reducible first | exact HB.out | apply below_alloc | apply pw_below_drewN | apply below_drew1 | refine below_set ?_ GE290.out) | exact HB.out)⟩

/-! ### codewrightref43_ReedArgs: function 22 -/
def codewrightref43_ReedArgs.f (k : Nat) (a0 : Int) (a1 : Int) (l2 : List Int) : Option (Int) := if a1 < 0 then (some 6) else (if a1 > 6 then (some 6) else (if a0 < 0 then (some 6) else (if a0 > a1 then (some 6) else (if 0 ≤ (IntKind.u64.wrap (a1)) then ((codewrightref43_bits.f k l2 (shl .i64 1 (IntKind.u64.wrap (a1)))).bind fun t327 => (some t327)) else (none)))))
set_option maxHeartbeats 8000000 in
set_option maxRecDepth 100000 in
theorem codewrightref43_ReedArgs.calls (k : Nat) (a0 : Int) (a1 : Int) (A2 : Option Addr) (c2 : Nat) (l2 : List Int) (r : Int) (w : World) (hr2 : Kd.C (Kd.int .i64) w A2 l2.length l2) (hc2 : l2.length ≤ c2) (h : codewrightref43_ReedArgs.f k a0 a1 l2 = some r) :
  Calls Try.prog 22 #[.int .i64 a0, .int .i64 a1, .slice A2 l2.length c2] w fun e w' => e = .returned (.int .i64 r) ∧ Below w.heap.size w w' := by
 have HR2 := Aside0.mk hr2
 have HC2 := Aside0.mk hc2
 clear hr2 hc2
 have HB := Aside0.mk (Below.refl w.heap.size w)
 have H : (if a1 < 0 then (some 6) else (if a1 > 6 then (some 6) else (if a0 < 0 then (some 6) else (if a0 > a1 then (some 6) else (if 0 ≤ (IntKind.u64.wrap (a1)) then ((codewrightref43_bits.f k l2 (shl .i64 1 (IntKind.u64.wrap (a1)))).bind fun t327 => (some t327)) else (none)))))) = some r := h
 clear h
 by_cases c4 : a1 < 0
 ·rw [if_pos c4] at H
  have c4b0 : decide (a1 < 0) = true := decide_eq_true c4
  clear c4
  obtain rfl := Option.some.inj H
  go_enter Try.func22, Try.ntmps22
  go_wp2
  go_ret
  exact ⟨by first | rfl | (simp [errW_none, errW_some] <;> rfl) | (simp [*, errW_none, errW_some] <;> rfl), by repeat (first | (with_reducible first | exact HB.out | apply below_alloc | apply pw_below_drewN | apply below_drew1) | exact HB.out)⟩
 ·rw [if_neg c4] at H
  have c4b0 : decide (a1 < 0) = false := decide_eq_false c4
  clear c4
  by_cases c5 : a1 > 6
  ·rw [if_pos c5] at H
   have c5b0 : decide (6 < a1) = true := decide_eq_true c5
   clear c5
   obtain rfl := Option.some.inj H
   go_enter Try.func22, Try.ntmps22
   go_wp2
   go_ret
   exact ⟨by first | rfl | (simp [errW_none, errW_some] <;> rfl) | (simp [*, errW_none, errW_some] <;> rfl), by repeat (first | (with_reducible first | exact HB.out | apply below_alloc | apply pw_below_drewN | apply below_drew1) | exact HB.out)⟩
  ·rw [if_neg c5] at H
   have c5b0 : decide (6 < a1) = false := decide_eq_false c5
   clear c5
   by_cases c6 : a0 < 0
   ·rw [if_pos c6] at H
    have c6b0 : decide (a0 < 0) = true := decide_eq_true c6
    clear c6
    obtain rfl := Option.some.inj H
    go_enter Try.func22, Try.ntmps22
    go_wp2
    go_ret
    exact ⟨by first | rfl | (simp [errW_none, errW_some] <;> rfl) | (simp [*, errW_none, errW_some] <;> rfl), by repeat (first | (with_reducible first | exact HB.out | apply below_alloc | apply pw_below_drewN | apply below_drew1) | exact HB.out)⟩
   ·rw [if_neg c6] at H
    have c6b0 : decide (a0 < 0) = false := decide_eq_false c6
    clear c6
    by_cases c7 : a0 > a1
    ·rw [if_pos c7] at H
     have c7b0 : decide (a1 < a0) = true := decide_eq_true c7
     clear c7
     obtain rfl := Option.some.inj H
     go_enter Try.func22, Try.ntmps22
     go_wp2
     go_ret
     exact ⟨by first | rfl | (simp [errW_none, errW_some] <;> rfl) | (simp [*, errW_none, errW_some] <;> rfl), by repeat (first | (with_reducible first | exact HB.out | apply below_alloc | apply pw_below_drewN | apply below_drew1) | exact HB.out)⟩
    ·rw [if_neg c7] at H
     have c7b0 : decide (a1 < a0) = false := decide_eq_false c7
     clear c7
     obtain ⟨ji8, hji8⟩ : ∃ j_ : Int, (IntKind.u64.wrap (a1)) = j_ := ⟨_, rfl⟩
     replace H : (if 0 ≤ (ji8) then ((codewrightref43_bits.f k l2 (shl .i64 1 (ji8))).bind fun t327 => (some t327)) else (none)) = some r := by first | (rw [hji8] at H; exact H) | (simp only [hji8] at H ⊢; exact H)
     by_cases c9 : 0 ≤ (ji8)
     ·rw [if_pos c9] at H
      have c9b0 := eq_true c9
      have c9b1 : decide (0 ≤ (ji8)) = true := decide_eq_true c9
      clear c9
      obtain ⟨ji10, hji10⟩ : ∃ j_ : Int, (shl .i64 1 (ji8)) = j_ := ⟨_, rfl⟩
      replace H : ((codewrightref43_bits.f k l2 (ji10)).bind fun t327 => (some t327)) = some r := by first | (rw [hji10] at H; exact H) | (simp only [hji10] at H ⊢; exact H)
      have hji10_ : (IntKind.i64.wrap (1 * 2 ^ min (ji8).toNat 64)) = ji10 := hji10
      have hji10z : (ji8) ≤ 64 → (IntKind.i64.wrap (1 * 2 ^ (ji8).toNat)) = ji10 := shl_small hji10
      have hji10u : (IntKind.i64.wrap (2 ^ min (ji8).toNat 64)) = ji10 := by have h_ := hji10_; rw [Int.one_mul] at h_; exact h_
      have hji10v : (ji8) ≤ 64 → (IntKind.i64.wrap (2 ^ (ji8).toNat)) = ji10 := fun hle_ => by have h_ := hji10z hle_; rw [Int.one_mul] at h_; exact h_
      have hji10y : (wrap64 (1 * 2 ^ min (ji8).toNat 64)) = ji10 := (i64_w _).symm.trans hji10_
      have hji10x : (ji8) ≤ 64 → (wrap64 (1 * 2 ^ (ji8).toNat)) = ji10 := fun h_ => (i64_w _).symm.trans (hji10z h_)
      replace H := Option.bind_eq_some_iff.mp H
      obtain ⟨t327, A110, H⟩ := H
      replace H : (some t327) = some r := H
      have A11 := Aside0.mk A110
      clear A110
      obtain rfl := Option.some.inj H
      go_enter Try.func22, Try.ntmps22
      go_wp2_with (first | ((with_reducible refine gate_callee (f := 40) rfl ?_); refine goesL_ (some 26) rfl rfl Try.func40 (by kernel_rfl) rfl #[.slice A2 l2.length c2, .int .i64 ji10] rfl (by (try simp only [List.map_toArray, List.map_cons, List.map_nil]); first | done | (simp only [hji10]; rfl) | rfl | (simp only [List.length_drop, List.length_take]; rfl)) ?_; (with_reducible refine (codewrightref43_bits.calls k _ _ l2 ji10 t327 _ ?side1 ?side2 A11.out).mono ?_); (case side1 => repeat (first | exact HR2.out | (with_reducible refine Kd.C_alloc ?_ _) | (with_reducible refine Kd.C_drewN ?_ _) | (with_reducible refine Kd.C_drew ?_))); (case side2 => exact HC2.out); rintro e w12 ⟨rfl, hb⟩; refine ⟨_, rfl, ?_⟩; have n0_ := Aside0.mk (below_step (by repeat (first | (with_reducible first | exact HB.out | apply below_alloc | apply pw_below_drewN | apply below_drew1) | exact HB.out)) hb); clear HB; have HB := n0_; clear n0_; (try clear hb); (try clear hb2); (try clear hk); (try clear hi)))
      go_ret
      exact ⟨by first | rfl | (simp [errW_none, errW_some] <;> rfl) | (simp only [← hji8, ← hji10]; first | rfl | (simp [errW_none, errW_some] <;> rfl)) | (simp [*, errW_none, errW_some] <;> rfl), by repeat (first | (with_reducible first | exact HB.out | apply below_alloc | apply pw_below_drewN | apply below_drew1) | exact HB.out)⟩
     ·rw [if_neg c9] at H
      exact absurd H (by simp)

/-! ### codewrightref43_Radius: function 25 -/
def codewrightref43_Radius.f (a0 : Int) (a1 : Int) : Option (Int) := if 0 ≤ (IntKind.u64.wrap (wrap64 (a1 - a0))) then (some (wrap64 (Int.tdiv (wrap64 ((shl .i64 1 (IntKind.u64.wrap (wrap64 (a1 - a0)))) - 1)) 2))) else (none)
set_option maxHeartbeats 8000000 in
set_option maxRecDepth 100000 in
theorem codewrightref43_Radius.calls (a0 : Int) (a1 : Int) (r : Int) (w : World) (h : codewrightref43_Radius.f a0 a1 = some r) :
  Calls Try.prog 25 #[.int .i64 a0, .int .i64 a1] w fun e w' => e = .returned (.int .i64 r) ∧ Drawn0 w w' := by
 have H : (if 0 ≤ (IntKind.u64.wrap (wrap64 (a1 - a0))) then (some (wrap64 (Int.tdiv (wrap64 ((shl .i64 1 (IntKind.u64.wrap (wrap64 (a1 - a0)))) - 1)) 2))) else (none)) = some r := h
 clear h
 obtain ⟨ji3, hji3⟩ : ∃ j_ : Int, (IntKind.u64.wrap (wrap64 (a1 - a0))) = j_ := ⟨_, rfl⟩
 replace H : (if 0 ≤ (ji3) then (some (wrap64 (Int.tdiv (wrap64 ((shl .i64 1 (ji3)) - 1)) 2))) else (none)) = some r := by first | (rw [hji3] at H; exact H) | (simp only [hji3] at H ⊢; exact H)
 by_cases c4 : 0 ≤ (ji3)
 ·rw [if_pos c4] at H
  have c4b0 := eq_true c4
  have c4b1 : decide (0 ≤ (ji3)) = true := decide_eq_true c4
  clear c4
  obtain ⟨ji5, hji5⟩ : ∃ j_ : Int, (shl .i64 1 (ji3)) = j_ := ⟨_, rfl⟩
  replace H : (some (wrap64 (Int.tdiv (wrap64 ((ji5) - 1)) 2))) = some r := by first | (rw [hji5] at H; exact H) | (simp only [hji5] at H ⊢; exact H)
  have hji5_ : (IntKind.i64.wrap (1 * 2 ^ min (ji3).toNat 64)) = ji5 := hji5
  have hji5z : (ji3) ≤ 64 → (IntKind.i64.wrap (1 * 2 ^ (ji3).toNat)) = ji5 := shl_small hji5
  have hji5u : (IntKind.i64.wrap (2 ^ min (ji3).toNat 64)) = ji5 := by have h_ := hji5_; rw [Int.one_mul] at h_; exact h_
  have hji5v : (ji3) ≤ 64 → (IntKind.i64.wrap (2 ^ (ji3).toNat)) = ji5 := fun hle_ => by have h_ := hji5z hle_; rw [Int.one_mul] at h_; exact h_
  have hji5y : (wrap64 (1 * 2 ^ min (ji3).toNat 64)) = ji5 := (i64_w _).symm.trans hji5_
  have hji5x : (ji3) ≤ 64 → (wrap64 (1 * 2 ^ (ji3).toNat)) = ji5 := fun h_ => (i64_w _).symm.trans (hji5z h_)
  obtain rfl := Option.some.inj H
  go_enter Try.func25, Try.ntmps25
  go_wp2
  go_ret
  exact ⟨by first | rfl | (simp; done) | (simp only [← hji3, ← hji5] <;> (first | rfl | simp)) | (simp [*]; done), by repeat (first | exact Drawn0.refl _ | apply Drawn0.step)⟩
 ·rw [if_neg c4] at H
  exact absurd H (by simp)


end Go.Proofs.Ytjelamodjpepkaa.P
