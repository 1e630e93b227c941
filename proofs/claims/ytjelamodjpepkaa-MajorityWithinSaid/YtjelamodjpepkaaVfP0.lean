import Derived.Test.YtjelamodjpepkaaVfSq
import Derived.Test.YtjelamodjpepkaaVfP
import Derived.Test.YtjelamodjpepkaaVfM1
namespace Go.Proofs.Ytjelamodjpepkaa.P
open Go.RowKit Go.Proofs.YtjelamodjpepkaaW.PrintWords Go.Proofs.YtjelamodjpepkaaW.PrintLast Go.Proofs.YtjelamodjpepkaaW.PrintMore
attribute [local go_sem] max2_int min2_int max_two min_two max_three min_three max_four min_four   -- for this text's walks alone
set_option linter.unusedVariables false
set_option linter.unusedSimpArgs false
/-! ### r11Binomial: function 50 -/
mutual
def r11Binomial.j0 : Nat → Int → Int → Bool → Option (Int × Int)
 | 0, _, _, _ => none
 | k + 1, x0, x1, x14 => if x14 = true then (some (0, 6)) else (if x1 < 0 then (r11Binomial.j1 k x0 x1 true) else (r11Binomial.j1 k x0 x1 (decide (x1 > x0))))
def r11Binomial.j1 : Nat → Int → Int → Bool → Option (Int × Int)
 | 0, _, _, _ => none
 | k + 1, x0, x1, x21 => if x21 = true then (some (0, 0)) else (if 0 ≤ (wrap64 (x0 + 1)) then (if (wrap64 (x0 + 1) : Int).toNat ≤ 35184372088832 then ((some (List.replicate (wrap64 (x0 + 1) : Int).toNat 0 : List Int)).bind fun y104 => (if 0 < (y104.length : Int) then (r11Binomial.l0 k x0 x1 (y104.set (0 : Int).toNat 1) 1) else (none))) else (none)) else (none))
def r11Binomial.l0 : Nat → Int → Int → List Int → Int → Option (Int × Int)
 | 0, _, _, _, _ => none
 | k + 1, x0, x1, x6, x7 => if x7 ≤ x0 then (r11Binomial.l1 k x0 x1 x6 x7 x7) else (if 0 ≤ x1 then (if x1 < (x6.length : Int) then (some (rd x6 x1, 0)) else (none)) else (none))
def r11Binomial.l1 : Nat → Int → Int → List Int → Int → Int → Option (Int × Int)
 | 0, _, _, _, _, _ => none
 | k + 1, x0, x1, x6, x7, x8 => if x8 ≥ 1 then (if 0 ≤ x8 then (if x8 < (x6.length : Int) then (if 0 ≤ (wrap64 (x8 - 1)) then (if (wrap64 (x8 - 1)) < (x6.length : Int) then (r11Binomial.l1 k x0 x1 (x6.set (x8 : Int).toNat (wrap64 ((rd x6 x8) + (rd x6 (wrap64 (x8 - 1)))))) x7 (wrap64 (x8 - 1))) else (none)) else (none)) else (none)) else (none)) else (r11Binomial.l0 k x0 x1 x6 (wrap64 (x7 + 1)))
end
def r11Binomial.f (k : Nat) (a0 : Int) (a1 : Int) : Option (Int × Int) := if a0 < 0 then (r11Binomial.j0 k a0 a1 true) else (r11Binomial.j0 k a0 a1 (decide (a0 > 64)))
theorem r11Binomial.mono_l : ∀ k, (∀ y0 y1 y2, LeO (r11Binomial.j0 k y0 y1 y2) (r11Binomial.j0 (k + 1) y0 y1 y2)) ∧ (∀ y0 y1 y2, LeO (r11Binomial.j1 k y0 y1 y2) (r11Binomial.j1 (k + 1) y0 y1 y2)) ∧ (∀ y0 y1 y2 y3, LeO (r11Binomial.l0 k y0 y1 y2 y3) (r11Binomial.l0 (k + 1) y0 y1 y2 y3)) ∧ (∀ y0 y1 y2 y3 y4, LeO (r11Binomial.l1 k y0 y1 y2 y3 y4) (r11Binomial.l1 (k + 1) y0 y1 y2 y3 y4))
 | 0 => ⟨fun _ _ _ r h => by simp [r11Binomial.j0] at h, fun _ _ _ r h => by simp [r11Binomial.j1] at h, fun _ _ _ _ r h => by simp [r11Binomial.l0] at h, fun _ _ _ _ _ r h => by simp [r11Binomial.l1] at h⟩
 | k + 1 => by
  obtain ⟨ih0, ih1, ih2, ih3⟩ := r11Binomial.mono_l k; refine ⟨?_, ?_, ?_, ?_⟩
  ·intro y0 y1 y2; unfold r11Binomial.j0
   repeat' first
   | (with_reducible exact ih0 _ _ _)
   | (with_reducible exact ih1 _ _ _)
   | (with_reducible exact ih2 _ _ _ _)
   | (with_reducible exact ih3 _ _ _ _ _)
   | (with_reducible exact LeO.refl _)
   | (with_reducible exact LeO.none _)
   | (with_reducible refine LeO.ite ?_ ?_)
   | (with_reducible refine LeO.bind ?_ (fun _ => ?_))
   | exact ih0 _ _ _
   | exact ih1 _ _ _
   | exact ih2 _ _ _ _
   | exact ih3 _ _ _ _ _
   | exact LeO.none _
   | refine LeO.ite ?_ ?_
   | refine LeO.bind ?_ (fun _ => ?_)
  ·intro y0 y1 y2; unfold r11Binomial.j1
   repeat' first
   | (with_reducible exact ih0 _ _ _)
   | (with_reducible exact ih1 _ _ _)
   | (with_reducible exact ih2 _ _ _ _)
   | (with_reducible exact ih3 _ _ _ _ _)
   | (with_reducible exact LeO.refl _)
   | (with_reducible exact LeO.none _)
   | (with_reducible refine LeO.ite ?_ ?_)
   | (with_reducible refine LeO.bind ?_ (fun _ => ?_))
   | exact ih0 _ _ _
   | exact ih1 _ _ _
   | exact ih2 _ _ _ _
   | exact ih3 _ _ _ _ _
   | exact LeO.none _
   | refine LeO.ite ?_ ?_
   | refine LeO.bind ?_ (fun _ => ?_)
  ·intro y0 y1 y2 y3; unfold r11Binomial.l0
   repeat' first
   | (with_reducible exact ih0 _ _ _)
   | (with_reducible exact ih1 _ _ _)
   | (with_reducible exact ih2 _ _ _ _)
   | (with_reducible exact ih3 _ _ _ _ _)
   | (with_reducible exact LeO.refl _)
   | (with_reducible exact LeO.none _)
   | (with_reducible refine LeO.ite ?_ ?_)
   | (with_reducible refine LeO.bind ?_ (fun _ => ?_))
   | exact ih0 _ _ _
   | exact ih1 _ _ _
   | exact ih2 _ _ _ _
   | exact ih3 _ _ _ _ _
   | exact LeO.none _
   | refine LeO.ite ?_ ?_
   | refine LeO.bind ?_ (fun _ => ?_)
  ·intro y0 y1 y2 y3 y4; unfold r11Binomial.l1
   repeat' first
   | (with_reducible exact ih0 _ _ _)
   | (with_reducible exact ih1 _ _ _)
   | (with_reducible exact ih2 _ _ _ _)
   | (with_reducible exact ih3 _ _ _ _ _)
   | (with_reducible exact LeO.refl _)
   | (with_reducible exact LeO.none _)
   | (with_reducible refine LeO.ite ?_ ?_)
   | (with_reducible refine LeO.bind ?_ (fun _ => ?_))
   | exact ih0 _ _ _
   | exact ih1 _ _ _
   | exact ih2 _ _ _ _
   | exact ih3 _ _ _ _ _
   | exact LeO.none _
   | refine LeO.ite ?_ ?_
   | refine LeO.bind ?_ (fun _ => ?_)
theorem r11Binomial.mono : ∀ a0 a1 k, LeO (r11Binomial.f k a0 a1) (r11Binomial.f (k + 1) a0 a1) := by
 intro a0 a1 k; obtain ⟨ih0, ih1, ih2, ih3⟩ := r11Binomial.mono_l k; unfold r11Binomial.f
 repeat' first
   | (with_reducible exact ih0 _ _ _)
   | (with_reducible exact ih1 _ _ _)
   | (with_reducible exact ih2 _ _ _ _)
   | (with_reducible exact ih3 _ _ _ _ _)
   | (with_reducible exact LeO.refl _)
   | (with_reducible exact LeO.none _)
   | (with_reducible refine LeO.ite ?_ ?_)
   | (with_reducible refine LeO.bind ?_ (fun _ => ?_))
   | exact ih0 _ _ _
   | exact ih1 _ _ _
   | exact ih2 _ _ _ _
   | exact ih3 _ _ _ _ _
   | exact LeO.none _
   | refine LeO.ite ?_ ?_
   | refine LeO.bind ?_ (fun _ => ?_)
def r11Binomial.T13 : Bool × List (List Nat × List Nat) := (true, [([], []), ([], []), ([0, 1], [0, 1]), ([2], [2]), ([], []), ([], []), ([5], [5]), ([4, 6], [4, 6]), ([7], [7]), ([3, 8], [3, 8]), ([0, 1, 0, 1, 2, 3, 4, 5, 6, 7, 8, 9], [0, 1]), ([10, 9, 0, 1, 2, 3, 4, 5, 6, 7, 8, 9], [9, 10])])
def r11Binomial.B13 : List Nat := [0, 0, 3, 7, 0, 0, 32, 112, 240, 511, 1023, 2047]
theorem r11Binomial.tab13 : rtab .any (opsOf Try.f50 13) = r11Binomial.T13 := by kernel_rfl
theorem r11Binomial.bits13 : waitsOk r11Binomial.T13.2 r11Binomial.B13 = true := by kernel_rfl
set_option maxHeartbeats 8000000 in
set_option maxRecDepth 100000 in
theorem r11Binomial.calls (k : Nat) (a0 : Int) (a1 : Int) (r1 : Int) (r2 : Int) (w : World) (h : r11Binomial.f k a0 a1 = some (r1, r2)) :
  Calls Try.prog 50 #[.int .i64 a0, .int .i64 a1] w fun e w' => e = .returned (.tuple #[.int .i64 r1, .int .i64 r2]) ∧ Below w.heap.size w w' := by
 have HB := K0 (Below.refl w.heap.size w); have H : (if a0 < 0 then (r11Binomial.j0 k a0 a1 true) else (r11Binomial.j0 k a0 a1 (decide (a0 > 64)))) = some (r1, r2) := h; clear h; have HC3 := K0 H; clear H; go_enter Try.func50, Try.ntmps50; (go_upto_region 1 with (fail)); go_cut [14] (fun v14 wc => ∃ (kq : Nat) (x14_2 : Bool), v14 = .bool x14_2 ∧ Aside0 (r11Binomial.j0 kq a0 a1 x14_2 = some (r1, r2)) ∧ Aside0 (kq ≤ k) ∧ Aside0 (Below w.heap.size w wc))
 case first =>
  have H := HC3.out; clear HC3; by_cases c4 : a0 < 0
  ·rw [if_pos c4] at H; have c4b0 : decide (a0 < 0) = true := decide_eq_true c4; clear c4; (first | rw [c4b0] | (simp only [i64_w, i32_w]; rw [c4b0]) | skip); have H' := K0 H; clear H; go_wp2; go_meet
   case rel => exact ⟨_, (true), si_, H', ⟨by first | omega | exact Nat.le_refl _⟩, ⟨hb_⟩⟩
  ·rw [if_neg c4] at H; have c4b0 : decide (a0 < 0) = false := decide_eq_false c4; clear c4; (first | rw [c4b0] | (simp only [i64_w, i32_w]; rw [c4b0]) | skip); have H' := K0 H; clear H; go_wp2; go_meet
   case rel => exact ⟨_, (decide (a0 > 64)), si_, H', ⟨by first | omega | exact Nat.le_refl _⟩, ⟨hb_⟩⟩
 case rest =>
  clear HC3; (try clear p2); (try clear c4); (try clear c4b0); obtain ⟨kq, x14_2, rfl, HA, HJ2, HB⟩ := hcut
  cases kq with
  | zero => exact absurd HA.out (by simp [r11Binomial.j0])
  | succ kj2 =>
   have H := HA.out; clear HA; simp only [r11Binomial.j0] at H; by_cases c5 : x14_2 = true
   ·subst c5; (have H1 : (some (0, 6)) = some (r1, r2) := by rw [if_pos rfl] at H; exact H); clear H; have H := H1; clear H1; simp only [Option.some.injEq, Prod.mk.injEq] at H; obtain ⟨rfl, rfl⟩ := H; go_wp2; go_ret2; exact ⟨er_, hb_⟩
   ·replace c5 := Bool.eq_false_iff.mpr c5; subst c5; (have H1 : (if a1 < 0 then (r11Binomial.j1 kj2 a0 a1 true) else (r11Binomial.j1 kj2 a0 a1 (decide (a1 > a0)))) = some (r1, r2) := by rw [if_neg (show ¬ (false = true) by decide)] at H; exact H); clear H; have H := H1; clear H1; have HC6 := K0 H; clear H; (go_upto_region 3 with (fail)); go_cut [21] (fun v21 wc => ∃ (kq : Nat) (x21_5 : Bool), v21 = .bool x21_5 ∧ Aside0 (r11Binomial.j1 kq a0 a1 x21_5 = some (r1, r2)) ∧ Aside0 (kq ≤ kj2) ∧ Aside0 (Below w.heap.size w wc))
    case first =>
     have H := HC6.out; clear HC6; by_cases c7 : a1 < 0
     ·rw [if_pos c7] at H; have c7b0 : decide (a1 < 0) = true := decide_eq_true c7; clear c7; (first | rw [c7b0] | (simp only [i64_w, i32_w]; rw [c7b0]) | skip); have H' := K0 H; clear H; go_wp2; go_meet
      case rel => exact ⟨_, (true), si_, H', ⟨by have := HJ2.out; first | omega | exact Nat.le_refl _⟩, ⟨hb_⟩⟩
     ·rw [if_neg c7] at H; have c7b0 : decide (a1 < 0) = false := decide_eq_false c7; clear c7; (first | rw [c7b0] | (simp only [i64_w, i32_w]; rw [c7b0]) | skip); have H' := K0 H; clear H; go_wp2; go_meet
      case rel => exact ⟨_, (decide (a1 > a0)), si_, H', ⟨by have := HJ2.out; first | omega | exact Nat.le_refl _⟩, ⟨hb_⟩⟩
    case rest =>
     clear HC6; (try clear p2); (try clear c4); (try clear c4b0); (try clear c5); (try clear c7); (try clear c7b0); (try clear p2); obtain ⟨kq, x21_5, rfl, HA, HJ5, HB⟩ := hcut
     cases kq with
     | zero => exact absurd HA.out (by simp [r11Binomial.j1])
     | succ kj5 =>
      have H := HA.out; clear HA; simp only [r11Binomial.j1] at H; by_cases c8 : x21_5 = true
      ·subst c8; (have H1 : (some (0, 0)) = some (r1, r2) := by rw [if_pos rfl] at H; exact H); clear H; have H := H1; clear H1; simp only [Option.some.injEq, Prod.mk.injEq] at H; obtain ⟨rfl, rfl⟩ := H; go_wp2; go_ret2; exact ⟨er_, hb_⟩
      ·replace c8 := Bool.eq_false_iff.mpr c8; subst c8; (have H1 : (if 0 ≤ (wrap64 (a0 + 1)) then (if (wrap64 (a0 + 1) : Int).toNat ≤ 35184372088832 then ((some (List.replicate (wrap64 (a0 + 1) : Int).toNat 0 : List Int)).bind fun y104 => (if 0 < (y104.length : Int) then (r11Binomial.l0 kj5 a0 a1 (y104.set (0 : Int).toNat 1) 1) else (none))) else (none)) else (none)) = some (r1, r2) := by rw [if_neg (show ¬ (false = true) by decide)] at H; exact H); clear H; have H := H1; clear H1; obtain ⟨ji9, hji9⟩ : ∃ j_ : Int, (wrap64 (a0 + 1)) = j_ := ⟨_, rfl⟩; (replace H : (if 0 ≤ (ji9) then (if (ji9 : Int).toNat ≤ 35184372088832 then ((some (List.replicate (ji9 : Int).toNat 0 : List Int)).bind fun y104 => (if 0 < (y104.length : Int) then (r11Binomial.l0 kj5 a0 a1 (y104.set (0 : Int).toNat 1) 1) else (none))) else (none)) else (none)) = some (r1, r2) := by first | (rw [hji9] at H; exact H) | (simp only [hji9] at H ⊢; exact H)); have hji9w : (IntKind.i64.wrap (a0 + 1)) = ji9 := (i64_w _).trans hji9; by_cases c10 : 0 ≤ (ji9)
       ·rw [if_pos c10] at H; have c10b0 := eq_true c10; have c10b1 : decide (0 ≤ (ji9)) = true := decide_eq_true c10; clear c10; by_cases c11 : (ji9 : Int).toNat ≤ 35184372088832
        ·rw [if_pos c11] at H; have c11b0 := eq_true c11; have c11b1 : decide ((ji9 : Int).toNat ≤ 35184372088832) = true := decide_eq_true c11; clear c11; obtain ⟨y104, hy104⟩ : ∃ y_ : List Int, y_ = (List.replicate (ji9 : Int).toNat 0) := ⟨_, rfl⟩; replace H : (if 0 < (y104.length : Int) then (r11Binomial.l0 kj5 a0 a1 (y104.set (0 : Int).toNat 1) 1) else (none)) = some (r1, r2) := rq_ hy104 H; have Ny104 := K0 hy104; clear hy104; by_cases c12 : 0 < (y104.length : Int)
         ·rw [if_pos c12] at H; have c12b0 : decide (0 < (y104.length : Int)) = true := decide_eq_true c12; have c12b1 : decide (0 < y104.length) = true := decide_eq_true (by omega); clear c12; obtain ⟨y107, hy107⟩ : ∃ y_ : List Int, y_ = (y104.set (0 : Int).toNat 1) := ⟨_, rfl⟩; replace H : (r11Binomial.l0 kj5 a0 a1 y107 1) = some (r1, r2) := rq_ hy107 H; have Ny107 := K0 hy107; clear hy107; have H' := K0 H; clear H; go_wp2_with (first | ((with_reducible refine gate_dst (N := 24) rfl ?_); refine Kd.R_make (Kd.int .i64) _ 3 rfl (N := 24) rfl 22 _ _ rfl ji9 rfl rfl Try.underlying22 (.int .i64 0) 8 info3 rfl (by decide) (by omega) 0 (ok := fun _ => True) (okp := fun _ => True) rfl (fun _ hk => hk) trivial od_ (Nat.le_trans (Nat.mul_le_mul_right _ (od_ : ji9.toNat ≤ 35184372088832)) (by omega)) (Below.refl _ _) (Nat.le_refl _) ?_; intro v105 w14 ho15 hb hg_ hnew_; clear hg_ hnew_; (first | rw [← Ny104.out] at ho15 | (simp only [Int.reduceToNat] at ho15; rw [← Ny104.out] at ho15)); have n0_ := K0 (Kd.R_lower ho15 (below_size hb_)); have n1_ := K0 (below_step hb_ hb); clear HB; have HO106 := n0_; have HB := n1_; clear n0_ n1_; clear hb ho15; have p13 : 0 ≤ (0 : Int) := (by omega); have q13 : (0 : Int) < ((y104.length : Int) : Int) := od_; have qi13 : (0 < y104.length) = True := eq_true (by omega); obtain ⟨go13, co13, eo13, gb13, gl13, cl13, HG13⟩ := Kd.R_form HO106.out (by omega); (first | cases eo13 | (injection eo13 with ea_ en_ ec_; (first | subst ea_ | (injection ea_ with ea_; subst ea_)); subst ec_; clear en_)); have GB13 := K0 gb13; have GG13 := K0 HG13; clear gb13 gl13 HG13; obtain ⟨hx13_0, hf13_0⟩ := Kd.R_celln 0 HO106.out (0 : Int) p13 q13; (try rw [show ((0 : Int)).toNat = 0 from rfl] at hx13_0); (try simp only [Nat.reduceMul, Nat.zero_mul, Nat.zero_add, Nat.reduceAdd] at hx13_0); (try rw [show ((0 : Int)).toNat = 0 from rfl] at hf13_0); (try simp only [Nat.reduceMul, Nat.zero_mul, Nat.zero_add, Nat.reduceAdd] at hf13_0); replace p13 := eq_true p13; replace q13 := eq_true q13; obtain ⟨hy16_, hz16_⟩ := Kd.R_celln 0 HO106.out (0 : Int) (by omega) od_; (try simp only [Int.reduceToNat, Int.toNat_zero, Int.toNat_ofNat, Nat.reduceMul, Nat.zero_mul, Nat.zero_add] at hy16_ hz16_); (try rw [show ((0 : Int)).toNat = 0 from rfl] at hy16_); (try rw [show ((0 : Int)).toNat = 0 from rfl] at hz16_); have HP16 := Kd.R_putg HO106.out (0 : Int) 1) | ((with_reducible refine gate_store (t := 3) (p := 26) rfl ?_); refine store_event (t := 3) (p := 26) (v := ?vo_w17) (w1 := (w14.setCell ⟨go13, (0 : Int).toNat, none⟩ (.int .i64 1))) ?hg ?ho ?hn ?hr ?_; (case ho => rfl); (case hg => rfl); (case hn => rfl); (case hr => exact gs_); intro w17 hw; have hg : w14.grownBy w17 (some go13) := (by rw [hw]; exact HP16.2); have hp_ : Kd.R (Kd.int .i64) 3 w17 w.heap.size (fun _ => True) (.slice (some ⟨go13, 0, none⟩) y104.length co13) y107 := (by rw [hw, Ny107.out]; exact HP16.1); clear HP16; have n0_ := K0 (hp_); have n1_ := K0 ((by rw [hw]; exact below_set (HB.out) GB13.out : Below w.heap.size w w17)); clear HO106; clear HB; have HO106 := n0_; have HB := n1_; clear n0_ n1_; clear hg hw hp_)); go_loopg [7] kj5 (fun kq v7 w' => ∃ (x6_3 : List Int) (x7_3 : Int), v7 = .int .i64 x7_3 ∧ Aside0 (r11Binomial.l0 kq a0 a1 x6_3 x7_3 = some (r1, r2)) ∧ Aside0 (kq ≤ kj5) ∧ Aside0 (Kd.R (Kd.int .i64) 3 w' w.heap.size (fun _ => True) (.slice (some ⟨go13, 0, none⟩) y104.length co13) x6_3) ∧ Aside0 (Below w.heap.size w w'))
          case atStart => exact ⟨(y107), (1), si_, H', ⟨Nat.le_refl _⟩, ⟨rd_ HO106.out⟩, ⟨hb_⟩⟩
          case round =>
           clear H'; (try clear c1); (try clear p1); (try clear q1); (try clear hx1); (try clear qi1); (try clear p2); (try clear c4); (try clear c4b0); (try clear c5); (try clear p6); (try clear c7); (try clear c7b0); (try clear c8); (try clear c10); (try clear c10b0); (try clear c10b1); (try clear c11); (try clear c11b0); (try clear c11b1); (try clear c12); (try clear c12b0); (try clear c12b1); (try clear p13); (try clear q13); (try clear hx13); (try clear qi13); (try clear hf13); (try clear hx13_0); (try clear p13); (try clear p2); (try clear q13); obtain ⟨x6_3, x7_3, rfl, HA, HK3, HO_6, HB⟩ := hrel; have hl6_3 := (Kd.R_reads' HO_6.out).1; rw [hl6_3] at HO_6; (try simp only [hl6_3])
           cases gk with
           | zero => exact absurd HA.out (by simp [r11Binomial.l0])
           | succ k3 =>
            have H := HA.out; clear HA; simp only [r11Binomial.l0] at H; by_cases c18 : x7_3 ≤ a0
            ·rw [if_pos c18] at H; have c18b0 : decide (x7_3 ≤ a0) = true := decide_eq_true c18; clear c18; have H' := K0 H; clear H; go_wp2; go_loopg [8] k3 (fun kq v8 w' => ∃ (x6_4 : List Int) (x8_4 : Int), v8 = .int .i64 x8_4 ∧ Aside0 (r11Binomial.l1 kq a0 a1 x6_4 x7_3 x8_4 = some (r1, r2)) ∧ Aside0 (kq ≤ k3) ∧ Aside0 (Kd.R (Kd.int .i64) 3 w' w.heap.size (fun _ => True) (.slice (some ⟨go13, 0, none⟩) x6_3.length co13) x6_4) ∧ Aside0 (Below w.heap.size w w'))
             case atStart => exact ⟨(x6_3), (x7_3), si_, H', ⟨Nat.le_refl _⟩, ⟨by (try simp only [hl6_3]); refine rd_ ?_; exact HO_6.out⟩, ⟨hb_⟩⟩
             case round =>
              clear H'; (try clear c1); (try clear p1); (try clear q1); (try clear hx1); (try clear qi1); (try clear p2); (try clear c4); (try clear c4b0); (try clear c5); (try clear p6); (try clear c7); (try clear c7b0); (try clear c8); (try clear c10); (try clear c10b0); (try clear c10b1); (try clear c11); (try clear c11b0); (try clear c11b1); (try clear c12); (try clear c12b0); (try clear c12b1); (try clear p13); (try clear q13); (try clear hx13); (try clear qi13); (try clear hf13); (try clear c18); (try clear c18b0); (try clear hx13_0); (try clear p1); (try clear p13); (try clear p2); (try clear p6); (try clear q1); (try clear q13); obtain ⟨x6_4, x8_4, rfl, HA, HK4, HO_6, HB⟩ := hrel; have hl6_4 := (Kd.R_reads' HO_6.out).1; rw [hl6_4] at HO_6; (try simp only [hl6_4])
              cases gk with
              | zero => exact absurd HA.out (by simp [r11Binomial.l1])
              | succ k4 =>
               have H := HA.out; clear HA; simp only [r11Binomial.l1] at H; by_cases c19 : x8_4 ≥ 1
               ·rw [if_pos c19] at H; have c19b0 : decide (1 ≤ x8_4) = true := decide_eq_true c19; clear c19; by_cases c20 : 0 ≤ x8_4
                ·rw [if_pos c20] at H; have c20b0 : decide (0 ≤ x8_4) = true := decide_eq_true c20; clear c20; by_cases c21 : x8_4 < (x6_4.length : Int)
                 ·rw [if_pos c21] at H; have c21b0 : decide (x8_4 < (x6_4.length : Int)) = true := decide_eq_true c21; (try simp only [hl6_3, hl6_4] at c21b0); clear c21; obtain ⟨ji22, hji22⟩ : ∃ j_ : Int, (wrap64 (x8_4 - 1)) = j_ := ⟨_, rfl⟩; (replace H : (if 0 ≤ (ji22) then (if (ji22) < (x6_4.length : Int) then (r11Binomial.l1 k4 a0 a1 (x6_4.set (x8_4 : Int).toNat (wrap64 ((rd x6_4 x8_4) + (rd x6_4 (ji22))))) x7_3 ji22) else (none)) else (none)) = some (r1, r2) := by first | (rw [hji22] at H; exact H) | (simp only [hji22] at H ⊢; exact H)); have hji22w : (IntKind.i64.wrap (x8_4 - 1)) = ji22 := (i64_w _).trans hji22; by_cases c23 : 0 ≤ (ji22)
                  ·rw [if_pos c23] at H; have c23b0 : decide (0 ≤ (ji22)) = true := decide_eq_true c23; clear c23; by_cases c24 : (ji22) < (x6_4.length : Int)
                   ·rw [if_pos c24] at H; have c24b0 : decide ((ji22) < (x6_4.length : Int)) = true := decide_eq_true c24; (try simp only [hl6_3, hl6_4] at c24b0); clear c24; obtain ⟨y111, hy111⟩ : ∃ y_ : List Int, y_ = (x6_4.set (x8_4 : Int).toNat (wrap64 ((rd x6_4 x8_4) + (rd x6_4 (ji22))))) := ⟨_, rfl⟩; replace H : (r11Binomial.l1 k4 a0 a1 y111 x7_3 ji22) = some (r1, r2) := rq_ hy111 H; have Ny111 := K0 hy111; clear hy111; have H' := K0 H; clear H; (try go_wp2); have n0_ := K0 (Kd.R_drew HO_6.out); have n1_ := K0 (below_drew1 HB.out); clear HO_6; clear HB; have HO_6 := n0_; have HB := n1_; clear n0_ n1_; have p109 : 0 ≤ (x8_4 : Int) := od_; have q109 : x8_4 < (x6_4.length : Int) := od_; obtain ⟨ad109, e109, hx109_0⟩ := Kd.at_int (Kd.R_reads' HO_6.out).2.2 x8_4 p109 q109; obtain rfl : (⟨go13, 0, none⟩ : Addr) = ad109 := (by injection e109); (first | simp only [add_plain] at hx109_0 | simp only [add_at] at hx109_0 | simp only [Addr.add, Nat.zero_add] at hx109_0 | skip); replace p109 := eq_true p109; replace q109 := eq_true q109; have p110 : 0 ≤ ((ji22) : Int) := od_; have q110 : (ji22) < (x6_4.length : Int) := od_; obtain ⟨ad110, e110, hx110_0⟩ := Kd.at_int (Kd.R_reads' HO_6.out).2.2 (ji22) p110 q110; obtain rfl : (⟨go13, 0, none⟩ : Addr) = ad110 := (by injection e110); (first | simp only [add_plain] at hx110_0 | simp only [add_at] at hx110_0 | simp only [Addr.add, Nat.zero_add] at hx110_0 | skip); replace p110 := eq_true p110; replace q110 := eq_true q110; have p25 : 0 ≤ (x8_4 : Int) := od_; have q25 : (x8_4 : Int) < ((x6_4.length : Int) : Int) := od_; obtain ⟨hx25_0, hf25_0⟩ := Kd.R_celln 0 HO_6.out (x8_4 : Int) p25 q25; replace p25 := eq_true p25; replace q25 := eq_true q25; have HP27 := Kd.R_putn HO_6.out (x8_4 : Int) (wrap64 ((rd x6_4 x8_4) + (rd x6_4 (ji22)))); rw [← Ny111.out] at HP27; have HQ27 := K0 HP27; clear HP27; refine start_ (n := 12) (S := fun w' => w'.cell? ⟨go13, (x8_4).toNat, none⟩ = some (.int .i64 (rd x6_4 x8_4)) ∧ w'.cell? ⟨go13, ((ji22)).toNat, none⟩ = some (.int .i64 (rd x6_4 (ji22)))) (ds := [11]) #[false, false, false, false, false, false, false, false, false, false, false, false] (by kernel_rfl) rfl rfl ⟨hx109_0, hx110_0⟩ (fun hHeld => ?_); refine with_tabW r11Binomial.tab13 r11Binomial.bits13 (fun HT_ HW_ => ?_); generalize wr.drew = w26 at HO_6 HB HQ27 hf25_0 hx109_0 hx110_0 hx25_0 hHeld ⊢; refine pv_ (i := 0) (N := some 37) ?_; refine pv_ (i := 1) (N := some 38) ?_; refine pv_ (i := 2) (N := some 39) ?_; refine pv_ (i := 4) (N := some 41) ?_; refine pv_ (i := 5) (N := some 42) ?_; refine pv_ (i := 6) (N := some 43) ?_; refine pv_ (i := 7) (N := some 44) ?_; refine tk_ (i := 3) (N := some 40) ?_; refine tk_ (i := 8) (N := some 45) ?_; refine pv_ (i := 9) (N := some 46) ?_; refine pv_ (i := 10) (N := some 47) ?_; refine last_ (i := 11) (N := none) #[true, true, true, true, true, true, true, true, true, true, true, true] rfl rfl (one_of HT_.out (by kernel_rfl)) (by decide) (fun K hK => ?_); refine skip_ (w1 := ?_) (by rfl) rfl ?_ ?_; rotate_left
                    ·go_simp; rfl
                    refine hK.out _ _ ?_; clear hK K; refine done_ (done_of HT_.out (by kernel_rfl)) ?_; (try go_wp2); (try simp only [← hl6_4]); go_roundg k4
                    case measure => have := HJ2.out; have := HJ5.out; have := HK3.out; have := HK4.out; omega
                    case rel => exact ⟨(y111), (ji22), (by first | rfl | (simp; done) | (simp only [← hji22] <;> (first | rfl | simp)) | (simp [*]; done)), H', ⟨by have := HJ2.out; have := HJ5.out; have := HK3.out; have := HK4.out; omega⟩, ⟨by (try simp only [hl6_3]); (try simp only [hl6_4]); refine rd_ ?_; exact HQ27.out⟩, ⟨by repeat (first | (with_reducible first | exact HB.out | apply below_alloc | apply pw_below_drewN | apply below_drew1 | refine below_set ?_ GB13.out) | exact HB.out)⟩⟩
                   ·rw [if_neg c24] at H; exact absurd H (by simp)
                  ·rw [if_neg c23] at H; exact absurd H (by simp)
                 ·rw [if_neg c21] at H; exact absurd H (by simp)
                ·rw [if_neg c20] at H; exact absurd H (by simp)
               ·rw [if_neg c19] at H; have c19b0 : decide (1 ≤ x8_4) = false := decide_eq_false c19; clear c19; have H' := K0 H; clear H; go_wp2; (try simp only [← hl6_3, ← hl6_4]); go_roundg k4
                case measure => have := HJ2.out; have := HJ5.out; have := HK3.out; have := HK4.out; omega
                case rel => exact ⟨(x6_4), (wrap64 (x7_3 + 1)), si_, H', ⟨by have := HJ2.out; have := HJ5.out; have := HK3.out; have := HK4.out; omega⟩, ⟨by (try simp only [hl6_3]); (try simp only [hl6_4]); refine rd_ ?_; exact HO_6.out⟩, ⟨hb_⟩⟩
            ·rw [if_neg c18] at H; have c18b0 : decide (x7_3 ≤ a0) = false := decide_eq_false c18; clear c18; by_cases c28 : 0 ≤ a1
             ·rw [if_pos c28] at H; have c28b0 : decide (0 ≤ a1) = true := decide_eq_true c28; clear c28; by_cases c29 : a1 < (x6_3.length : Int)
              ·rw [if_pos c29] at H; have c29b0 : decide (a1 < (x6_3.length : Int)) = true := decide_eq_true c29; (try simp only [hl6_3] at c29b0); clear c29; simp only [Option.some.injEq, Prod.mk.injEq] at H; obtain ⟨rfl, rfl⟩ := H; have p108 : 0 ≤ (a1 : Int) := od_; have q108 : a1 < (x6_3.length : Int) := od_; obtain ⟨ad108, e108, hx108_0⟩ := Kd.at_int (Kd.R_reads' HO_6.out).2.2 a1 p108 q108; obtain rfl : (⟨go13, 0, none⟩ : Addr) = ad108 := (by injection e108); (first | simp only [add_plain] at hx108_0 | simp only [add_at] at hx108_0 | simp only [Addr.add, Nat.zero_add] at hx108_0 | skip); replace p108 := eq_true p108; replace q108 := eq_true q108; go_wp2; go_ret2; exact ⟨by first | rfl | (simp [errW_none, errW_some] <;> rfl) | (simp only [← hji9]; first | rfl | (simp [errW_none, errW_some] <;> rfl)) | (simp [*, errW_none, errW_some] <;> rfl), hb_⟩
              ·rw [if_neg c29] at H; exact absurd H (by simp)
             ·rw [if_neg c28] at H; exact absurd H (by simp)
         ·rw [if_neg c12] at H; exact absurd H (by simp)
        ·rw [if_neg c11] at H; exact absurd H (by simp)
       ·rw [if_neg c10] at H; exact absurd H (by simp)

/-! ### r11Subsets: function 34 -/
mutual
def r11Subsets.j0 : Nat → Int → Int → Int → Bool → Option ((List (List Int)) × Int)
 | 0, _, _, _, _ => none
 | k + 1, x0, x1, x6, x29 => if x29 = true then (some (([] : List (List Int)), 6)) else (if x6 > 65536 then (some (([] : List (List Int)), 8)) else (if 0 ≤ x1 then (if (x1 : Int).toNat ≤ 35184372088832 then (r11Subsets.l0 k x0 x1 x6 (([] : List (List Int))) (List.replicate (x1 : Int).toNat 0) 0) else (none)) else (none)))
def r11Subsets.l0 : Nat → Int → Int → Int → List (List Int) → List Int → Int → Option ((List (List Int)) × Int)
 | 0, _, _, _, _, _, _ => none
 | k + 1, x0, x1, x6, x8, x9, x10 => if x10 < x1 then (if 0 ≤ x10 then (if x10 < (x9.length : Int) then (r11Subsets.l0 k x0 x1 x6 x8 (x9.set (x10 : Int).toNat x10) (wrap64 (x10 + 1))) else (none)) else (none)) else (r11Subsets.l1 k x0 x1 x6 x8 x9 0)
def r11Subsets.l1 : Nat → Int → Int → Int → List (List Int) → List Int → Int → Option ((List (List Int)) × Int)
 | 0, _, _, _, _, _, _ => none
 | k + 1, x0, x1, x6, x8, x9, x11 => if x11 < x6 then ((some (([] : List Int) : List Int)).bind fun y121 => (if y121.length + x9.length < 17592186044416 then (if x8.length < 5864062014805 then (r11Subsets.l2 k x0 x1 x6 (x8 ++ [(y121 ++ x9)]) x9 x11 (wrap64 (x1 - 1))) else (none)) else (none))) else (some (x8, 0))
def r11Subsets.j4 : Nat → Int → Int → Int → List (List Int) → List Int → Int → Int → Option ((List (List Int)) × Int)
 | 0, _, _, _, _, _, _, _ => none
 | k + 1, x0, x1, x6, x8, x9, x11, x12 => if x12 ≥ 0 then (if 0 ≤ x12 then (if x12 < (x9.length : Int) then (r11Subsets.l3 k x0 x1 x6 x8 (x9.set (x12 : Int).toNat (wrap64 ((rd x9 x12) + 1))) x11 (wrap64 (x12 + 1))) else (none)) else (none)) else (r11Subsets.l1 k x0 x1 x6 x8 x9 (wrap64 (x11 + 1)))
def r11Subsets.l3 : Nat → Int → Int → Int → List (List Int) → List Int → Int → Int → Option ((List (List Int)) × Int)
 | 0, _, _, _, _, _, _, _ => none
 | k + 1, x0, x1, x6, x8, x9, x11, x13 => if x13 < x1 then (if 0 ≤ (wrap64 (x13 - 1)) then (if (wrap64 (x13 - 1)) < (x9.length : Int) then (if 0 ≤ x13 then (if x13 < (x9.length : Int) then (r11Subsets.l3 k x0 x1 x6 x8 (x9.set (x13 : Int).toNat (wrap64 ((rd x9 (wrap64 (x13 - 1))) + 1))) x11 (wrap64 (x13 + 1))) else (none)) else (none)) else (none)) else (none)) else (r11Subsets.l1 k x0 x1 x6 x8 x9 (wrap64 (x11 + 1)))
def r11Subsets.l2 : Nat → Int → Int → Int → List (List Int) → List Int → Int → Int → Option ((List (List Int)) × Int)
 | 0, _, _, _, _, _, _, _ => none
 | k + 1, x0, x1, x6, x8, x9, x11, x12 => if x12 ≥ 0 then (if 0 ≤ x12 then (if x12 < (x9.length : Int) then (if (rd x9 x12) = (wrap64 ((wrap64 (x0 - x1)) + x12)) then (r11Subsets.l2 k x0 x1 x6 x8 x9 x11 (wrap64 (x12 - 1))) else (r11Subsets.j4 k x0 x1 x6 x8 x9 x11 x12)) else (none)) else (none)) else (r11Subsets.j4 k x0 x1 x6 x8 x9 x11 x12)
end
def r11Subsets.f (k : Nat) (a0 : Int) (a1 : Int) : Option ((List (List Int)) × Int) := (r11Binomial.f k a0 a1).bind fun bt112 => (if bt112.2 = 0 then (if a1 < 0 then (r11Subsets.j0 k a0 a1 bt112.1 true) else (r11Subsets.j0 k a0 a1 bt112.1 (decide (a1 > a0)))) else (some (([] : List (List Int)), bt112.2)))
theorem r11Subsets.mono_l : ∀ k, (∀ y0 y1 y2 y3, LeO (r11Subsets.j0 k y0 y1 y2 y3) (r11Subsets.j0 (k + 1) y0 y1 y2 y3)) ∧ (∀ y0 y1 y2 y3 y4 y5, LeO (r11Subsets.l0 k y0 y1 y2 y3 y4 y5) (r11Subsets.l0 (k + 1) y0 y1 y2 y3 y4 y5)) ∧ (∀ y0 y1 y2 y3 y4 y5, LeO (r11Subsets.l1 k y0 y1 y2 y3 y4 y5) (r11Subsets.l1 (k + 1) y0 y1 y2 y3 y4 y5)) ∧ (∀ y0 y1 y2 y3 y4 y5 y6, LeO (r11Subsets.j4 k y0 y1 y2 y3 y4 y5 y6) (r11Subsets.j4 (k + 1) y0 y1 y2 y3 y4 y5 y6)) ∧ (∀ y0 y1 y2 y3 y4 y5 y6, LeO (r11Subsets.l3 k y0 y1 y2 y3 y4 y5 y6) (r11Subsets.l3 (k + 1) y0 y1 y2 y3 y4 y5 y6)) ∧ (∀ y0 y1 y2 y3 y4 y5 y6, LeO (r11Subsets.l2 k y0 y1 y2 y3 y4 y5 y6) (r11Subsets.l2 (k + 1) y0 y1 y2 y3 y4 y5 y6))
 | 0 => ⟨fun _ _ _ _ r h => by simp [r11Subsets.j0] at h, fun _ _ _ _ _ _ r h => by simp [r11Subsets.l0] at h, fun _ _ _ _ _ _ r h => by simp [r11Subsets.l1] at h, fun _ _ _ _ _ _ _ r h => by simp [r11Subsets.j4] at h, fun _ _ _ _ _ _ _ r h => by simp [r11Subsets.l3] at h, fun _ _ _ _ _ _ _ r h => by simp [r11Subsets.l2] at h⟩
 | k + 1 => by
  obtain ⟨ih0, ih1, ih2, ih3, ih4, ih5⟩ := r11Subsets.mono_l k; refine ⟨?_, ?_, ?_, ?_, ?_, ?_⟩
  ·intro y0 y1 y2 y3; unfold r11Subsets.j0
   repeat' first
   | (with_reducible exact ih0 _ _ _ _)
   | (with_reducible exact ih1 _ _ _ _ _ _)
   | (with_reducible exact ih2 _ _ _ _ _ _)
   | (with_reducible exact ih3 _ _ _ _ _ _ _)
   | (with_reducible exact ih4 _ _ _ _ _ _ _)
   | (with_reducible exact ih5 _ _ _ _ _ _ _)
   | (with_reducible exact r11Binomial.mono _ _ _)
   | (with_reducible exact LeO.refl _)
   | (with_reducible exact LeO.none _)
   | (with_reducible refine LeO.ite ?_ ?_)
   | (with_reducible refine LeO.bind ?_ (fun _ => ?_))
   | exact ih0 _ _ _ _
   | exact ih1 _ _ _ _ _ _
   | exact ih2 _ _ _ _ _ _
   | exact ih3 _ _ _ _ _ _ _
   | exact ih4 _ _ _ _ _ _ _
   | exact ih5 _ _ _ _ _ _ _
   | exact r11Binomial.mono _ _ _
   | exact LeO.none _
   | refine LeO.ite ?_ ?_
   | refine LeO.bind ?_ (fun _ => ?_)
  ·intro y0 y1 y2 y3 y4 y5; unfold r11Subsets.l0
   repeat' first
   | (with_reducible exact ih0 _ _ _ _)
   | (with_reducible exact ih1 _ _ _ _ _ _)
   | (with_reducible exact ih2 _ _ _ _ _ _)
   | (with_reducible exact ih3 _ _ _ _ _ _ _)
   | (with_reducible exact ih4 _ _ _ _ _ _ _)
   | (with_reducible exact ih5 _ _ _ _ _ _ _)
   | (with_reducible exact r11Binomial.mono _ _ _)
   | (with_reducible exact LeO.refl _)
   | (with_reducible exact LeO.none _)
   | (with_reducible refine LeO.ite ?_ ?_)
   | (with_reducible refine LeO.bind ?_ (fun _ => ?_))
   | exact ih0 _ _ _ _
   | exact ih1 _ _ _ _ _ _
   | exact ih2 _ _ _ _ _ _
   | exact ih3 _ _ _ _ _ _ _
   | exact ih4 _ _ _ _ _ _ _
   | exact ih5 _ _ _ _ _ _ _
   | exact r11Binomial.mono _ _ _
   | exact LeO.none _
   | refine LeO.ite ?_ ?_
   | refine LeO.bind ?_ (fun _ => ?_)
  ·intro y0 y1 y2 y3 y4 y5; unfold r11Subsets.l1
   repeat' first
   | (with_reducible exact ih0 _ _ _ _)
   | (with_reducible exact ih1 _ _ _ _ _ _)
   | (with_reducible exact ih2 _ _ _ _ _ _)
   | (with_reducible exact ih3 _ _ _ _ _ _ _)
   | (with_reducible exact ih4 _ _ _ _ _ _ _)
   | (with_reducible exact ih5 _ _ _ _ _ _ _)
   | (with_reducible exact r11Binomial.mono _ _ _)
   | (with_reducible exact LeO.refl _)
   | (with_reducible exact LeO.none _)
   | (with_reducible refine LeO.ite ?_ ?_)
   | (with_reducible refine LeO.bind ?_ (fun _ => ?_))
   | exact ih0 _ _ _ _
   | exact ih1 _ _ _ _ _ _
   | exact ih2 _ _ _ _ _ _
   | exact ih3 _ _ _ _ _ _ _
   | exact ih4 _ _ _ _ _ _ _
   | exact ih5 _ _ _ _ _ _ _
   | exact r11Binomial.mono _ _ _
   | exact LeO.none _
   | refine LeO.ite ?_ ?_
   | refine LeO.bind ?_ (fun _ => ?_)
  ·intro y0 y1 y2 y3 y4 y5 y6; unfold r11Subsets.j4
   repeat' first
   | (with_reducible exact ih0 _ _ _ _)
   | (with_reducible exact ih1 _ _ _ _ _ _)
   | (with_reducible exact ih2 _ _ _ _ _ _)
   | (with_reducible exact ih3 _ _ _ _ _ _ _)
   | (with_reducible exact ih4 _ _ _ _ _ _ _)
   | (with_reducible exact ih5 _ _ _ _ _ _ _)
   | (with_reducible exact r11Binomial.mono _ _ _)
   | (with_reducible exact LeO.refl _)
   | (with_reducible exact LeO.none _)
   | (with_reducible refine LeO.ite ?_ ?_)
   | (with_reducible refine LeO.bind ?_ (fun _ => ?_))
   | exact ih0 _ _ _ _
   | exact ih1 _ _ _ _ _ _
   | exact ih2 _ _ _ _ _ _
   | exact ih3 _ _ _ _ _ _ _
   | exact ih4 _ _ _ _ _ _ _
   | exact ih5 _ _ _ _ _ _ _
   | exact r11Binomial.mono _ _ _
   | exact LeO.none _
   | refine LeO.ite ?_ ?_
   | refine LeO.bind ?_ (fun _ => ?_)
  ·intro y0 y1 y2 y3 y4 y5 y6; unfold r11Subsets.l3
   repeat' first
   | (with_reducible exact ih0 _ _ _ _)
   | (with_reducible exact ih1 _ _ _ _ _ _)
   | (with_reducible exact ih2 _ _ _ _ _ _)
   | (with_reducible exact ih3 _ _ _ _ _ _ _)
   | (with_reducible exact ih4 _ _ _ _ _ _ _)
   | (with_reducible exact ih5 _ _ _ _ _ _ _)
   | (with_reducible exact r11Binomial.mono _ _ _)
   | (with_reducible exact LeO.refl _)
   | (with_reducible exact LeO.none _)
   | (with_reducible refine LeO.ite ?_ ?_)
   | (with_reducible refine LeO.bind ?_ (fun _ => ?_))
   | exact ih0 _ _ _ _
   | exact ih1 _ _ _ _ _ _
   | exact ih2 _ _ _ _ _ _
   | exact ih3 _ _ _ _ _ _ _
   | exact ih4 _ _ _ _ _ _ _
   | exact ih5 _ _ _ _ _ _ _
   | exact r11Binomial.mono _ _ _
   | exact LeO.none _
   | refine LeO.ite ?_ ?_
   | refine LeO.bind ?_ (fun _ => ?_)
  ·intro y0 y1 y2 y3 y4 y5 y6; unfold r11Subsets.l2
   repeat' first
   | (with_reducible exact ih0 _ _ _ _)
   | (with_reducible exact ih1 _ _ _ _ _ _)
   | (with_reducible exact ih2 _ _ _ _ _ _)
   | (with_reducible exact ih3 _ _ _ _ _ _ _)
   | (with_reducible exact ih4 _ _ _ _ _ _ _)
   | (with_reducible exact ih5 _ _ _ _ _ _ _)
   | (with_reducible exact r11Binomial.mono _ _ _)
   | (with_reducible exact LeO.refl _)
   | (with_reducible exact LeO.none _)
   | (with_reducible refine LeO.ite ?_ ?_)
   | (with_reducible refine LeO.bind ?_ (fun _ => ?_))
   | exact ih0 _ _ _ _
   | exact ih1 _ _ _ _ _ _
   | exact ih2 _ _ _ _ _ _
   | exact ih3 _ _ _ _ _ _ _
   | exact ih4 _ _ _ _ _ _ _
   | exact ih5 _ _ _ _ _ _ _
   | exact r11Binomial.mono _ _ _
   | exact LeO.none _
   | refine LeO.ite ?_ ?_
   | refine LeO.bind ?_ (fun _ => ?_)
theorem r11Subsets.mono : ∀ a0 a1 k, LeO (r11Subsets.f k a0 a1) (r11Subsets.f (k + 1) a0 a1) := by
 intro a0 a1 k; obtain ⟨ih0, ih1, ih2, ih3, ih4, ih5⟩ := r11Subsets.mono_l k; unfold r11Subsets.f
 repeat' first
   | (with_reducible exact ih0 _ _ _ _)
   | (with_reducible exact ih1 _ _ _ _ _ _)
   | (with_reducible exact ih2 _ _ _ _ _ _)
   | (with_reducible exact ih3 _ _ _ _ _ _ _)
   | (with_reducible exact ih4 _ _ _ _ _ _ _)
   | (with_reducible exact ih5 _ _ _ _ _ _ _)
   | (with_reducible exact r11Binomial.mono _ _ _)
   | (with_reducible exact LeO.refl _)
   | (with_reducible exact LeO.none _)
   | (with_reducible refine LeO.ite ?_ ?_)
   | (with_reducible refine LeO.bind ?_ (fun _ => ?_))
   | exact ih0 _ _ _ _
   | exact ih1 _ _ _ _ _ _
   | exact ih2 _ _ _ _ _ _
   | exact ih3 _ _ _ _ _ _ _
   | exact ih4 _ _ _ _ _ _ _
   | exact ih5 _ _ _ _ _ _ _
   | exact r11Binomial.mono _ _ _
   | exact LeO.none _
   | refine LeO.ite ?_ ?_
   | refine LeO.bind ?_ (fun _ => ?_)
set_option maxHeartbeats 8000000 in
set_option maxRecDepth 100000 in
theorem r11Subsets.calls (k : Nat) (a0 : Int) (a1 : Int) (r1 : List (List Int)) (r2 : Int) (w : World) (h : r11Subsets.f k a0 a1 = some (r1, r2)) :
  Calls Try.prog 34 #[.int .i64 a0, .int .i64 a1] w fun e w' => ∃ v0_ : Value, e = .returned (.tuple #[v0_, .int .i64 r2]) ∧ Kd.S (Kd.slice 3 (Kd.int .i64)) 22 w' w.heap.size (fun _ => True) v0_ r1 ∧ Below w.heap.size w w' := by
 have HB := K0 (Below.refl w.heap.size w); have H : ((r11Binomial.f k a0 a1).bind fun bt112 => (if bt112.2 = 0 then (if a1 < 0 then (r11Subsets.j0 k a0 a1 bt112.1 true) else (r11Subsets.j0 k a0 a1 bt112.1 (decide (a1 > a0)))) else (some (([] : List (List Int)), bt112.2)))) = some (r1, r2) := h; clear h; replace H := Option.bind_eq_some_iff.mp H; obtain ⟨⟨t112, t113⟩, A30, H⟩ := H; (try dsimp only at H); have A3 := K0 A30; clear A30; have HS4 := K0 H; clear H; go_enter Try.func34, Try.ntmps34; (go_upto_if 21 with (first | ((with_reducible refine gate_callee (f := 50) rfl ?_); refine goesL_ (some 17) rfl rfl Try.func50 (by kernel_rfl) rfl #[.int .i64 a0, .int .i64 a1] rfl ma_ ?_; (with_reducible refine (r11Binomial.calls k a0 a1 t112 t113 _ A3.out).mono ?_); rintro e w5 ⟨rfl, hb⟩; refine ⟨_, rfl, ?_⟩; have n0_ := K0 (below_step hb_ hb); clear HB; have HB := n0_; clear n0_; (try clear hb); (try clear hb2); (try clear hk); (try clear hi)))); (try simp only [Act.put, sA, sZ, sS]); have H := HS4.out; clear HS4; by_cases c6 : t113 = 0
 ·rw [if_pos c6] at H; have c6b0 : (t113 == 0) = true := beq_iff_eq.mpr c6; have c6b1 : (t113 != 0) = false := bne_eq_false_iff_eq.mpr c6; clear c6; (first | rw [c6b0] | (simp only [i64_w, i32_w]; rw [c6b0]) | skip); have HC7 := K0 H; clear H; (go_upto_region 4 with (fail)); go_cut [29] (fun v29 wc => ∃ (kq : Nat) (x29_6 : Bool), v29 = .bool x29_6 ∧ Aside0 (r11Subsets.j0 kq a0 a1 t112 x29_6 = some (r1, r2)) ∧ Aside0 (kq ≤ k) ∧ Aside0 (Below w.heap.size w wc))
  case first =>
   have H := HC7.out; clear HC7; by_cases c8 : a1 < 0
   ·rw [if_pos c8] at H; have c8b0 : decide (a1 < 0) = true := decide_eq_true c8; clear c8; (first | rw [c8b0] | (simp only [i64_w, i32_w]; rw [c8b0]) | skip); have H' := K0 H; clear H; go_wp2; go_meet
    case rel => exact ⟨_, (true), si_, H', ⟨by first | omega | exact Nat.le_refl _⟩, ⟨hb_⟩⟩
   ·rw [if_neg c8] at H; have c8b0 : decide (a1 < 0) = false := decide_eq_false c8; clear c8; (first | rw [c8b0] | (simp only [i64_w, i32_w]; rw [c8b0]) | skip); have H' := K0 H; clear H; go_wp2; go_meet
    case rel => exact ⟨_, (decide (a1 > a0)), si_, H', ⟨by first | omega | exact Nat.le_refl _⟩, ⟨hb_⟩⟩
  case rest =>
   clear HC7; (try clear p2); (try clear c3); (try clear c5); (try clear c6); (try clear c6b0); (try clear c6b1); (try clear c8); (try clear c8b0); obtain ⟨kq, x29_6, rfl, HA, HJ6, HB⟩ := hcut
   cases kq with
   | zero => exact absurd HA.out (by simp [r11Subsets.j0])
   | succ kj6 =>
    have H := HA.out; clear HA; simp only [r11Subsets.j0] at H; by_cases c9 : x29_6 = true
    ·subst c9; (have H1 : (some (([] : List (List Int)), 6)) = some (r1, r2) := by rw [if_pos rfl] at H; exact H); clear H; have H := H1; clear H1; simp only [Option.some.injEq, Prod.mk.injEq] at H; obtain ⟨rfl, rfl⟩ := H; go_wp2; go_ret2; exact ⟨_, er_, by first | exact Kd.S_nil _ _ _ _ _ | exact Kd.N_nil _ _ _ _ _ | exact Kd.V_nil _ _ _ _ _ | exact Kd.Q_nil _ _ _ _ _ | exact Kd.R_nil _ _ _ _ _, hb_⟩
    ·replace c9 := Bool.eq_false_iff.mpr c9; subst c9; (have H1 : (if t112 > 65536 then (some (([] : List (List Int)), 8)) else (if 0 ≤ a1 then (if (a1 : Int).toNat ≤ 35184372088832 then (r11Subsets.l0 kj6 a0 a1 t112 (([] : List (List Int))) (List.replicate (a1 : Int).toNat 0) 0) else (none)) else (none))) = some (r1, r2) := by rw [if_neg (show ¬ (false = true) by decide)] at H; exact H); clear H; have H := H1; clear H1; by_cases c10 : t112 > 65536
     ·rw [if_pos c10] at H; have c10b0 : decide (65536 < t112) = true := decide_eq_true c10; clear c10; simp only [Option.some.injEq, Prod.mk.injEq] at H; obtain ⟨rfl, rfl⟩ := H; go_wp2; go_ret2; exact ⟨_, er_, by first | exact Kd.S_nil _ _ _ _ _ | exact Kd.N_nil _ _ _ _ _ | exact Kd.V_nil _ _ _ _ _ | exact Kd.Q_nil _ _ _ _ _ | exact Kd.R_nil _ _ _ _ _, hb_⟩
     ·rw [if_neg c10] at H; have c10b0 : decide (65536 < t112) = false := decide_eq_false c10; clear c10; obtain ⟨y114, hy114⟩ : ∃ y_ : List (List Int), y_ = (([] : List (List Int))) := ⟨_, rfl⟩; replace H : (if 0 ≤ a1 then (if (a1 : Int).toNat ≤ 35184372088832 then (r11Subsets.l0 kj6 a0 a1 t112 y114 (List.replicate (a1 : Int).toNat 0) 0) else (none)) else (none)) = some (r1, r2) := rq_ hy114 H; have Ny114 := K0 hy114; clear hy114; by_cases c11 : 0 ≤ a1
      ·rw [if_pos c11] at H; have c11b0 := eq_true c11; have c11b1 : decide (0 ≤ a1) = true := decide_eq_true c11; clear c11; by_cases c12 : (a1 : Int).toNat ≤ 35184372088832
       ·rw [if_pos c12] at H; have c12b0 := eq_true c12; have c12b1 : decide ((a1 : Int).toNat ≤ 35184372088832) = true := decide_eq_true c12; clear c12; obtain ⟨y117, hy117⟩ : ∃ y_ : List Int, y_ = (List.replicate (a1 : Int).toNat 0) := ⟨_, rfl⟩; replace H : (r11Subsets.l0 kj6 a0 a1 t112 y114 y117 0) = some (r1, r2) := rq_ hy117 H; have Ny117 := K0 hy117; clear hy117; have H' := K0 H; clear H; go_wp2_with (first | ((with_reducible refine gate_dst (N := 32) rfl ?_); refine Kd.S_lit (Kd.slice 3 (Kd.int .i64)) _ 22 ?hg (N := 32) ?hd (xs := ([] : List (List Int))) (inner := []) (ok := fun _ => True) (okp := fun _ => True) ?hr ?hp (fun _ hk => hk) trivial (Below.refl _ _) (Nat.le_refl _) (by simp) ?_; (case hd => rfl); (case hg => rfl); (case hr => exact gs_); (case hp => exact (Reps.none _ _)); intro v115 w13 ho14 hb hg_ hnew_; clear hg_ hnew_; (first | rw [← Ny114.out] at ho14 | (simp only [Int.reduceToNat] at ho14; rw [← Ny114.out] at ho14)); have n0_ := K0 (Kd.S_lower ho14 (below_size hb_)); have n1_ := K0 (below_step hb_ hb); clear HB; have HO116 := n0_; have HB := n1_; clear n0_ n1_; clear hb ho14) | ((with_reducible refine gate_dst (N := 34) rfl ?_); refine Kd.R_make (Kd.int .i64) _ 3 rfl (N := 34) rfl 22 _ _ rfl a1 rfl rfl Try.underlying22 (.int .i64 0) 8 info3 rfl (by decide) (by omega) 0 (ok := fun _ => True) (okp := fun _ => True) rfl (fun _ hk => hk) trivial od_ (Nat.le_trans (Nat.mul_le_mul_right _ (od_ : a1.toNat ≤ 35184372088832)) (by omega)) (Below.refl _ _) (Nat.le_refl _) ?_; intro v118 w15 ho16 hb hg_ hnew_; clear hg_ hnew_; (first | rw [← Ny117.out] at ho16 | (simp only [Int.reduceToNat] at ho16; rw [← Ny117.out] at ho16)); have n0_ := K0 (Kd.S_elder' (sd_ HO116.out) (Kd.R_base ho16) hb); have n1_ := K0 (Kd.R_lower ho16 (below_size hb_)); have n2_ := K0 (below_step hb_ hb); clear HO116; clear HB; have HO116 := n0_; have HO119 := n1_; have HB := n2_; clear n0_ n1_ n2_; clear hb ho16)); go_loopg [10] kj6 (fun kq v10 w' => ∃ (x9_2 : List Int) (x10_2 : Int), v10 = .int .i64 x10_2 ∧ Aside0 (r11Subsets.l0 kq a0 a1 t112 y114 x9_2 x10_2 = some (r1, r2)) ∧ Aside0 (kq ≤ kj6) ∧ Aside0 (Kd.S (Kd.slice 3 (Kd.int .i64)) 22 w' w.heap.size (fun k_ => some k_ ≠ (v118 : Value).ownBlock) v115 y114) ∧ Aside0 (Kd.R (Kd.int .i64) 3 w' w.heap.size (fun _ => True) v118 x9_2) ∧ Aside0 (Below w.heap.size w w'))
        case atStart => exact ⟨(y117), (0), si_, H', ⟨Nat.le_refl _⟩, ⟨by refine sd_ ?_; exact Kd.S_mono HO116.out (fun _ hk => hk.2)⟩, ⟨rd_ HO119.out⟩, ⟨hb_⟩⟩
        case round =>
         clear H'; (try clear c1); (try clear p2); (try clear c3); (try clear c5); (try clear c6); (try clear c6b0); (try clear c6b1); (try clear c8); (try clear c8b0); (try clear c9); (try clear c10); (try clear c10b0); (try clear c11); (try clear c11b0); (try clear c11b1); (try clear c12); (try clear c12b0); (try clear c12b1); (try clear p2); obtain ⟨x9_2, x10_2, rfl, HA, HK2, HO_8, HO_9, HB⟩ := hrel
         cases gk with
         | zero => exact absurd HA.out (by simp [r11Subsets.l0])
         | succ k2 =>
          have H := HA.out; clear HA; simp only [r11Subsets.l0] at H; by_cases c17 : x10_2 < a1
          ·rw [if_pos c17] at H; have c17b0 : decide (x10_2 < a1) = true := decide_eq_true c17; clear c17; by_cases c18 : 0 ≤ x10_2
           ·rw [if_pos c18] at H; have c18b0 : decide (0 ≤ x10_2) = true := decide_eq_true c18; clear c18; by_cases c19 : x10_2 < (x9_2.length : Int)
            ·rw [if_pos c19] at H; have c19b0 : decide (x10_2 < (x9_2.length : Int)) = true := decide_eq_true c19; clear c19; obtain ⟨y120, hy120⟩ : ∃ y_ : List Int, y_ = (x9_2.set (x10_2 : Int).toNat x10_2) := ⟨_, rfl⟩; replace H : (r11Subsets.l0 k2 a0 a1 t112 y114 y120 (wrap64 (x10_2 + 1))) = some (r1, r2) := rq_ hy120 H; have Ny120 := K0 hy120; clear hy120; have H' := K0 H; clear H; have p20 : 0 ≤ (x10_2 : Int) := od_; have q20 : (x10_2 : Int) < ((x9_2.length : Int) : Int) := od_; obtain ⟨go20, co20, eo20, gb20, gl20, cl20, HG20⟩ := Kd.R_form HO_9.out (by omega); (first | cases eo20 | (injection eo20 with ea_ en_ ec_; (first | subst ea_ | (injection ea_ with ea_; subst ea_)); subst ec_; clear en_)); have GB20 := K0 gb20; have GG20 := K0 HG20; clear gb20 gl20 HG20; obtain ⟨hx20_0, hf20_0⟩ := Kd.R_celln 0 HO_9.out (x10_2 : Int) p20 q20; replace p20 := eq_true p20; replace q20 := eq_true q20; have HP21 := Kd.R_putg HO_9.out (x10_2 : Int) x10_2; go_wp2_with (first | ((with_reducible refine gate_store (t := 3) (p := 43) rfl ?_); refine store_event (t := 3) (p := 43) (v := ?vo_w22) (w1 := (wr.setCell ⟨go20, (x10_2 : Int).toNat, none⟩ (.int .i64 x10_2))) ?hg ?ho ?hn ?hr ?_; (case ho => rfl); (case hg => rfl); (case hn => rfl); (case hr => exact gs_); intro w22 hw; have hg : wr.grownBy w22 (some go20) := (by rw [hw]; exact HP21.2); have hp_ : Kd.R (Kd.int .i64) 3 w22 w.heap.size (fun _ => True) (.slice (some ⟨go20, 0, none⟩) x9_2.length co20) y120 := (by rw [hw, Ny120.out]; exact HP21.1); clear HP21; have n0_ := K0 (Kd.S_after (v := (.slice (some ⟨go20, 0, none⟩) x9_2.length co20)) (v1 := (.slice (some ⟨go20, 0, none⟩) x9_2.length co20)) (ok := (fun _ => True)) (by refine sd_ ?_; exact Kd.S_mono HO_8.out (fun _ hk => ⟨trivial, hk⟩)) hg (.inl rfl)); have n1_ := K0 (hp_); have n2_ := K0 ((by rw [hw]; exact below_set (HB.out) GB20.out : Below w.heap.size w w22)); clear HO_8; clear HO_9; clear HB; have HO_8 := n0_; have HO_9 := n1_; have HB := n2_; clear n0_ n1_ n2_; clear hg hw hp_)); go_roundg k2
             case measure => have := HJ6.out; have := HK2.out; omega
             case rel => exact ⟨(y120), (wrap64 (x10_2 + 1)), si_, H', ⟨by have := HJ6.out; have := HK2.out; omega⟩, ⟨by refine sd_ ?_; exact Kd.S_mono HO_8.out (fun _ hk => hk.2)⟩, ⟨rd_ HO_9.out⟩, ⟨hb_⟩⟩
            ·rw [if_neg c19] at H; exact absurd H (by simp)
           ·rw [if_neg c18] at H; exact absurd H (by simp)
          ·rw [if_neg c17] at H; have c17b0 : decide (x10_2 < a1) = false := decide_eq_false c17; clear c17; have H' := K0 H; clear H; go_wp2; go_loopg [8, 11] k2 (fun kq v8 v11 w' => ∃ (x8_3 : List (List Int)) (x9_3 : List Int) (x11_3 : Int), v11 = .int .i64 x11_3 ∧ Aside0 (r11Subsets.l1 kq a0 a1 t112 x8_3 x9_3 x11_3 = some (r1, r2)) ∧ Aside0 (kq ≤ k2) ∧ Aside0 (Kd.S (Kd.slice 3 (Kd.int .i64)) 22 w' w.heap.size (fun k_ => some k_ ≠ (v118 : Value).ownBlock) v8 x8_3) ∧ Aside0 (Kd.R (Kd.int .i64) 3 w' w.heap.size (fun _ => True) v118 x9_3) ∧ Aside0 (Below w.heap.size w w'))
           case atStart => exact ⟨(y114), (x9_2), (0), si_, H', ⟨Nat.le_refl _⟩, ⟨sd_ HO_8.out⟩, ⟨rd_ HO_9.out⟩, ⟨hb_⟩⟩
           case round =>
            clear H'; (try clear c1); (try clear p2); (try clear q2); (try clear hx2); (try clear hf2); (try clear c3); (try clear c5); (try clear c6); (try clear c6b0); (try clear c6b1); (try clear p6); (try clear c8); (try clear c8b0); (try clear c9); (try clear c10); (try clear c10b0); (try clear c11); (try clear c11b0); (try clear c11b1); (try clear c12); (try clear c12b0); (try clear c12b1); (try clear c17); (try clear c17b0); (try clear c18); (try clear c18b0); (try clear c19); (try clear c19b0); (try clear p20); (try clear q20); (try clear hx20); (try clear hf20); (try clear hx20_0); (try clear p2); (try clear p20); (try clear q20); obtain ⟨x8_3, x9_3, x11_3, rfl, HA, HK3, HO_8, HO_9, HB⟩ := hrel
            cases gk with
            | zero => exact absurd HA.out (by simp [r11Subsets.l1])
            | succ k3 =>
             have H := HA.out; clear HA; simp only [r11Subsets.l1] at H; by_cases c23 : x11_3 < t112
             ·rw [if_pos c23] at H; have c23b0 : decide (x11_3 < t112) = true := decide_eq_true c23; clear c23; obtain ⟨y121, hy121⟩ : ∃ y_ : List Int, y_ = (([] : List Int)) := ⟨_, rfl⟩; replace H : (if y121.length + x9_3.length < 17592186044416 then (if x8_3.length < 5864062014805 then (r11Subsets.l2 k3 a0 a1 t112 (x8_3 ++ [(y121 ++ x9_3)]) x9_3 x11_3 (wrap64 (a1 - 1))) else (none)) else (none)) = some (r1, r2) := rq_ hy121 H; have Ny121 := K0 hy121; clear hy121; by_cases c24 : y121.length + x9_3.length < 17592186044416
              ·rw [if_pos c24] at H; have LMc24 := K0 c24; clear c24; obtain ⟨y124, hy124⟩ : ∃ y_ : List Int, y_ = (y121 ++ x9_3) := ⟨_, rfl⟩; replace H : (if x8_3.length < 5864062014805 then (r11Subsets.l2 k3 a0 a1 t112 (x8_3 ++ [y124]) x9_3 x11_3 (wrap64 (a1 - 1))) else (none)) = some (r1, r2) := rq_ hy124 H; have Ny124 := K0 hy124; clear hy124; by_cases c25 : x8_3.length < 5864062014805
               ·rw [if_pos c25] at H; have LMc25 := K0 c25; clear c25; obtain ⟨y127, hy127⟩ : ∃ y_ : List (List Int), y_ = (x8_3 ++ [y124]) := ⟨_, rfl⟩; replace H : (r11Subsets.l2 k3 a0 a1 t112 y127 x9_3 x11_3 (wrap64 (a1 - 1))) = some (r1, r2) := rq_ hy127 H; have Ny127 := K0 hy127; clear hy127; have HC26 := K0 H; clear H; (go_upto_block 4 with (first | ((with_reducible refine gate_dst (N := 50) rfl ?_); refine Kd.R_lit (Kd.int .i64) _ 3 ?hg (N := 50) ?hd (xs := ([] : List Int)) (inner := []) (ok := fun _ => True) (okp := fun _ => True) ?hr ?hp (fun _ hk => hk) trivial (Below.refl _ _) (Nat.le_refl _) (by simp) ?_; (case hd => rfl); (case hg => rfl); (case hr => exact gs_); (case hp => exact (Reps.none _ _)); intro v122 w27 ho28 hb hg_ hnew_; clear hg_ hnew_; (first | rw [← Ny121.out] at ho28 | (simp only [Int.reduceToNat] at ho28; rw [← Ny121.out] at ho28)); have n0_ := K0 (Kd.S_elder' (sd_ HO_8.out) (Kd.R_base ho28) hb); have n1_ := K0 (Kd.R_elder' (rd_ HO_9.out) (Kd.R_base ho28) hb); have n2_ := K0 (Kd.R_lower (Kd.R_new' ho28 (Kd.R_lt (rd_ HO_9.out))) (below_size hb_)); have n3_ := K0 (below_step hb_ hb); clear HO_8; clear HO_9; clear HB; have HO_8 := n0_; have HO_9 := n1_; have HO123 := n2_; have HB := n3_; clear n0_ n1_ n2_ n3_; clear hb ho28; obtain ⟨Ao30, co30, eo30⟩ := Kd.R_slice HO_9.out; subst eo30) | ((with_reducible refine gate_builtin (b := .append) (xs := #[.tmp 50, .tmp 51]) rfl ?_); at_builtin; refine Kd.R_append_rows (Kd.int .i64) (w0 := w) w.heap.size rfl (.tmp 50) (.tmp 51) 22 3 (.int .i64 0) 8 rfl Try.underlying22 info3 rfl (by decide) (by omega) v122 y121 x9_3 _ _ _ (fun k_ => some k_ ≠ (.slice Ao30 x9_3.length co30 : Value).ownBlock) (fun _ => False) rfl rfl ?aO ?aR (fun _ _ h => h) (fun _ h => h.elim) ?aF ?aB ?aS ?aL ?_; (case aR => exact rc_ (Kd.R_reads' HO_9.out).2.2); (case aB => exact hb_); (case aF => exact (fun k_ hk => Kd.fresh' (Kd.R_lt (rd_ HO_9.out)) k_ hk)); (case aO => exact (by refine rd_ ?_; exact Kd.R_mono HO123.out (fun _ hk => hk.2))); (case aS => exact (below_size hb_)); (case aL => have := LMc24.out; omega); intro v125 w29 ho hb hg hat; rw [← Ny124.out] at ho; have n0_ := K0 (Kd.S_after (ok := (fun k_ => some k_ ≠ (.slice Ao30 x9_3.length co30 : Value).ownBlock)) (sd_ HO_8.out) hg hat); have n1_ := K0 (Kd.R_after (ok := (fun _ => True)) (rd_ HO_9.out) hg hat); have n2_ := K0 (hb); have n3_ := K0 (ho); clear HO_8; clear HO_9; clear HB; clear HO123; have HO_8 := n0_; have HO_9 := n1_; have HB := n2_; have HO126 := n3_; clear n0_ n1_ n2_ n3_; clear ho hb hg hat; obtain ⟨Ao32, co32, eo32⟩ := Kd.R_slice HO126.out; subst eo32) | ((with_reducible refine gate_builtin (b := .append) (xs := #[.tmp 49, .tmp 53]) rfl ?_); at_builtin; refine Kd.S_append (Kd.slice 3 (Kd.int .i64)) (w0 := w) w.heap.size rfl (.tmp 49) (.tmp 53) 23 22 (.slice none 0 0) 24 rfl Try.underlying23 info22 rfl (by decide) (by omega) u8 x8_3 y124 [.slice Ao32 y124.length co32] (fun k_ => some k_ ≠ (.slice Ao30 x9_3.length co30 : Value).ownBlock) (fun k_ => some k_ = (.slice Ao32 y124.length co32 : Value).ownBlock) rfl rfl ?aP (fun k_ hk_ => ((Kd.R_mono (ok' := fun k_ => ((fun k_ => some k_ ≠ (.slice Ao30 x9_3.length co30 : Value).ownBlock)) k_ ∧ some k_ ≠ (u8 : Value).ownBlock) (Kd.R_apart' (HO126.out) (Kd.S_typed HO_8.out) (by decide)) (fun k_ hk => ⟨hk.1, hk.2⟩))).1 k_ hk_.symm) ?aF ?aO ?aB ?aS ?aL ?_; (case aP => exact Kd.M_row (Kd.R_mono (Kd.R_tight rfl (Kd.R_mono (ok' := fun k_ => ((fun k_ => some k_ ≠ (.slice Ao30 x9_3.length co30 : Value).ownBlock)) k_ ∧ some k_ ≠ (u8 : Value).ownBlock) (Kd.R_apart' (HO126.out) (Kd.S_typed HO_8.out) (by decide)) (fun k_ hk => ⟨hk.1, hk.2⟩))) (fun _ h_ => h_))); (case aB => exact hb_); (case aF => exact (fun k_ hk => Kd.fresh' (Kd.R_lt (rd_ HO_9.out)) k_ hk)); (case aO => exact (by refine sd_ ?_; exact Kd.S_mono HO_8.out (fun k_ hk => ⟨hk.1, fun e_ => hk.2 e_⟩))); (case aS => exact (below_size hb_)); (case aL => have := LMc25.out; omega); intro v128 w31 ho hb hg hat; rw [← Ny127.out] at ho; have n0_ := K0 (Kd.R_over' (rd_ HO_9.out) (Kd.S_typed (sd_ HO_8.out)) (by decide) hg); have n1_ := K0 (hb); have n2_ := K0 (ho); clear HO_9; clear HB; clear HO_8; clear HO126; have HO_9 := n0_; have HB := n1_; have HO129 := n2_; clear n0_ n1_ n2_; clear ho hb hg hat))); (try simp only [Act.put, sA, sZ, sS]); go_cut [12] (fun v12 wc => ∃ (kq : Nat) (x12_25 : Int), v12 = .int .i64 x12_25 ∧ Aside0 (r11Subsets.j4 kq a0 a1 t112 y127 x9_3 x11_3 x12_25 = some (r1, r2)) ∧ Aside0 (kq ≤ k3) ∧ Aside0 (Kd.S (Kd.slice 3 (Kd.int .i64)) 22 wc w.heap.size (fun k_ => some k_ ≠ ((.slice Ao30 x9_3.length co30) : Value).ownBlock) v128 y127) ∧ Aside0 (Kd.R (Kd.int .i64) 3 wc w.heap.size (fun _ => True) (.slice Ao30 x9_3.length co30) x9_3) ∧ Aside0 (Below w.heap.size w wc))
                case first =>
                 have H := HC26.out; clear HC26; have H' := K0 H; clear H; go_wp2; go_loopg [12] k3 (fun kq v12 w' => ∃ (x12_4 : Int), v12 = .int .i64 x12_4 ∧ Aside0 (r11Subsets.l2 kq a0 a1 t112 y127 x9_3 x11_3 x12_4 = some (r1, r2)) ∧ Aside0 (kq ≤ k3) ∧ Aside0 (Kd.S (Kd.slice 3 (Kd.int .i64)) 22 w' w.heap.size (fun k_ => some k_ ≠ ((.slice Ao30 x9_3.length co30) : Value).ownBlock) v128 y127) ∧ Aside0 (Kd.R (Kd.int .i64) 3 w' w.heap.size (fun _ => True) (.slice Ao30 x9_3.length co30) x9_3) ∧ Aside0 (Below w.heap.size w w'))
                 case atStart => exact ⟨(wrap64 (a1 - 1)), si_, H', ⟨Nat.le_refl _⟩, ⟨sd_ HO129.out⟩, ⟨by refine rd_ ?_; exact Kd.R_mono HO_9.out (fun _ hk => trivial)⟩, ⟨hb_⟩⟩
                 case round =>
                  clear H'; (try clear c1); (try clear c2); (try clear p2); (try clear q2); (try clear hx2); (try clear hf2); (try clear c3); (try clear c5); (try clear c6); (try clear c6b0); (try clear c6b1); (try clear p6); (try clear c8); (try clear c8b0); (try clear c9); (try clear c10); (try clear c10b0); (try clear c11); (try clear c11b0); (try clear c11b1); (try clear c12); (try clear c12b0); (try clear c12b1); (try clear c17); (try clear c17b0); (try clear c18); (try clear c18b0); (try clear c19); (try clear c19b0); (try clear p20); (try clear q20); (try clear hx20); (try clear hf20); (try clear c23); (try clear c23b0); (try clear c24); (try clear c25); (try clear hx20_0); (try clear p2); (try clear p20); (try clear p6); (try clear q2); (try clear q20); obtain ⟨x12_4, rfl, HA, HK4, HO_8, HO_9, HB⟩ := hrel
                  cases gk with
                  | zero => exact absurd HA.out (by simp [r11Subsets.l2])
                  | succ k4 =>
                   have H := HA.out; clear HA; simp only [r11Subsets.l2] at H; by_cases c33 : x12_4 ≥ 0
                   ·rw [if_pos c33] at H; have c33b0 : decide (0 ≤ x12_4) = true := decide_eq_true c33; clear c33; (first | rw [c33b0] | (simp only [i64_w, i32_w]; rw [c33b0]) | skip); by_cases c34 : 0 ≤ x12_4
                    ·rw [if_pos c34] at H; have c34b0 : decide (0 ≤ x12_4) = true := decide_eq_true c34; clear c34; by_cases c35 : x12_4 < (x9_3.length : Int)
                     ·rw [if_pos c35] at H; have c35b0 : decide (x12_4 < (x9_3.length : Int)) = true := decide_eq_true c35; clear c35; by_cases c36 : (rd x9_3 x12_4) = (wrap64 ((wrap64 (a0 - a1)) + x12_4))
                      ·rw [if_pos c36] at H; have c36b0 : ((rd x9_3 x12_4) == (wrap64 ((wrap64 (a0 - a1)) + x12_4))) = true := beq_iff_eq.mpr c36; have c36b1 : ((rd x9_3 x12_4) != (wrap64 ((wrap64 (a0 - a1)) + x12_4))) = false := bne_eq_false_iff_eq.mpr c36; clear c36; have H' := K0 H; clear H; have p130 : 0 ≤ (x12_4 : Int) := od_; have q130 : x12_4 < (x9_3.length : Int) := od_; obtain ⟨ad130, e130, hx130_0⟩ := Kd.at_int (Kd.R_reads' HO_9.out).2.2 x12_4 p130 q130; cases e130; replace p130 := eq_true p130; replace q130 := eq_true q130; go_wp2; go_roundg k4
                       case measure => have := HJ6.out; have := HK2.out; have := HK3.out; have := HK4.out; omega
                       case rel => exact ⟨(wrap64 (x12_4 - 1)), si_, H', ⟨by have := HJ6.out; have := HK2.out; have := HK3.out; have := HK4.out; omega⟩, ⟨sd_ HO_8.out⟩, ⟨rd_ HO_9.out⟩, ⟨hb_⟩⟩
                      ·rw [if_neg c36] at H; have c36b0 : ((rd x9_3 x12_4) == (wrap64 ((wrap64 (a0 - a1)) + x12_4))) = false := beq_eq_false_iff_ne.mpr c36; have c36b1 : ((rd x9_3 x12_4) != (wrap64 ((wrap64 (a0 - a1)) + x12_4))) = true := bne_iff_ne.mpr c36; have H' := K0 H; clear H; have p130 : 0 ≤ (x12_4 : Int) := od_; have q130 : x12_4 < (x9_3.length : Int) := od_; obtain ⟨ad130, e130, hx130_0⟩ := Kd.at_int (Kd.R_reads' HO_9.out).2.2 x12_4 p130 q130; cases e130; replace p130 := eq_true p130; replace q130 := eq_true q130; go_wp2; go_meet
                       case rel => exact ⟨_, (x12_4), si_, H', ⟨by have := HJ6.out; have := HK2.out; have := HK3.out; have := HK4.out; first | omega | exact Nat.le_refl _⟩, ⟨sd_ HO_8.out⟩, ⟨rd_ HO_9.out⟩, ⟨hb_⟩⟩
                     ·rw [if_neg c35] at H; exact absurd H (by simp)
                    ·rw [if_neg c34] at H; exact absurd H (by simp)
                   ·rw [if_neg c33] at H; have c33b0 : decide (0 ≤ x12_4) = false := decide_eq_false c33; clear c33; (first | rw [c33b0] | (simp only [i64_w, i32_w]; rw [c33b0]) | skip); have H' := K0 H; clear H; go_wp2; go_meet
                    case rel => exact ⟨_, (x12_4), si_, H', ⟨by have := HJ6.out; have := HK2.out; have := HK3.out; have := HK4.out; first | omega | exact Nat.le_refl _⟩, ⟨sd_ HO_8.out⟩, ⟨rd_ HO_9.out⟩, ⟨hb_⟩⟩
                case rest =>
                 clear HC26; (try clear c1); (try clear p1); (try clear q1); (try clear hx1); (try clear c2); (try clear p2); (try clear q2); (try clear hx2); (try clear hf2); (try clear c3); (try clear c5); (try clear c6); (try clear c6b0); (try clear c6b1); (try clear p6); (try clear c8); (try clear c8b0); (try clear c9); (try clear c10); (try clear c10b0); (try clear c11); (try clear c11b0); (try clear c11b1); (try clear c12); (try clear c12b0); (try clear c12b1); (try clear p13); (try clear q13); (try clear hx13); (try clear c17); (try clear c17b0); (try clear c18); (try clear c18b0); (try clear c19); (try clear c19b0); (try clear p20); (try clear q20); (try clear hx20); (try clear hf20); (try clear c23); (try clear c23b0); (try clear c24); (try clear c25); (try clear c33); (try clear c33b0); (try clear c34); (try clear c34b0); (try clear c35); (try clear c35b0); (try clear c36); (try clear c36b0); (try clear c36b1); (try clear hx130_0); (try clear hx20_0); (try clear p130); (try clear p2); (try clear p20); (try clear p6); (try clear q130); (try clear q2); (try clear q20); obtain ⟨kq, x12_25, rfl, HA, HJ25, HO_8, HO_9, HB⟩ := hcut
                 cases kq with
                 | zero => exact absurd HA.out (by simp [r11Subsets.j4])
                 | succ kj25 =>
                  have H := HA.out; clear HA; simp only [r11Subsets.j4] at H; by_cases c37 : x12_25 ≥ 0
                  ·rw [if_pos c37] at H; have c37b0 : decide (0 ≤ x12_25) = true := decide_eq_true c37; clear c37; by_cases c38 : 0 ≤ x12_25
                   ·rw [if_pos c38] at H; have c38b0 : decide (0 ≤ x12_25) = true := decide_eq_true c38; clear c38; by_cases c39 : x12_25 < (x9_3.length : Int)
                    ·rw [if_pos c39] at H; have c39b0 : decide (x12_25 < (x9_3.length : Int)) = true := decide_eq_true c39; clear c39; obtain ⟨y132, hy132⟩ : ∃ y_ : List Int, y_ = (x9_3.set (x12_25 : Int).toNat (wrap64 ((rd x9_3 x12_25) + 1))) := ⟨_, rfl⟩; replace H : (r11Subsets.l3 kj25 a0 a1 t112 y127 y132 x11_3 (wrap64 (x12_25 + 1))) = some (r1, r2) := rq_ hy132 H; have Ny132 := K0 hy132; clear hy132; have H' := K0 H; clear H; have p131 : 0 ≤ (x12_25 : Int) := od_; have q131 : x12_25 < (x9_3.length : Int) := od_; obtain ⟨ad131, e131, hx131_0⟩ := Kd.at_int (Kd.R_reads' HO_9.out).2.2 x12_25 p131 q131; cases e131; replace p131 := eq_true p131; replace q131 := eq_true q131; have p40 : 0 ≤ (x12_25 : Int) := od_; have q40 : (x12_25 : Int) < ((x9_3.length : Int) : Int) := od_; obtain ⟨go40, co40, eo40, gb40, gl40, cl40, HG40⟩ := Kd.R_form HO_9.out (by omega); (first | cases eo40 | (injection eo40 with ea_ en_ ec_; (first | subst ea_ | (injection ea_ with ea_; subst ea_)); subst ec_; clear en_)); have GB40 := K0 gb40; have GG40 := K0 HG40; clear gb40 gl40 HG40; (first | simp only [add_plain] at hx131_0 | skip); obtain ⟨hx40_0, hf40_0⟩ := Kd.R_celln 0 HO_9.out (x12_25 : Int) p40 q40; replace p40 := eq_true p40; replace q40 := eq_true q40; have HP41 := Kd.R_putg HO_9.out (x12_25 : Int) (wrap64 ((rd x9_3 x12_25) + 1)); go_wp2_with (first | ((with_reducible refine gate_store (t := 3) (p := 80) rfl ?_); refine store_event (t := 3) (p := 80) (v := ?vo_w42) (w1 := (wc.setCell ⟨go40, (x12_25 : Int).toNat, none⟩ (.int .i64 (wrap64 ((rd x9_3 x12_25) + 1))))) ?hg ?ho ?hn ?hr ?_; (case ho => rfl); (case hg => rfl); (case hn => rfl); (case hr => exact gs_); intro w42 hw; have hg : wc.grownBy w42 (some go40) := (by rw [hw]; exact HP41.2); have hp_ : Kd.R (Kd.int .i64) 3 w42 w.heap.size (fun _ => True) (.slice (some ⟨go40, 0, none⟩) x9_3.length co30) y132 := (by rw [hw, Ny132.out]; exact HP41.1); clear HP41; have n0_ := K0 (Kd.S_after (v := (.slice (some ⟨go40, 0, none⟩) x9_3.length co30)) (v1 := (.slice (some ⟨go40, 0, none⟩) x9_3.length co30)) (ok := (fun _ => True)) (by refine sd_ ?_; exact Kd.S_mono HO_8.out (fun _ hk => ⟨trivial, hk⟩)) hg (.inl rfl)); have n1_ := K0 (hp_); have n2_ := K0 ((by rw [hw]; exact below_set (HB.out) GB40.out : Below w.heap.size w w42)); clear HO_8; clear HO_9; clear HB; have HO_8 := n0_; have HO_9 := n1_; have HB := n2_; clear n0_ n1_ n2_; clear hg hw hp_)); go_loopg [13] kj25 (fun kq v13 w' => ∃ (x9_5 : List Int) (x13_5 : Int), v13 = .int .i64 x13_5 ∧ Aside0 (r11Subsets.l3 kq a0 a1 t112 y127 x9_5 x11_3 x13_5 = some (r1, r2)) ∧ Aside0 (kq ≤ kj25) ∧ Aside0 (Kd.S (Kd.slice 3 (Kd.int .i64)) 22 w' w.heap.size (fun k_ => some k_ ≠ ((.slice (some ⟨go40, 0, none⟩) x9_3.length co30) : Value).ownBlock) v128 y127) ∧ Aside0 (Kd.R (Kd.int .i64) 3 w' w.heap.size (fun _ => True) (.slice (some ⟨go40, 0, none⟩) x9_3.length co30) x9_5) ∧ Aside0 (Below w.heap.size w w'))
                     case atStart => exact ⟨(y132), (wrap64 (x12_25 + 1)), si_, H', ⟨Nat.le_refl _⟩, ⟨by refine sd_ ?_; exact Kd.S_mono HO_8.out (fun _ hk => hk.2)⟩, ⟨rd_ HO_9.out⟩, ⟨hb_⟩⟩
                     case round =>
                      clear H'; (try clear c1); (try clear p1); (try clear q1); (try clear hx1); (try clear c2); (try clear p2); (try clear q2); (try clear hx2); (try clear hf2); (try clear c3); (try clear p4); (try clear q4); (try clear hx4); (try clear hf4); (try clear c5); (try clear c6); (try clear c6b0); (try clear c6b1); (try clear p6); (try clear c8); (try clear c8b0); (try clear c9); (try clear c10); (try clear c10b0); (try clear c11); (try clear c11b0); (try clear c11b1); (try clear c12); (try clear c12b0); (try clear c12b1); (try clear p13); (try clear q13); (try clear hx13); (try clear c17); (try clear c17b0); (try clear c18); (try clear c18b0); (try clear c19); (try clear c19b0); (try clear p20); (try clear q20); (try clear hx20); (try clear hf20); (try clear c23); (try clear c23b0); (try clear c24); (try clear c25); (try clear c33); (try clear c33b0); (try clear c34); (try clear c34b0); (try clear c35); (try clear c35b0); (try clear c36); (try clear c36b0); (try clear c36b1); (try clear c37); (try clear c37b0); (try clear c38); (try clear c38b0); (try clear c39); (try clear c39b0); (try clear p40); (try clear q40); (try clear hx40); (try clear hf40); (try clear hx130_0); (try clear hx131_0); (try clear hx20_0); (try clear hx40_0); (try clear p1); (try clear p13); (try clear p130); (try clear p131); (try clear p2); (try clear p20); (try clear p40); (try clear p6); (try clear q1); (try clear q13); (try clear q130); (try clear q131); (try clear q2); (try clear q20); (try clear q40); obtain ⟨x9_5, x13_5, rfl, HA, HK5, HO_8, HO_9, HB⟩ := hrel; have hl9_5 := (Kd.R_reads' HO_9.out).1; rw [hl9_5] at HO_9; (try simp only [hl9_5]); (try simp only [hl9_5] at HO_8)
                      cases gk with
                      | zero => exact absurd HA.out (by simp [r11Subsets.l3])
                      | succ k5 =>
                       have H := HA.out; clear HA; simp only [r11Subsets.l3] at H; by_cases c43 : x13_5 < a1
                       ·rw [if_pos c43] at H; have c43b0 : decide (x13_5 < a1) = true := decide_eq_true c43; (try simp only [hl9_5] at c43b0); clear c43; obtain ⟨ji44, hji44⟩ : ∃ j_ : Int, (wrap64 (x13_5 - 1)) = j_ := ⟨_, rfl⟩; (replace H : (if 0 ≤ (ji44) then (if (ji44) < (x9_5.length : Int) then (if 0 ≤ x13_5 then (if x13_5 < (x9_5.length : Int) then (r11Subsets.l3 k5 a0 a1 t112 y127 (x9_5.set (x13_5 : Int).toNat (wrap64 ((rd x9_5 (ji44)) + 1))) x11_3 (wrap64 (x13_5 + 1))) else (none)) else (none)) else (none)) else (none)) = some (r1, r2) := by first | (rw [hji44] at H; exact H) | (simp only [hji44] at H ⊢; exact H)); have hji44w : (IntKind.i64.wrap (x13_5 - 1)) = ji44 := (i64_w _).trans hji44; by_cases c45 : 0 ≤ (ji44)
                        ·rw [if_pos c45] at H; have c45b0 : decide (0 ≤ (ji44)) = true := decide_eq_true c45; clear c45; by_cases c46 : (ji44) < (x9_5.length : Int)
                         ·rw [if_pos c46] at H; have c46b0 : decide ((ji44) < (x9_5.length : Int)) = true := decide_eq_true c46; (try simp only [hl9_5] at c46b0); clear c46; by_cases c47 : 0 ≤ x13_5
                          ·rw [if_pos c47] at H; have c47b0 : decide (0 ≤ x13_5) = true := decide_eq_true c47; clear c47; by_cases c48 : x13_5 < (x9_5.length : Int)
                           ·rw [if_pos c48] at H; have c48b0 : decide (x13_5 < (x9_5.length : Int)) = true := decide_eq_true c48; (try simp only [hl9_5] at c48b0); clear c48; obtain ⟨y134, hy134⟩ : ∃ y_ : List Int, y_ = (x9_5.set (x13_5 : Int).toNat (wrap64 ((rd x9_5 (ji44)) + 1))) := ⟨_, rfl⟩; replace H : (r11Subsets.l3 k5 a0 a1 t112 y127 y134 x11_3 (wrap64 (x13_5 + 1))) = some (r1, r2) := rq_ hy134 H; have Ny134 := K0 hy134; clear hy134; have H' := K0 H; clear H; have p133 : 0 ≤ ((ji44) : Int) := od_; have q133 : (ji44) < (x9_5.length : Int) := od_; obtain ⟨ad133, e133, hx133_0⟩ := Kd.at_int (Kd.R_reads' HO_9.out).2.2 (ji44) p133 q133; obtain rfl : (⟨go40, 0, none⟩ : Addr) = ad133 := (by injection e133); (first | simp only [add_plain] at hx133_0 | simp only [add_at] at hx133_0 | simp only [Addr.add, Nat.zero_add] at hx133_0 | skip); replace p133 := eq_true p133; replace q133 := eq_true q133; have p49 : 0 ≤ (x13_5 : Int) := od_; have q49 : (x13_5 : Int) < ((x9_5.length : Int) : Int) := od_; obtain ⟨hx49_0, hf49_0⟩ := Kd.R_celln 0 HO_9.out (x13_5 : Int) p49 q49; replace p49 := eq_true p49; replace q49 := eq_true q49; have HP50 := Kd.R_putg HO_9.out (x13_5 : Int) (wrap64 ((rd x9_5 (ji44)) + 1)); go_wp2_with (first | ((with_reducible refine gate_store (t := 3) (p := 96) rfl ?_); refine store_event (t := 3) (p := 96) (v := ?vo_w51) (w1 := (wr.setCell ⟨go40, (x13_5 : Int).toNat, none⟩ (.int .i64 (wrap64 ((rd x9_5 (ji44)) + 1))))) ?hg ?ho ?hn ?hr ?_; (case ho => rfl); (case hg => rfl); (case hn => rfl); (case hr => exact gs_); intro w51 hw; have hg : wr.grownBy w51 (some go40) := (by rw [hw]; exact HP50.2); have hp_ : Kd.R (Kd.int .i64) 3 w51 w.heap.size (fun _ => True) (.slice (some ⟨go40, 0, none⟩) x9_5.length co30) y134 := (by rw [hw, Ny134.out]; exact HP50.1); clear HP50; have n0_ := K0 (Kd.S_after (v := (.slice (some ⟨go40, 0, none⟩) x9_5.length co30)) (v1 := (.slice (some ⟨go40, 0, none⟩) x9_5.length co30)) (ok := (fun _ => True)) (by refine sd_ ?_; exact Kd.S_mono HO_8.out (fun _ hk => ⟨trivial, hk⟩)) hg (.inl rfl)); have n1_ := K0 (hp_); have n2_ := K0 ((by rw [hw]; exact below_set (HB.out) GB40.out : Below w.heap.size w w51)); clear HO_8; clear HO_9; clear HB; have HO_8 := n0_; have HO_9 := n1_; have HB := n2_; clear n0_ n1_ n2_; clear hg hw hp_)); (try simp only [← hl9_5]); go_roundg k5
                            case measure => have := HJ6.out; have := HK2.out; have := HK3.out; have := HJ25.out; have := HK5.out; omega
                            case rel => exact ⟨(y134), (wrap64 (x13_5 + 1)), si_, H', ⟨by have := HJ6.out; have := HK2.out; have := HK3.out; have := HJ25.out; have := HK5.out; omega⟩, ⟨by (try simp only [hl9_5]); refine sd_ ?_; exact Kd.S_mono HO_8.out (fun _ hk => hk.2)⟩, ⟨by (try simp only [hl9_5]); refine rd_ ?_; exact HO_9.out⟩, ⟨hb_⟩⟩
                           ·rw [if_neg c48] at H; exact absurd H (by simp)
                          ·rw [if_neg c47] at H; exact absurd H (by simp)
                         ·rw [if_neg c46] at H; exact absurd H (by simp)
                        ·rw [if_neg c45] at H; exact absurd H (by simp)
                       ·rw [if_neg c43] at H; have c43b0 : decide (x13_5 < a1) = false := decide_eq_false c43; (try simp only [hl9_5] at c43b0); clear c43; have H' := K0 H; clear H; go_wp2; (try simp only [← hl9_5]); go_roundg k5
                        case measure => have := HJ6.out; have := HK2.out; have := HK3.out; have := HJ25.out; have := HK5.out; omega
                        case rel => exact ⟨(y127), (x9_5), (wrap64 (x11_3 + 1)), si_, H', ⟨by have := HJ6.out; have := HK2.out; have := HK3.out; have := HJ25.out; have := HK5.out; omega⟩, ⟨by (try simp only [hl9_5]); refine sd_ ?_; exact HO_8.out⟩, ⟨by (try simp only [hl9_5]); refine rd_ ?_; exact HO_9.out⟩, ⟨hb_⟩⟩
                    ·rw [if_neg c39] at H; exact absurd H (by simp)
                   ·rw [if_neg c38] at H; exact absurd H (by simp)
                  ·rw [if_neg c37] at H; have c37b0 : decide (0 ≤ x12_25) = false := decide_eq_false c37; clear c37; have H' := K0 H; clear H; go_wp2; go_roundg kj25
                   case measure => have := HJ6.out; have := HK2.out; have := HK3.out; have := HJ25.out; omega
                   case rel => exact ⟨(y127), (x9_3), (wrap64 (x11_3 + 1)), si_, H', ⟨by have := HJ6.out; have := HK2.out; have := HK3.out; have := HJ25.out; omega⟩, ⟨sd_ HO_8.out⟩, ⟨rd_ HO_9.out⟩, ⟨hb_⟩⟩
               ·rw [if_neg c25] at H; exact absurd H (by simp)
              ·rw [if_neg c24] at H; exact absurd H (by simp)
             ·rw [if_neg c23] at H; have c23b0 : decide (x11_3 < t112) = false := decide_eq_false c23; clear c23; simp only [Option.some.injEq, Prod.mk.injEq] at H; obtain ⟨rfl, rfl⟩ := H; go_wp2; go_ret2; exact ⟨_, er_, by refine sd_ ?_; exact Kd.S_mono HO_8.out (fun _ hk => trivial), hb_⟩
       ·rw [if_neg c12] at H; exact absurd H (by simp)
      ·rw [if_neg c11] at H; exact absurd H (by simp)
 ·rw [if_neg c6] at H; have c6b0 : (t113 == 0) = false := beq_eq_false_iff_ne.mpr c6; have c6b1 : (t113 != 0) = true := bne_iff_ne.mpr c6; (first | rw [c6b0] | (simp only [i64_w, i32_w]; rw [c6b0]) | skip); simp only [Option.some.injEq, Prod.mk.injEq] at H; obtain ⟨rfl, rfl⟩ := H; go_wp2; go_ret2; exact ⟨_, er_, by first | exact Kd.S_nil _ _ _ _ _ | exact Kd.N_nil _ _ _ _ _ | exact Kd.V_nil _ _ _ _ _ | exact Kd.Q_nil _ _ _ _ _ | exact Kd.R_nil _ _ _ _ _, hb_⟩

/-! ### r15Monomials: function 10 -/
mutual
def r15Monomials.j0 : Nat → Int → Int → Bool → Option ((List (List Int)) × Int)
 | 0, _, _, _ => none
 | k + 1, x0, x1, x24 => if x24 = true then (some (([] : List (List Int)), 6)) else (r15Monomials.l0 k x0 x1 (([] : List (List Int))) 0)
def r15Monomials.l0 : Nat → Int → Int → List (List Int) → Int → Option ((List (List Int)) × Int)
 | 0, _, _, _, _ => none
 | k + 1, x0, x1, x6, x7 => if x7 ≤ x0 then ((r11Subsets.f k x1 x7).bind fun bt138 => (if x6.length + bt138.1.length < 5864062014805 then (r15Monomials.l0 k x0 x1 (x6 ++ bt138.1) (wrap64 (x7 + 1))) else (none))) else (some (x6, 0))
end
def r15Monomials.f (k : Nat) (a0 : Int) (a1 : Int) : Option ((List (List Int)) × Int) := if a1 < 0 then (r15Monomials.j0 k a0 a1 true) else (if a1 > 6 then (r15Monomials.j0 k a0 a1 true) else (if a0 < (-1) then (r15Monomials.j0 k a0 a1 true) else (r15Monomials.j0 k a0 a1 (decide (a0 > a1)))))
theorem r15Monomials.mono_l : ∀ k, (∀ y0 y1 y2, LeO (r15Monomials.j0 k y0 y1 y2) (r15Monomials.j0 (k + 1) y0 y1 y2)) ∧ (∀ y0 y1 y2 y3, LeO (r15Monomials.l0 k y0 y1 y2 y3) (r15Monomials.l0 (k + 1) y0 y1 y2 y3))
 | 0 => ⟨fun _ _ _ r h => by simp [r15Monomials.j0] at h, fun _ _ _ _ r h => by simp [r15Monomials.l0] at h⟩
 | k + 1 => by
  obtain ⟨ih0, ih1⟩ := r15Monomials.mono_l k; refine ⟨?_, ?_⟩
  ·intro y0 y1 y2; unfold r15Monomials.j0
   repeat' first
   | (with_reducible exact ih0 _ _ _)
   | (with_reducible exact ih1 _ _ _ _)
   | (with_reducible exact r11Subsets.mono _ _ _)
   | (with_reducible exact LeO.refl _)
   | (with_reducible exact LeO.none _)
   | (with_reducible refine LeO.ite ?_ ?_)
   | (with_reducible refine LeO.bind ?_ (fun _ => ?_))
   | exact ih0 _ _ _
   | exact ih1 _ _ _ _
   | exact r11Subsets.mono _ _ _
   | exact LeO.none _
   | refine LeO.ite ?_ ?_
   | refine LeO.bind ?_ (fun _ => ?_)
  ·intro y0 y1 y2 y3; unfold r15Monomials.l0
   repeat' first
   | (with_reducible exact ih0 _ _ _)
   | (with_reducible exact ih1 _ _ _ _)
   | (with_reducible exact r11Subsets.mono _ _ _)
   | (with_reducible exact LeO.refl _)
   | (with_reducible exact LeO.none _)
   | (with_reducible refine LeO.ite ?_ ?_)
   | (with_reducible refine LeO.bind ?_ (fun _ => ?_))
   | exact ih0 _ _ _
   | exact ih1 _ _ _ _
   | exact r11Subsets.mono _ _ _
   | exact LeO.none _
   | refine LeO.ite ?_ ?_
   | refine LeO.bind ?_ (fun _ => ?_)
theorem r15Monomials.mono : ∀ a0 a1 k, LeO (r15Monomials.f k a0 a1) (r15Monomials.f (k + 1) a0 a1) := by
 intro a0 a1 k; obtain ⟨ih0, ih1⟩ := r15Monomials.mono_l k; unfold r15Monomials.f
 repeat' first
   | (with_reducible exact ih0 _ _ _)
   | (with_reducible exact ih1 _ _ _ _)
   | (with_reducible exact r11Subsets.mono _ _ _)
   | (with_reducible exact LeO.refl _)
   | (with_reducible exact LeO.none _)
   | (with_reducible refine LeO.ite ?_ ?_)
   | (with_reducible refine LeO.bind ?_ (fun _ => ?_))
   | exact ih0 _ _ _
   | exact ih1 _ _ _ _
   | exact r11Subsets.mono _ _ _
   | exact LeO.none _
   | refine LeO.ite ?_ ?_
   | refine LeO.bind ?_ (fun _ => ?_)
set_option maxHeartbeats 8000000 in
set_option maxRecDepth 100000 in
theorem r15Monomials.calls (k : Nat) (a0 : Int) (a1 : Int) (r1 : List (List Int)) (r2 : Int) (w : World) (h : r15Monomials.f k a0 a1 = some (r1, r2)) :
  Calls Try.prog 10 #[.int .i64 a0, .int .i64 a1] w fun e w' => ∃ v0_ : Value, e = .returned (.tuple #[v0_, .int .i64 r2]) ∧ Kd.N (Kd.slice 3 (Kd.int .i64)) 22 w' w.heap.size (fun k_ => (w.heap.size ≤ k_)) v0_ r1 ∧ Below w.heap.size w w' := by
 have HB := K0 (Below.refl w.heap.size w); have H : (if a1 < 0 then (r15Monomials.j0 k a0 a1 true) else (if a1 > 6 then (r15Monomials.j0 k a0 a1 true) else (if a0 < (-1) then (r15Monomials.j0 k a0 a1 true) else (r15Monomials.j0 k a0 a1 (decide (a0 > a1)))))) = some (r1, r2) := h; clear h; have HC3 := K0 H; clear H; go_enter Try.func10, Try.ntmps10; (go_upto_region 1 with (fail)); go_cut [24] (fun v24 wc => ∃ (kq : Nat) (x24_2 : Bool), v24 = .bool x24_2 ∧ Aside0 (r15Monomials.j0 kq a0 a1 x24_2 = some (r1, r2)) ∧ Aside0 (kq ≤ k) ∧ Aside0 (Below w.heap.size w wc))
 case first =>
  have H := HC3.out; clear HC3; by_cases c4 : a1 < 0
  ·rw [if_pos c4] at H; have c4b0 : decide (a1 < 0) = true := decide_eq_true c4; clear c4; (first | rw [c4b0] | (simp only [i64_w, i32_w]; rw [c4b0]) | skip); have H' := K0 H; clear H; go_wp2; go_meet
   case rel => exact ⟨_, (true), si_, H', ⟨by first | omega | exact Nat.le_refl _⟩, ⟨hb_⟩⟩
  ·rw [if_neg c4] at H; have c4b0 : decide (a1 < 0) = false := decide_eq_false c4; clear c4; (first | rw [c4b0] | (simp only [i64_w, i32_w]; rw [c4b0]) | skip); by_cases c5 : a1 > 6
   ·rw [if_pos c5] at H; have c5b0 : decide (6 < a1) = true := decide_eq_true c5; clear c5; have H' := K0 H; clear H; go_wp2; go_meet
    case rel => exact ⟨_, (true), si_, H', ⟨by first | omega | exact Nat.le_refl _⟩, ⟨hb_⟩⟩
   ·rw [if_neg c5] at H; have c5b0 : decide (6 < a1) = false := decide_eq_false c5; clear c5; by_cases c6 : a0 < (-1)
    ·rw [if_pos c6] at H; have c6b0 : decide (a0 < (-1)) = true := decide_eq_true c6; clear c6; have H' := K0 H; clear H; go_wp2; go_meet
     case rel => exact ⟨_, (true), si_, H', ⟨by first | omega | exact Nat.le_refl _⟩, ⟨hb_⟩⟩
    ·rw [if_neg c6] at H; have c6b0 : decide (a0 < (-1)) = false := decide_eq_false c6; clear c6; have H' := K0 H; clear H; go_wp2; go_meet
     case rel => exact ⟨_, (decide (a0 > a1)), si_, H', ⟨by first | omega | exact Nat.le_refl _⟩, ⟨hb_⟩⟩
 case rest =>
  clear HC3; (try clear c1); (try clear p2); (try clear c4); (try clear c4b0); (try clear c5); (try clear c5b0); (try clear c6); (try clear c6b0); obtain ⟨kq, x24_2, rfl, HA, HJ2, HB⟩ := hcut
  cases kq with
  | zero => exact absurd HA.out (by simp [r15Monomials.j0])
  | succ kj2 =>
   have H := HA.out; clear HA; simp only [r15Monomials.j0] at H; by_cases c7 : x24_2 = true
   ·subst c7; (have H1 : (some (([] : List (List Int)), 6)) = some (r1, r2) := by rw [if_pos rfl] at H; exact H); clear H; have H := H1; clear H1; simp only [Option.some.injEq, Prod.mk.injEq] at H; obtain ⟨rfl, rfl⟩ := H; go_wp2; go_ret2; exact ⟨_, er_, by first | exact Kd.S_nil _ _ _ _ _ | exact Kd.N_nil _ _ _ _ _ | exact Kd.V_nil _ _ _ _ _ | exact Kd.Q_nil _ _ _ _ _ | exact Kd.R_nil _ _ _ _ _, hb_⟩
   ·replace c7 := Bool.eq_false_iff.mpr c7; subst c7; (have H1 : (r15Monomials.l0 kj2 a0 a1 (([] : List (List Int))) 0) = some (r1, r2) := by rw [if_neg (show ¬ (false = true) by decide)] at H; exact H); clear H; have H := H1; clear H1; obtain ⟨y135, hy135⟩ : ∃ y_ : List (List Int), y_ = (([] : List (List Int))) := ⟨_, rfl⟩; replace H : (r15Monomials.l0 kj2 a0 a1 y135 0) = some (r1, r2) := rq_ hy135 H; have Ny135 := K0 hy135; clear hy135; have H' := K0 H; clear H; go_wp2_with (first | ((with_reducible refine gate_dst (N := 25) rfl ?_); refine Kd.N_lit (Kd.slice 3 (Kd.int .i64)) _ 22 ?hg (N' := 25) ?hd (xs := ([] : List (List Int))) (inner := []) (ok := (fun k_ => (w.heap.size ≤ k_))) (okp := (fun k_ => (w.heap.size ≤ k_))) ?hr ?hp (fun _ hk => hk) ((show ∀ k_, wc.heap.size ≤ k_ → (fun k_ => (w.heap.size ≤ k_)) k_ from fun k_ hk => (Nat.le_trans (below_size hb_) hk)) _ (Nat.le_refl _)) (Below.refl _ _) (Nat.le_refl _) (by simp) ?_; (case hd => rfl); (case hg => rfl); (case hr => exact gs_); (case hp => exact (Reps.none _ _)); intro v136 w8 ho9 hb hg_ hnew_; clear hg_ hnew_; (first | rw [← Ny135.out] at ho9 | (simp only [Int.reduceToNat] at ho9; rw [← Ny135.out] at ho9)); have n0_ := K0 (Kd.N_lower ho9 (below_size hb_)); have n1_ := K0 (below_step hb_ hb); clear HB; have HO137 := n0_; have HB := n1_; clear n0_ n1_; clear hb ho9)); go_loopg [6, 7] kj2 (fun kq v6 v7 w' => ∃ (x6_2 : List (List Int)) (x7_2 : Int), v7 = .int .i64 x7_2 ∧ Aside0 (r15Monomials.l0 kq a0 a1 x6_2 x7_2 = some (r1, r2)) ∧ Aside0 (kq ≤ kj2) ∧ Aside0 (Kd.N (Kd.slice 3 (Kd.int .i64)) 22 w' w.heap.size (fun k_ => (w.heap.size ≤ k_)) v6 x6_2) ∧ Aside0 (Below w.heap.size w w'))
    case atStart => exact ⟨(y135), (0), si_, H', ⟨Nat.le_refl _⟩, ⟨nd_ HO137.out⟩, ⟨hb_⟩⟩
    case round =>
     clear H'; (try clear c1); (try clear p2); (try clear c4); (try clear c4b0); (try clear c5); (try clear c5b0); (try clear c6); (try clear c6b0); (try clear c7); (try clear p2); obtain ⟨x6_2, x7_2, rfl, HA, HK2, HO_6, HB⟩ := hrel
     cases gk with
     | zero => exact absurd HA.out (by simp [r15Monomials.l0])
     | succ k2 =>
      have H := HA.out; clear HA; simp only [r15Monomials.l0] at H; by_cases c10 : x7_2 ≤ a0
      ·rw [if_pos c10] at H; have c10b0 : decide (x7_2 ≤ a0) = true := decide_eq_true c10; clear c10; replace H := Option.bind_eq_some_iff.mp H; obtain ⟨⟨t138, t139⟩, A110, H⟩ := H; (try dsimp only at H); have A11 := K0 A110; clear A110; by_cases c12 : x6_2.length + t138.length < 5864062014805
       ·rw [if_pos c12] at H; have LMc12 := K0 c12; clear c12; obtain ⟨y142, hy142⟩ : ∃ y_ : List (List Int), y_ = (x6_2 ++ t138) := ⟨_, rfl⟩; replace H : (r15Monomials.l0 k2 a0 a1 y142 (wrap64 (x7_2 + 1))) = some (r1, r2) := rq_ hy142 H; have Ny142 := K0 hy142; clear hy142; have H' := K0 H; clear H; go_wp2_with (first | ((with_reducible refine gate_callee (f := 34) rfl ?_); refine goesL_ (some 34) rfl rfl Try.func34 (by kernel_rfl) rfl #[.int .i64 a1, .int .i64 x7_2] rfl ma_ ?_; (with_reducible refine (r11Subsets.calls k2 a1 x7_2 t138 t139 _ A11.out).mono ?_); rintro e w13 ⟨v140, rfl, ho0, hb⟩; refine ⟨_, rfl, ?_⟩; have n0_ := K0 (Kd.N_elder' (nd_ HO_6.out) (Kd.N_base (by first | exact ho0 | exact Kd.S_N ho0)) hb); have n1_ := K0 (Kd.N_lower (Kd.N_mono (ok' := fun k_ => (w.heap.size ≤ k_) ∧ some k_ ≠ (u6 : Value).ownBlock) (Kd.S_N (Kd.S_bound ho0)) (fun k_ hk_ => ⟨(Nat.le_trans (below_size hb_) hk_.2.1), (Kd.fresh' (Kd.N_lt (nd_ HO_6.out)) k_ hk_.2.1)⟩)) (below_size hb_)); have n2_ := K0 (below_step hb_ hb); clear HO_6; clear HB; have HO_6 := n0_; have HO141 := n1_; have HB := n2_; clear n0_ n1_ n2_; (try clear hb); (try clear hb2); (try clear hk); (try clear hi); (try clear ho0); obtain ⟨Ao15, co15, eo15⟩ := Kd.N_slice HO141.out; subst eo15) | ((with_reducible refine gate_builtin (b := .append) (xs := #[.tmp 37, .tmp 38]) rfl ?_); at_builtin; refine Kd.N_append_rows (Kd.slice 3 (Kd.int .i64)) (w0 := w) w.heap.size rfl (.tmp 37) (.tmp 38) 23 22 (.slice none 0 0) 24 rfl Try.underlying23 info22 rfl (by decide) (by omega) u6 x6_2 t138 _ _ _ (fun k_ => (w.heap.size ≤ k_)) (fun k_ => ((fun k_ => (w.heap.size ≤ k_))) k_ ∧ some k_ ≠ (u6 : Value).ownBlock) rfl rfl ?aO ?aR (fun _ hk => hk) ?aF ?aB ?aS ?aL ?_; (case aR => exact (by skip; exact Kd.N_F (Kd.N_mono (ok' := (fun k_ => ((fun k_ => (w.heap.size ≤ k_))) k_ ∧ some k_ ≠ (u6 : Value).ownBlock)) (HO141.out) (fun k_ hk => ⟨hk.1, hk.2⟩)))); (case aB => exact hb_); (case aF => exact (fun k_ hk => (Nat.le_trans (below_size hb_) hk))); (case aO => exact (by refine nd_ ?_; exact Kd.N_mono HO_6.out (fun _ hk => hk.1))); (case aS => exact (below_size hb_)); (case aL => have := LMc12.out; omega); intro v143 w14 ho hb hg hat; rw [← Ny142.out] at ho; have n0_ := K0 (Kd.N_afterv (ok := (fun k_ => (w.heap.size ≤ k_))) (nd_ HO141.out) hg hat); have n1_ := K0 (hb); have n2_ := K0 (ho); clear HO141; clear HB; clear HO_6; have HO141 := n0_; have HB := n1_; have HO144 := n2_; clear n0_ n1_ n2_; clear ho hb hg hat)); go_roundg k2
        case measure => have := HJ2.out; have := HK2.out; omega
        case rel => exact ⟨(y142), (wrap64 (x7_2 + 1)), si_, H', ⟨by have := HJ2.out; have := HK2.out; omega⟩, ⟨nd_ HO144.out⟩, ⟨hb_⟩⟩
       ·rw [if_neg c12] at H; exact absurd H (by simp)
      ·rw [if_neg c10] at H; have c10b0 : decide (x7_2 ≤ a0) = false := decide_eq_false c10; clear c10; simp only [Option.some.injEq, Prod.mk.injEq] at H; obtain ⟨rfl, rfl⟩ := H; go_wp2; go_ret2; exact ⟨_, er_, nd_ HO_6.out, hb_⟩

/-! ### classic_Evaluate: function 11 -/
mutual
def classic_Evaluate.j0 : Nat → Int → List Int → Bool → Option (List Int × Int)
 | 0, _, _, _ => none
 | k + 1, x0, x1, x16 => if x16 = true then (some (([] : List Int), 6)) else (classic_Evaluate.l0 k x0 x1 0 x1 (x1.length : Int) 0)
def classic_Evaluate.l0 : Nat → Int → List Int → Int → List Int → Int → Int → Option (List Int × Int)
 | 0, _, _, _, _, _, _ => none
 | k + 1, x0, x1, x6, x17, x18, x19 => if x19 < x18 then (if 0 ≤ x19 then (if x19 < (x17.length : Int) then (if (rd x17 x19) < 0 then (some (([] : List Int), 5)) else (if (rd x17 x19) ≥ x0 then (some (([] : List Int), 5)) else (if x19 > 0 then (if 0 ≤ (wrap64 (x19 - 1)) then (if (wrap64 (x19 - 1)) < (x1.length : Int) then (if (rd x17 x19) ≤ (rd x1 (wrap64 (x19 - 1))) then (some (([] : List Int), 5)) else (if 0 ≤ (rd x17 x19) then (classic_Evaluate.l0 k x0 x1 (Go.bits .or .i64 x6 (shl .i64 1 (rd x17 x19))) x17 x18 (wrap64 (x19 + 1))) else (none))) else (none)) else (none)) else (if 0 ≤ (rd x17 x19) then (classic_Evaluate.l0 k x0 x1 (Go.bits .or .i64 x6 (shl .i64 1 (rd x17 x19))) x17 x18 (wrap64 (x19 + 1))) else (none))))) else (none)) else (none)) else (if 0 ≤ x0 then (if 0 ≤ (shl .i64 1 x0) then (if (shl .i64 1 x0 : Int).toNat ≤ 35184372088832 then ((some (List.replicate (shl .i64 1 x0 : Int).toNat 0 : List Int)).bind fun y147 => (classic_Evaluate.l1 k x6 y147 (y147.length : Int) 0)) else (none)) else (none)) else (none))
def classic_Evaluate.l1 : Nat → Int → List Int → Int → Int → Option (List Int × Int)
 | 0, _, _, _, _ => none
 | k + 1, x6, x9, x53, x54 => if x54 < x53 then (if (Go.bits .and .i64 x54 x6) = x6 then (if 0 ≤ x54 then (if x54 < (x9.length : Int) then (classic_Evaluate.l1 k x6 (x9.set (x54 : Int).toNat 1) x53 (wrap64 (x54 + 1))) else (none)) else (none)) else (classic_Evaluate.l1 k x6 x9 x53 (wrap64 (x54 + 1)))) else (some (x9, 0))
end
def classic_Evaluate.f (k : Nat) (a0 : Int) (l1 : List Int) : Option (List Int × Int) := if a0 < 0 then (classic_Evaluate.j0 k a0 l1 true) else (classic_Evaluate.j0 k a0 l1 (decide (a0 > 6)))
set_option maxHeartbeats 8000000 in
set_option maxRecDepth 100000 in
theorem classic_Evaluate.calls (k : Nat) (a0 : Int) (A1 : Option Addr) (c1 : Nat) (l1 : List Int) (r1 : List Int) (r2 : Int) (w : World) (hr1 : Kd.C (Kd.int .i64) w A1 l1.length l1) (hc1 : l1.length ≤ c1) (h : classic_Evaluate.f k a0 l1 = some (r1, r2)) :
  Calls Try.prog 11 #[.int .i64 a0, .slice A1 l1.length c1] w fun e w' => ∃ v0_ : Value, e = .returned (.tuple #[v0_, .int .i64 r2]) ∧ Kd.R (Kd.int .i64) 3 w' w.heap.size (fun _ => True) v0_ r1 ∧ Below w.heap.size w w' := by
 have HR1 := K0 hr1; have HC1 := K0 hc1; clear hr1 hc1; have HB := K0 (Below.refl w.heap.size w); have H : (if a0 < 0 then (classic_Evaluate.j0 k a0 l1 true) else (classic_Evaluate.j0 k a0 l1 (decide (a0 > 6)))) = some (r1, r2) := h; clear h; have HC3 := K0 H; clear H; go_enter Try.func11, Try.ntmps11; (go_upto_region 1 with (fail)); go_cut [16] (fun v16 wc => ∃ (kq : Nat) (x16_2 : Bool), v16 = .bool x16_2 ∧ Aside0 (classic_Evaluate.j0 kq a0 l1 x16_2 = some (r1, r2)) ∧ Aside0 (kq ≤ k) ∧ Aside0 (Below w.heap.size w wc))
 case first =>
  have H := HC3.out; clear HC3; by_cases c4 : a0 < 0
  ·rw [if_pos c4] at H; have c4b0 : decide (a0 < 0) = true := decide_eq_true c4; clear c4; (first | rw [c4b0] | (simp only [i64_w, i32_w]; rw [c4b0]) | skip); have H' := K0 H; clear H; go_wp2; go_meet
   case rel => exact ⟨_, (true), si_, H', ⟨by first | omega | exact Nat.le_refl _⟩, ⟨hb_⟩⟩
  ·rw [if_neg c4] at H; have c4b0 : decide (a0 < 0) = false := decide_eq_false c4; clear c4; (first | rw [c4b0] | (simp only [i64_w, i32_w]; rw [c4b0]) | skip); have H' := K0 H; clear H; go_wp2; go_meet
   case rel => exact ⟨_, (decide (a0 > 6)), si_, H', ⟨by first | omega | exact Nat.le_refl _⟩, ⟨hb_⟩⟩
 case rest =>
  clear HC3; (try clear c1); (try clear p2); (try clear c4); (try clear c4b0); obtain ⟨kq, x16_2, rfl, HA, HJ2, HB⟩ := hcut
  cases kq with
  | zero => exact absurd HA.out (by simp [classic_Evaluate.j0])
  | succ kj2 =>
   have H := HA.out; clear HA; simp only [classic_Evaluate.j0] at H; by_cases c5 : x16_2 = true
   ·subst c5; (have H1 : (some (([] : List Int), 6)) = some (r1, r2) := by rw [if_pos rfl] at H; exact H); clear H; have H := H1; clear H1; simp only [Option.some.injEq, Prod.mk.injEq] at H; obtain ⟨rfl, rfl⟩ := H; go_wp2; go_ret2; exact ⟨_, er_, by first | exact Kd.R_nil _ _ _ _ _ | exact Kd.S_nil _ _ _ _ _ | exact Kd.N_nil _ _ _ _ _ | exact Kd.V_nil _ _ _ _ _ | exact Kd.Q_nil _ _ _ _ _ | exact Kd.S_nil _ _ _ _ _, hb_⟩
   ·replace c5 := Bool.eq_false_iff.mpr c5; subst c5; (have H1 : (classic_Evaluate.l0 kj2 a0 l1 0 l1 (l1.length : Int) 0) = some (r1, r2) := by rw [if_neg (show ¬ (false = true) by decide)] at H; exact H); clear H; have H := H1; clear H1; have H' := K0 H; clear H; go_wp2; go_loopg [6, 19] kj2 (fun kq v6 v19 w' => ∃ (x6_2 : Int) (x19_2 : Int), v6 = .int .i64 x6_2 ∧ v19 = .int .i64 x19_2 ∧ Aside0 (classic_Evaluate.l0 kq a0 l1 x6_2 l1 (l1.length : Int) x19_2 = some (r1, r2)) ∧ Aside0 (kq ≤ kj2) ∧ Aside0 (Below w.heap.size w w'))
    case atStart => exact ⟨(0), (0), si_, si_, H', ⟨Nat.le_refl _⟩, ⟨hb_⟩⟩
    case round =>
     clear H'; (try clear c1); (try clear p2); (try clear c4); (try clear c4b0); (try clear c5); (try clear p2); obtain ⟨x6_2, x19_2, rfl, rfl, HA, HK2, HB⟩ := hrel
     cases gk with
     | zero => exact absurd HA.out (by simp [classic_Evaluate.l0])
     | succ k2 =>
      have H := HA.out; clear HA; simp only [classic_Evaluate.l0] at H; by_cases c6 : x19_2 < (l1.length : Int)
      ·rw [if_pos c6] at H; have c6b0 : decide (x19_2 < (l1.length : Int)) = true := decide_eq_true c6; clear c6; by_cases c7 : 0 ≤ x19_2
       ·rw [if_pos c7] at H; have c7b0 : decide (0 ≤ x19_2) = true := decide_eq_true c7; clear c7; by_cases c8 : x19_2 < (l1.length : Int)
        ·rw [if_pos c8] at H; have c8b0 : decide (x19_2 < (l1.length : Int)) = true := decide_eq_true c8; clear c8; by_cases c9 : (rd l1 x19_2) < 0
         ·rw [if_pos c9] at H; have c9b0 : decide ((rd l1 x19_2) < 0) = true := decide_eq_true c9; clear c9; simp only [Option.some.injEq, Prod.mk.injEq] at H; obtain ⟨rfl, rfl⟩ := H; have p145 : 0 ≤ (x19_2 : Int) := od_; have q145 : x19_2 < (l1.length : Int) := od_; obtain ⟨ad145, e145, hx145_0⟩ := Kd.at_int HR1.out x19_2 p145 q145; cases e145; replace hx145_0 := (HB.out.cell (World.block_lt_of_cell? w _ hx145_0)).trans hx145_0; replace p145 := eq_true p145; replace q145 := eq_true q145; go_wp2; go_ret2; exact ⟨_, er_, by first | exact Kd.R_nil _ _ _ _ _ | exact Kd.S_nil _ _ _ _ _ | exact Kd.N_nil _ _ _ _ _ | exact Kd.V_nil _ _ _ _ _ | exact Kd.Q_nil _ _ _ _ _ | exact Kd.S_nil _ _ _ _ _, hb_⟩
         ·rw [if_neg c9] at H; have c9b0 : decide ((rd l1 x19_2) < 0) = false := decide_eq_false c9; clear c9; by_cases c10 : (rd l1 x19_2) ≥ a0
          ·rw [if_pos c10] at H; have c10b0 : decide (a0 ≤ (rd l1 x19_2)) = true := decide_eq_true c10; clear c10; simp only [Option.some.injEq, Prod.mk.injEq] at H; obtain ⟨rfl, rfl⟩ := H; have p145 : 0 ≤ (x19_2 : Int) := od_; have q145 : x19_2 < (l1.length : Int) := od_; obtain ⟨ad145, e145, hx145_0⟩ := Kd.at_int HR1.out x19_2 p145 q145; cases e145; replace hx145_0 := (HB.out.cell (World.block_lt_of_cell? w _ hx145_0)).trans hx145_0; replace p145 := eq_true p145; replace q145 := eq_true q145; go_wp2; go_ret2; exact ⟨_, er_, by first | exact Kd.R_nil _ _ _ _ _ | exact Kd.S_nil _ _ _ _ _ | exact Kd.N_nil _ _ _ _ _ | exact Kd.V_nil _ _ _ _ _ | exact Kd.Q_nil _ _ _ _ _ | exact Kd.S_nil _ _ _ _ _, hb_⟩
          ·rw [if_neg c10] at H; have c10b0 : decide (a0 ≤ (rd l1 x19_2)) = false := decide_eq_false c10; clear c10; by_cases c11 : x19_2 > 0
           ·rw [if_pos c11] at H; have c11b0 : decide (0 < x19_2) = true := decide_eq_true c11; clear c11; obtain ⟨ji12, hji12⟩ : ∃ j_ : Int, (wrap64 (x19_2 - 1)) = j_ := ⟨_, rfl⟩; (replace H : (if 0 ≤ (ji12) then (if (ji12) < (l1.length : Int) then (if (rd l1 x19_2) ≤ (rd l1 (ji12)) then (some (([] : List Int), 5)) else (if 0 ≤ (rd l1 x19_2) then (classic_Evaluate.l0 k2 a0 l1 (Go.bits .or .i64 x6_2 (shl .i64 1 (rd l1 x19_2))) l1 (l1.length : Int) (wrap64 (x19_2 + 1))) else (none))) else (none)) else (none)) = some (r1, r2) := by first | (rw [hji12] at H; exact H) | (simp only [hji12] at H ⊢; exact H)); have hji12w : (IntKind.i64.wrap (x19_2 - 1)) = ji12 := (i64_w _).trans hji12; by_cases c13 : 0 ≤ (ji12)
            ·rw [if_pos c13] at H; have c13b0 : decide (0 ≤ (ji12)) = true := decide_eq_true c13; clear c13; by_cases c14 : (ji12) < (l1.length : Int)
             ·rw [if_pos c14] at H; have c14b0 : decide ((ji12) < (l1.length : Int)) = true := decide_eq_true c14; clear c14; by_cases c15 : (rd l1 x19_2) ≤ (rd l1 (ji12))
              ·rw [if_pos c15] at H; have c15b0 : decide ((rd l1 x19_2) ≤ (rd l1 (ji12))) = true := decide_eq_true c15; clear c15; simp only [Option.some.injEq, Prod.mk.injEq] at H; obtain ⟨rfl, rfl⟩ := H; have p145 : 0 ≤ (x19_2 : Int) := od_; have q145 : x19_2 < (l1.length : Int) := od_; obtain ⟨ad145, e145, hx145_0⟩ := Kd.at_int HR1.out x19_2 p145 q145; cases e145; replace hx145_0 := (HB.out.cell (World.block_lt_of_cell? w _ hx145_0)).trans hx145_0; replace p145 := eq_true p145; replace q145 := eq_true q145; have p146 : 0 ≤ ((ji12) : Int) := od_; have q146 : (ji12) < (l1.length : Int) := od_; obtain ⟨ad146, e146, hx146_0⟩ := Kd.at_int HR1.out (ji12) p146 q146; obtain rfl : ad145 = ad146 := (by injection e146); replace hx146_0 := (HB.out.cell (World.block_lt_of_cell? w _ hx146_0)).trans hx146_0; replace p146 := eq_true p146; replace q146 := eq_true q146; go_wp2; go_ret2; exact ⟨_, by first | rfl | (simp [errW_none, errW_some] <;> rfl) | (simp only [← hji12]; first | rfl | (simp [errW_none, errW_some] <;> rfl)) | (simp [*, errW_none, errW_some] <;> rfl), by first | exact Kd.R_nil _ _ _ _ _ | exact Kd.S_nil _ _ _ _ _ | exact Kd.N_nil _ _ _ _ _ | exact Kd.V_nil _ _ _ _ _ | exact Kd.Q_nil _ _ _ _ _ | exact Kd.S_nil _ _ _ _ _, hb_⟩
              ·rw [if_neg c15] at H; have c15b0 : decide ((rd l1 x19_2) ≤ (rd l1 (ji12))) = false := decide_eq_false c15; clear c15; by_cases c16 : 0 ≤ (rd l1 x19_2)
               ·rw [if_pos c16] at H; have c16b0 := eq_true c16; have c16b1 : decide (0 ≤ (rd l1 x19_2)) = true := decide_eq_true c16; clear c16; obtain ⟨ji17, hji17⟩ : ∃ j_ : Int, (shl .i64 1 (rd l1 x19_2)) = j_ := ⟨_, rfl⟩; (replace H : (classic_Evaluate.l0 k2 a0 l1 (Go.bits .or .i64 x6_2 (ji17)) l1 (l1.length : Int) (wrap64 (x19_2 + 1))) = some (r1, r2) := by first | (rw [hji17] at H; exact H) | (simp only [hji17] at H ⊢; exact H)); have hji17_ : (IntKind.i64.wrap (1 * 2 ^ min (rd l1 x19_2).toNat 64)) = ji17 := hji17; have hji17z : (rd l1 x19_2) ≤ 64 → (IntKind.i64.wrap (1 * 2 ^ (rd l1 x19_2).toNat)) = ji17 := shl_small hji17; (have hji17u : (IntKind.i64.wrap (2 ^ min (rd l1 x19_2).toNat 64)) = ji17 := by have h_ := hji17_; rw [Int.one_mul] at h_; exact h_); (have hji17v : (rd l1 x19_2) ≤ 64 → (IntKind.i64.wrap (2 ^ (rd l1 x19_2).toNat)) = ji17 := fun hle_ => by have h_ := hji17z hle_; rw [Int.one_mul] at h_; exact h_); have hji17y : (wrap64 (1 * 2 ^ min (rd l1 x19_2).toNat 64)) = ji17 := (i64_w _).symm.trans hji17_; (have hji17x : (rd l1 x19_2) ≤ 64 → (wrap64 (1 * 2 ^ (rd l1 x19_2).toNat)) = ji17 := fun h_ => (i64_w _).symm.trans (hji17z h_)); have H' := K0 H; clear H; have p145 : 0 ≤ (x19_2 : Int) := od_; have q145 : x19_2 < (l1.length : Int) := od_; obtain ⟨ad145, e145, hx145_0⟩ := Kd.at_int HR1.out x19_2 p145 q145; cases e145; replace hx145_0 := (HB.out.cell (World.block_lt_of_cell? w _ hx145_0)).trans hx145_0; replace p145 := eq_true p145; replace q145 := eq_true q145; have p146 : 0 ≤ ((ji12) : Int) := od_; have q146 : (ji12) < (l1.length : Int) := od_; obtain ⟨ad146, e146, hx146_0⟩ := Kd.at_int HR1.out (ji12) p146 q146; obtain rfl : ad145 = ad146 := (by injection e146); replace hx146_0 := (HB.out.cell (World.block_lt_of_cell? w _ hx146_0)).trans hx146_0; replace p146 := eq_true p146; replace q146 := eq_true q146; go_wp2; go_roundg k2
                case measure => have := HJ2.out; have := HK2.out; omega
                case rel => exact ⟨(Go.bits .or .i64 x6_2 (ji17)), (wrap64 (x19_2 + 1)), (by first | rfl | (simp; done) | (simp only [← hji17] <;> (first | rfl | simp)) | (simp [*]; done)), si_, H', ⟨by have := HJ2.out; have := HK2.out; omega⟩, ⟨hb_⟩⟩
               ·rw [if_neg c16] at H; exact absurd H (by simp)
             ·rw [if_neg c14] at H; exact absurd H (by simp)
            ·rw [if_neg c13] at H; exact absurd H (by simp)
           ·rw [if_neg c11] at H; have c11b0 : decide (0 < x19_2) = false := decide_eq_false c11; clear c11; by_cases c18 : 0 ≤ (rd l1 x19_2)
            ·rw [if_pos c18] at H; have c18b0 := eq_true c18; have c18b1 : decide (0 ≤ (rd l1 x19_2)) = true := decide_eq_true c18; clear c18; obtain ⟨ji19, hji19⟩ : ∃ j_ : Int, (shl .i64 1 (rd l1 x19_2)) = j_ := ⟨_, rfl⟩; (replace H : (classic_Evaluate.l0 k2 a0 l1 (Go.bits .or .i64 x6_2 (ji19)) l1 (l1.length : Int) (wrap64 (x19_2 + 1))) = some (r1, r2) := by first | (rw [hji19] at H; exact H) | (simp only [hji19] at H ⊢; exact H)); have hji19_ : (IntKind.i64.wrap (1 * 2 ^ min (rd l1 x19_2).toNat 64)) = ji19 := hji19; have hji19z : (rd l1 x19_2) ≤ 64 → (IntKind.i64.wrap (1 * 2 ^ (rd l1 x19_2).toNat)) = ji19 := shl_small hji19; (have hji19u : (IntKind.i64.wrap (2 ^ min (rd l1 x19_2).toNat 64)) = ji19 := by have h_ := hji19_; rw [Int.one_mul] at h_; exact h_); (have hji19v : (rd l1 x19_2) ≤ 64 → (IntKind.i64.wrap (2 ^ (rd l1 x19_2).toNat)) = ji19 := fun hle_ => by have h_ := hji19z hle_; rw [Int.one_mul] at h_; exact h_); have hji19y : (wrap64 (1 * 2 ^ min (rd l1 x19_2).toNat 64)) = ji19 := (i64_w _).symm.trans hji19_; (have hji19x : (rd l1 x19_2) ≤ 64 → (wrap64 (1 * 2 ^ (rd l1 x19_2).toNat)) = ji19 := fun h_ => (i64_w _).symm.trans (hji19z h_)); have H' := K0 H; clear H; have p145 : 0 ≤ (x19_2 : Int) := od_; have q145 : x19_2 < (l1.length : Int) := od_; obtain ⟨ad145, e145, hx145_0⟩ := Kd.at_int HR1.out x19_2 p145 q145; cases e145; replace hx145_0 := (HB.out.cell (World.block_lt_of_cell? w _ hx145_0)).trans hx145_0; replace p145 := eq_true p145; replace q145 := eq_true q145; go_wp2; go_roundg k2
             case measure => have := HJ2.out; have := HK2.out; omega
             case rel => exact ⟨(Go.bits .or .i64 x6_2 (ji19)), (wrap64 (x19_2 + 1)), (by first | rfl | (simp; done) | (simp only [← hji19] <;> (first | rfl | simp)) | (simp [*]; done)), si_, H', ⟨by have := HJ2.out; have := HK2.out; omega⟩, ⟨hb_⟩⟩
            ·rw [if_neg c18] at H; exact absurd H (by simp)
        ·rw [if_neg c8] at H; exact absurd H (by simp)
       ·rw [if_neg c7] at H; exact absurd H (by simp)
      ·rw [if_neg c6] at H; have c6b0 : decide (x19_2 < (l1.length : Int)) = false := decide_eq_false c6; clear c6; by_cases c20 : 0 ≤ a0
       ·rw [if_pos c20] at H; have c20b0 := eq_true c20; have c20b1 : decide (0 ≤ a0) = true := decide_eq_true c20; clear c20; obtain ⟨ji21, hji21⟩ : ∃ j_ : Int, (shl .i64 1 a0) = j_ := ⟨_, rfl⟩; (replace H : (if 0 ≤ (ji21) then (if (ji21 : Int).toNat ≤ 35184372088832 then ((some (List.replicate (ji21 : Int).toNat 0 : List Int)).bind fun y147 => (classic_Evaluate.l1 k2 x6_2 y147 (y147.length : Int) 0)) else (none)) else (none)) = some (r1, r2) := by first | (rw [hji21] at H; exact H) | (simp only [hji21] at H ⊢; exact H)); have hji21_ : (IntKind.i64.wrap (1 * 2 ^ min a0.toNat 64)) = ji21 := hji21; have hji21z : a0 ≤ 64 → (IntKind.i64.wrap (1 * 2 ^ a0.toNat)) = ji21 := shl_small hji21; (have hji21u : (IntKind.i64.wrap (2 ^ min a0.toNat 64)) = ji21 := by have h_ := hji21_; rw [Int.one_mul] at h_; exact h_); (have hji21v : a0 ≤ 64 → (IntKind.i64.wrap (2 ^ a0.toNat)) = ji21 := fun hle_ => by have h_ := hji21z hle_; rw [Int.one_mul] at h_; exact h_); have hji21y : (wrap64 (1 * 2 ^ min a0.toNat 64)) = ji21 := (i64_w _).symm.trans hji21_; (have hji21x : a0 ≤ 64 → (wrap64 (1 * 2 ^ a0.toNat)) = ji21 := fun h_ => (i64_w _).symm.trans (hji21z h_)); by_cases c22 : 0 ≤ (ji21)
        ·rw [if_pos c22] at H; have c22b0 := eq_true c22; have c22b1 : decide (0 ≤ (ji21)) = true := decide_eq_true c22; clear c22; by_cases c23 : (ji21 : Int).toNat ≤ 35184372088832
         ·rw [if_pos c23] at H; have c23b0 := eq_true c23; have c23b1 : decide ((ji21 : Int).toNat ≤ 35184372088832) = true := decide_eq_true c23; clear c23; obtain ⟨y147, hy147⟩ : ∃ y_ : List Int, y_ = (List.replicate (ji21 : Int).toNat 0) := ⟨_, rfl⟩; replace H : (classic_Evaluate.l1 k2 x6_2 y147 (y147.length : Int) 0) = some (r1, r2) := rq_ hy147 H; have Ny147 := K0 hy147; clear hy147; have H' := K0 H; clear H; go_wp2_with (first | ((with_reducible refine gate_dst (N := 51) rfl ?_); refine Kd.R_make (Kd.int .i64) _ 3 rfl (N := 51) rfl 22 _ _ rfl ji21 rfl rfl Try.underlying22 (.int .i64 0) 8 info3 rfl (by decide) (by omega) 0 (ok := fun _ => True) (okp := fun _ => True) rfl (fun _ hk => hk) trivial od_ (Nat.le_trans (Nat.mul_le_mul_right _ (od_ : ji21.toNat ≤ 35184372088832)) (by omega)) (Below.refl _ _) (Nat.le_refl _) ?_; intro v148 w24 ho25 hb hg_ hnew_; clear hg_ hnew_; (first | rw [← Ny147.out] at ho25 | (simp only [Int.reduceToNat] at ho25; rw [← Ny147.out] at ho25)); have n0_ := K0 (Kd.R_lower ho25 (below_size hb_)); have n1_ := K0 (below_step hb_ hb); clear HB; have HO149 := n0_; have HB := n1_; clear n0_ n1_; clear hb ho25; obtain ⟨Ao26, co26, eo26⟩ := Kd.R_slice HO149.out; subst eo26)); go_loopg [54] k2 (fun kq v54 w' => ∃ (x9_3 : List Int) (x54_3 : Int), v54 = .int .i64 x54_3 ∧ Aside0 (classic_Evaluate.l1 kq x6_2 x9_3 (y147.length : Int) x54_3 = some (r1, r2)) ∧ Aside0 (kq ≤ k2) ∧ Aside0 (Kd.R (Kd.int .i64) 3 w' w.heap.size (fun _ => True) (.slice Ao26 y147.length co26) x9_3) ∧ Aside0 (Below w.heap.size w w'))
          case atStart => exact ⟨(y147), (0), si_, H', ⟨Nat.le_refl _⟩, ⟨rd_ HO149.out⟩, ⟨hb_⟩⟩
          case round =>
           clear H'; (try clear c1); (try clear p1); (try clear q1); (try clear hx1); (try clear c2); (try clear p2); (try clear c4); (try clear c4b0); (try clear c5); (try clear c6); (try clear c6b0); (try clear p6); (try clear c7); (try clear c7b0); (try clear c8); (try clear c8b0); (try clear c9); (try clear c9b0); (try clear c10); (try clear c10b0); (try clear c11); (try clear c11b0); (try clear c13); (try clear c13b0); (try clear c14); (try clear c14b0); (try clear p14); (try clear q14); (try clear hx14); (try clear c15); (try clear c15b0); (try clear c16); (try clear c16b0); (try clear c16b1); (try clear c18); (try clear c18b0); (try clear c18b1); (try clear c20); (try clear c20b0); (try clear c20b1); (try clear c22); (try clear c22b0); (try clear c22b1); (try clear c23); (try clear c23b0); (try clear c23b1); (try clear hx145_0); (try clear hx146_0); (try clear p145); (try clear p146); (try clear p2); (try clear q145); (try clear q146); obtain ⟨x9_3, x54_3, rfl, HA, HK3, HO_9, HB⟩ := hrel; have hl9_3 := (Kd.R_reads' HO_9.out).1; rw [hl9_3] at HO_9; (try simp only [hl9_3])
           cases gk with
           | zero => exact absurd HA.out (by simp [classic_Evaluate.l1])
           | succ k3 =>
            have H := HA.out; clear HA; simp only [classic_Evaluate.l1] at H; by_cases c27 : x54_3 < (y147.length : Int)
            ·rw [if_pos c27] at H; have c27b0 : decide (x54_3 < (y147.length : Int)) = true := decide_eq_true c27; (try simp only [hl9_3] at c27b0); clear c27; by_cases c28 : (Go.bits .and .i64 x54_3 x6_2) = x6_2
             ·rw [if_pos c28] at H; have c28b0 : ((Go.bits .and .i64 x54_3 x6_2) == x6_2) = true := beq_iff_eq.mpr c28; have c28b1 : ((Go.bits .and .i64 x54_3 x6_2) != x6_2) = false := bne_eq_false_iff_eq.mpr c28; clear c28; by_cases c29 : 0 ≤ x54_3
              ·rw [if_pos c29] at H; have c29b0 : decide (0 ≤ x54_3) = true := decide_eq_true c29; clear c29; by_cases c30 : x54_3 < (x9_3.length : Int)
               ·rw [if_pos c30] at H; have c30b0 : decide (x54_3 < (x9_3.length : Int)) = true := decide_eq_true c30; (try simp only [hl9_3] at c30b0); clear c30; obtain ⟨y150, hy150⟩ : ∃ y_ : List Int, y_ = (x9_3.set (x54_3 : Int).toNat 1) := ⟨_, rfl⟩; replace H : (classic_Evaluate.l1 k3 x6_2 y150 (y147.length : Int) (wrap64 (x54_3 + 1))) = some (r1, r2) := rq_ hy150 H; have Ny150 := K0 hy150; clear hy150; have H' := K0 H; clear H; have p31 : 0 ≤ (x54_3 : Int) := od_; have q31 : (x54_3 : Int) < ((x9_3.length : Int) : Int) := od_; obtain ⟨go31, co31, eo31, gb31, gl31, cl31, HG31⟩ := Kd.R_form HO_9.out (by omega); (first | cases eo31 | (injection eo31 with ea_ en_ ec_; (first | subst ea_ | (injection ea_ with ea_; subst ea_)); subst ec_; clear en_)); have GB31 := K0 gb31; have GG31 := K0 HG31; clear gb31 gl31 HG31; obtain ⟨hx31_0, hf31_0⟩ := Kd.R_celln 0 HO_9.out (x54_3 : Int) p31 q31; replace p31 := eq_true p31; replace q31 := eq_true q31; have HP32 := Kd.R_putg HO_9.out (x54_3 : Int) 1; go_wp2_with (first | ((with_reducible refine gate_store (t := 3) (p := 64) rfl ?_); refine store_event (t := 3) (p := 64) (v := ?vo_w33) (w1 := (wr.setCell ⟨go31, (x54_3 : Int).toNat, none⟩ (.int .i64 1))) ?hg ?ho ?hn ?hr ?_; (case ho => rfl); (case hg => rfl); (case hn => rfl); (case hr => exact gs_); intro w33 hw; have hg : wr.grownBy w33 (some go31) := (by rw [hw]; exact HP32.2); have hp_ : Kd.R (Kd.int .i64) 3 w33 w.heap.size (fun _ => True) (.slice (some ⟨go31, 0, none⟩) x9_3.length co26) y150 := (by rw [hw, Ny150.out]; exact HP32.1); clear HP32; have n0_ := K0 (hp_); have n1_ := K0 ((by rw [hw]; exact below_set (HB.out) GB31.out : Below w.heap.size w w33)); clear HO_9; clear HB; have HO_9 := n0_; have HB := n1_; clear n0_ n1_; clear hg hw hp_)); (try simp only [← hl9_3]); go_roundg k3
                case measure => have := HJ2.out; have := HK2.out; have := HK3.out; omega
                case rel => exact ⟨(y150), (wrap64 (x54_3 + 1)), si_, H', ⟨by have := HJ2.out; have := HK2.out; have := HK3.out; omega⟩, ⟨by (try simp only [hl9_3]); refine rd_ ?_; exact HO_9.out⟩, ⟨hb_⟩⟩
               ·rw [if_neg c30] at H; exact absurd H (by simp)
              ·rw [if_neg c29] at H; exact absurd H (by simp)
             ·rw [if_neg c28] at H; have c28b0 : ((Go.bits .and .i64 x54_3 x6_2) == x6_2) = false := beq_eq_false_iff_ne.mpr c28; have c28b1 : ((Go.bits .and .i64 x54_3 x6_2) != x6_2) = true := bne_iff_ne.mpr c28; have H' := K0 H; clear H; go_wp2; (try simp only [← hl9_3]); go_roundg k3
              case measure => have := HJ2.out; have := HK2.out; have := HK3.out; omega
              case rel => exact ⟨(x9_3), (wrap64 (x54_3 + 1)), si_, H', ⟨by have := HJ2.out; have := HK2.out; have := HK3.out; omega⟩, ⟨by (try simp only [hl9_3]); refine rd_ ?_; exact HO_9.out⟩, ⟨hb_⟩⟩
            ·rw [if_neg c27] at H; have c27b0 : decide (x54_3 < (y147.length : Int)) = false := decide_eq_false c27; (try simp only [hl9_3] at c27b0); clear c27; simp only [Option.some.injEq, Prod.mk.injEq] at H; obtain ⟨rfl, rfl⟩ := H; go_wp2; go_ret2; exact ⟨_, by first | rfl | (simp [errW_none, errW_some] <;> rfl) | (simp only [← hji21]; first | rfl | (simp [errW_none, errW_some] <;> rfl)) | (simp [*, errW_none, errW_some] <;> rfl), rd_ HO_9.out, hb_⟩
         ·rw [if_neg c23] at H; exact absurd H (by simp)
        ·rw [if_neg c22] at H; exact absurd H (by simp)
       ·rw [if_neg c20] at H; exact absurd H (by simp)

/-! ### r11IsSubset: function 35 -/
mutual
def r11IsSubset.l0 : Nat → Int → List Int → Int → Option (Bool)
 | 0, _, _, _ => none
 | k + 1, x0, x1, x5 => if x5 < (x1.length : Int) then (if 0 ≤ x5 then (if (rd x1 x5) < 0 then (r11IsSubset.j1 k x0 x1 x5 true) else (r11IsSubset.j1 k x0 x1 x5 (decide ((rd x1 x5) ≥ x0)))) else (none)) else (some true)
def r11IsSubset.j1 : Nat → Int → List Int → Int → Bool → Option (Bool)
 | 0, _, _, _, _ => none
 | k + 1, x0, x1, x5, x24 => if x24 = true then (some false) else (if x5 > 0 then (if 0 ≤ x5 then (if x5 < (x1.length : Int) then (if 0 ≤ (wrap64 (x5 - 1)) then (if (wrap64 (x5 - 1)) < (x1.length : Int) then (if (rd x1 x5) ≤ (rd x1 (wrap64 (x5 - 1))) then (some false) else (r11IsSubset.l0 k x0 x1 (wrap64 (x5 + 1)))) else (none)) else (none)) else (none)) else (none)) else (r11IsSubset.l0 k x0 x1 (wrap64 (x5 + 1))))
end
def r11IsSubset.f (k : Nat) (a0 : Int) (l1 : List Int) : Option (Bool) := r11IsSubset.l0 k a0 l1 0
set_option maxHeartbeats 8000000 in
set_option maxRecDepth 100000 in
theorem r11IsSubset.calls (k : Nat) (a0 : Int) (A1 : Option Addr) (c1 : Nat) (l1 : List Int) (r : Bool) (w : World) (hr1 : Kd.C (Kd.int .i64) w A1 l1.length l1) (hc1 : l1.length ≤ c1) (h : r11IsSubset.f k a0 l1 = some r) :
  Calls Try.prog 35 #[.int .i64 a0, .slice A1 l1.length c1] w fun e w' => e = .returned (.bool r) ∧ Drawn0 w w' := by
 have HR1 := K0 hr1; have HC1 := K0 hc1; clear hr1 hc1; have H : (r11IsSubset.l0 k a0 l1 0) = some r := h; clear h; have H' := K0 H; clear H; go_enter Try.func35, Try.ntmps35; go_wp2; (repeat (go_quiet (fail); try go_wp2)); go_loopg [5] k (fun kq v5 w' => ∃ (x5_1 : Int), v5 = .int .i64 x5_1 ∧ Aside0 (r11IsSubset.l0 kq a0 l1 x5_1 = some r) ∧ Aside0 (kq ≤ k) ∧ Drawn0 w w')
 case atStart => exact ⟨(0), si_, H', ⟨Nat.le_refl _⟩, by repeat (first | exact Drawn0.refl _ | apply Drawn0.step)⟩
 case round =>
  clear H'; (try clear c1); (try clear p2); obtain ⟨x5_1, rfl, HA, HK1, ⟨m1, rfl⟩⟩ := hrel
  cases gk with
  | zero => exact absurd HA.out (by simp [r11IsSubset.l0])
  | succ k1 =>
   have H := HA.out; clear HA; simp only [r11IsSubset.l0] at H; by_cases c3 : x5_1 < (l1.length : Int)
   ·rw [if_pos c3] at H; have c3b0 : decide (x5_1 < (l1.length : Int)) = true := decide_eq_true c3; clear c3; have HC4 := K0 H; clear H; (go_upto_region 4 with (fail)); (repeat (go_quiet (fail); go_upto_region 4 with (fail))); go_cut [24] (fun v24 wc => ∃ (kq : Nat) (x24_3 : Bool), v24 = .bool x24_3 ∧ Aside0 (r11IsSubset.j1 kq a0 l1 x5_1 x24_3 = some r) ∧ Aside0 (kq ≤ k1) ∧ Drawn0 w wc)
    case first =>
     have H := HC4.out; clear HC4; by_cases c5 : 0 ≤ x5_1
     ·rw [if_pos c5] at H; have c5b0 : decide (0 ≤ x5_1) = true := decide_eq_true c5; clear c5; (first | rw [c5b0] | (simp only [i64_w, i32_w]; rw [c5b0]) | skip); by_cases c6 : (rd l1 x5_1) < 0
      ·rw [if_pos c6] at H; have c6b0 : decide ((rd l1 x5_1) < 0) = true := decide_eq_true c6; clear c6; have H' := K0 H; clear H; have p151 : 0 ≤ (x5_1 : Int) := od_; have q151 : x5_1 < (l1.length : Int) := od_; obtain ⟨ad151, e151, hx151_0⟩ := Kd.at_int HR1.out x5_1 p151 q151; cases e151; replace p151 := eq_true p151; replace q151 := eq_true q151; go_wp2; (repeat (go_quiet (fail); try go_wp2)); go_meet
       case rel => exact ⟨_, (true), si_, H', ⟨by have := HK1.out; first | omega | exact Nat.le_refl _⟩, by repeat (first | exact Drawn0.refl _ | apply Drawn0.step)⟩
      ·rw [if_neg c6] at H; have c6b0 : decide ((rd l1 x5_1) < 0) = false := decide_eq_false c6; clear c6; have H' := K0 H; clear H; have p151 : 0 ≤ (x5_1 : Int) := od_; have q151 : x5_1 < (l1.length : Int) := od_; obtain ⟨ad151, e151, hx151_0⟩ := Kd.at_int HR1.out x5_1 p151 q151; cases e151; replace p151 := eq_true p151; replace q151 := eq_true q151; have p152 : 0 ≤ (x5_1 : Int) := od_; have q152 : x5_1 < (l1.length : Int) := od_; obtain ⟨ad152, e152, hx152_0⟩ := Kd.at_int HR1.out x5_1 p152 q152; obtain rfl : ad151 = ad152 := (by injection e152); replace p152 := eq_true p152; replace q152 := eq_true q152; go_wp2; (repeat (go_quiet (fail); try go_wp2)); go_meet
       case rel => exact ⟨_, (decide ((rd l1 x5_1) ≥ a0)), si_, H', ⟨by have := HK1.out; first | omega | exact Nat.le_refl _⟩, by repeat (first | exact Drawn0.refl _ | apply Drawn0.step)⟩
     ·rw [if_neg c5] at H; exact absurd H (by simp)
    case rest =>
     clear HC4; (try clear c1); (try clear p1); (try clear q1); (try clear hx1); (try clear p2); (try clear c3); (try clear c3b0); (try clear c5); (try clear c5b0); (try clear c6); (try clear c6b0); (try clear hx151_0); (try clear hx152_0); (try clear p151); (try clear p152); (try clear p2); (try clear q151); (try clear q152); obtain ⟨kq, x24_3, rfl, HA, HJ3, ⟨mc3, rfl⟩⟩ := hcut
     cases kq with
     | zero => exact absurd HA.out (by simp [r11IsSubset.j1])
     | succ kj3 =>
      have H := HA.out; clear HA; simp only [r11IsSubset.j1] at H; by_cases c7 : x24_3 = true
      ·subst c7; (have H1 : (some false) = some r := by rw [if_pos rfl] at H; exact H); clear H; have H := H1; clear H1; obtain rfl := Option.some.inj H; go_wp2; (repeat (go_quiet (fail); try go_wp2)); go_ret; exact ⟨si_, by repeat (first | exact Drawn0.refl _ | apply Drawn0.step)⟩
      ·replace c7 := Bool.eq_false_iff.mpr c7; subst c7; (have H1 : (if x5_1 > 0 then (if 0 ≤ x5_1 then (if x5_1 < (l1.length : Int) then (if 0 ≤ (wrap64 (x5_1 - 1)) then (if (wrap64 (x5_1 - 1)) < (l1.length : Int) then (if (rd l1 x5_1) ≤ (rd l1 (wrap64 (x5_1 - 1))) then (some false) else (r11IsSubset.l0 kj3 a0 l1 (wrap64 (x5_1 + 1)))) else (none)) else (none)) else (none)) else (none)) else (r11IsSubset.l0 kj3 a0 l1 (wrap64 (x5_1 + 1)))) = some r := by rw [if_neg (show ¬ (false = true) by decide)] at H; exact H); clear H; have H := H1; clear H1; by_cases c8 : x5_1 > 0
       ·rw [if_pos c8] at H; have c8b0 : decide (0 < x5_1) = true := decide_eq_true c8; clear c8; by_cases c9 : 0 ≤ x5_1
        ·rw [if_pos c9] at H; have c9b0 : decide (0 ≤ x5_1) = true := decide_eq_true c9; clear c9; by_cases c10 : x5_1 < (l1.length : Int)
         ·rw [if_pos c10] at H; have c10b0 : decide (x5_1 < (l1.length : Int)) = true := decide_eq_true c10; clear c10; obtain ⟨ji11, hji11⟩ : ∃ j_ : Int, (wrap64 (x5_1 - 1)) = j_ := ⟨_, rfl⟩; (replace H : (if 0 ≤ (ji11) then (if (ji11) < (l1.length : Int) then (if (rd l1 x5_1) ≤ (rd l1 (ji11)) then (some false) else (r11IsSubset.l0 kj3 a0 l1 (wrap64 (x5_1 + 1)))) else (none)) else (none)) = some r := by first | (rw [hji11] at H; exact H) | (simp only [hji11] at H ⊢; exact H)); have hji11w : (IntKind.i64.wrap (x5_1 - 1)) = ji11 := (i64_w _).trans hji11; by_cases c12 : 0 ≤ (ji11)
          ·rw [if_pos c12] at H; have c12b0 : decide (0 ≤ (ji11)) = true := decide_eq_true c12; clear c12; by_cases c13 : (ji11) < (l1.length : Int)
           ·rw [if_pos c13] at H; have c13b0 : decide ((ji11) < (l1.length : Int)) = true := decide_eq_true c13; clear c13; by_cases c14 : (rd l1 x5_1) ≤ (rd l1 (ji11))
            ·rw [if_pos c14] at H; have c14b0 : decide ((rd l1 x5_1) ≤ (rd l1 (ji11))) = true := decide_eq_true c14; clear c14; obtain rfl := Option.some.inj H; have p153 : 0 ≤ (x5_1 : Int) := od_; have q153 : x5_1 < (l1.length : Int) := od_; obtain ⟨ad153, e153, hx153_0⟩ := Kd.at_int HR1.out x5_1 p153 q153; cases e153; replace p153 := eq_true p153; replace q153 := eq_true q153; have p154 : 0 ≤ ((ji11) : Int) := od_; have q154 : (ji11) < (l1.length : Int) := od_; obtain ⟨ad154, e154, hx154_0⟩ := Kd.at_int HR1.out (ji11) p154 q154; obtain rfl : ad153 = ad154 := (by injection e154); replace p154 := eq_true p154; replace q154 := eq_true q154; go_wp2; (repeat (go_quiet (fail); try go_wp2)); go_ret; exact ⟨by first | rfl | (simp; done) | (simp only [← hji11] <;> (first | rfl | simp)) | (simp [*]; done), by repeat (first | exact Drawn0.refl _ | apply Drawn0.step)⟩
            ·rw [if_neg c14] at H; have c14b0 : decide ((rd l1 x5_1) ≤ (rd l1 (ji11))) = false := decide_eq_false c14; clear c14; have H' := K0 H; clear H; have p153 : 0 ≤ (x5_1 : Int) := od_; have q153 : x5_1 < (l1.length : Int) := od_; obtain ⟨ad153, e153, hx153_0⟩ := Kd.at_int HR1.out x5_1 p153 q153; cases e153; replace p153 := eq_true p153; replace q153 := eq_true q153; have p154 : 0 ≤ ((ji11) : Int) := od_; have q154 : (ji11) < (l1.length : Int) := od_; obtain ⟨ad154, e154, hx154_0⟩ := Kd.at_int HR1.out (ji11) p154 q154; obtain rfl : ad153 = ad154 := (by injection e154); replace p154 := eq_true p154; replace q154 := eq_true q154; go_wp2; (repeat (go_quiet (fail); try go_wp2)); go_roundg kj3
             case measure => have := HK1.out; have := HJ3.out; omega
             case rel => exact ⟨(wrap64 (x5_1 + 1)), si_, H', ⟨by have := HK1.out; have := HJ3.out; omega⟩, by repeat (first | exact Drawn0.refl _ | apply Drawn0.step)⟩
           ·rw [if_neg c13] at H; exact absurd H (by simp)
          ·rw [if_neg c12] at H; exact absurd H (by simp)
         ·rw [if_neg c10] at H; exact absurd H (by simp)
        ·rw [if_neg c9] at H; exact absurd H (by simp)
       ·rw [if_neg c8] at H; have c8b0 : decide (0 < x5_1) = false := decide_eq_false c8; clear c8; have H' := K0 H; clear H; go_wp2; (repeat (go_quiet (fail); try go_wp2)); go_roundg kj3
        case measure => have := HK1.out; have := HJ3.out; omega
        case rel => exact ⟨(wrap64 (x5_1 + 1)), si_, H', ⟨by have := HK1.out; have := HJ3.out; omega⟩, by repeat (first | exact Drawn0.refl _ | apply Drawn0.step)⟩
   ·rw [if_neg c3] at H; have c3b0 : decide (x5_1 < (l1.length : Int)) = false := decide_eq_false c3; clear c3; obtain rfl := Option.some.inj H; go_wp2; (repeat (go_quiet (fail); try go_wp2)); go_ret; exact ⟨si_, by repeat (first | exact Drawn0.refl _ | apply Drawn0.step)⟩

/-! ### r15Evaluate: function 12 -/
mutual
def r15Evaluate.j0 : Nat → Int → List Int → Bool → Option (List Int × Int)
 | 0, _, _, _ => none
 | k + 1, x0, x1, x14 => if x14 = true then (some (([] : List Int), 6)) else ((r11IsSubset.f k x0 x1).bind fun t155 => (if t155 = true then (if 0 ≤ (IntKind.u64.wrap (x0)) then (if 0 ≤ (shl .i64 1 (IntKind.u64.wrap (x0))) then (if (shl .i64 1 (IntKind.u64.wrap (x0)) : Int).toNat ≤ 35184372088832 then (r15Evaluate.l0 k x1 (List.replicate (shl .i64 1 (IntKind.u64.wrap (x0)) : Int).toNat 0) 0) else (none)) else (none)) else (none)) else (some (([] : List Int), 5))))
def r15Evaluate.l0 : Nat → List Int → List Int → Int → Option (List Int × Int)
 | 0, _, _, _ => none
 | k + 1, x1, x6, x7 => if x7 < (x6.length : Int) then (if 0 ≤ x7 then (r15Evaluate.l1 k x1 (x6.set (x7 : Int).toNat 1) x7 0) else (none)) else (some (x6, 0))
def r15Evaluate.l1 : Nat → List Int → List Int → Int → Int → Option (List Int × Int)
 | 0, _, _, _, _ => none
 | k + 1, x1, x6, x7, x8 => if x8 < (x1.length : Int) then (if 0 ≤ x8 then (if 0 ≤ (IntKind.u64.wrap (rd x1 x8)) then (if (Go.bits .and .i64 (shr .i64 x7 (IntKind.u64.wrap (rd x1 x8))) 1) = 0 then (if 0 ≤ x7 then (if x7 < (x6.length : Int) then (r15Evaluate.l1 k x1 (x6.set (x7 : Int).toNat 0) x7 (wrap64 (x8 + 1))) else (none)) else (none)) else (r15Evaluate.l1 k x1 x6 x7 (wrap64 (x8 + 1)))) else (none)) else (none)) else (r15Evaluate.l0 k x1 x6 (wrap64 (x7 + 1)))
end
def r15Evaluate.f (k : Nat) (a0 : Int) (l1 : List Int) : Option (List Int × Int) := if a0 < 0 then (r15Evaluate.j0 k a0 l1 true) else (r15Evaluate.j0 k a0 l1 (decide (a0 > 6)))
set_option maxHeartbeats 8000000 in
set_option maxRecDepth 100000 in
theorem r15Evaluate.calls (k : Nat) (a0 : Int) (A1 : Option Addr) (c1 : Nat) (l1 : List Int) (r1 : List Int) (r2 : Int) (w : World) (hr1 : Kd.C (Kd.int .i64) w A1 l1.length l1) (hc1 : l1.length ≤ c1) (h : r15Evaluate.f k a0 l1 = some (r1, r2)) :
  Calls Try.prog 12 #[.int .i64 a0, .slice A1 l1.length c1] w fun e w' => ∃ v0_ : Value, e = .returned (.tuple #[v0_, .int .i64 r2]) ∧ Kd.R (Kd.int .i64) 3 w' w.heap.size (fun _ => True) v0_ r1 ∧ Below w.heap.size w w' := by
 have HR1 := K0 hr1; have HC1 := K0 hc1; clear hr1 hc1; have HB := K0 (Below.refl w.heap.size w); have H : (if a0 < 0 then (r15Evaluate.j0 k a0 l1 true) else (r15Evaluate.j0 k a0 l1 (decide (a0 > 6)))) = some (r1, r2) := h; clear h; have HC3 := K0 H; clear H; go_enter Try.func12, Try.ntmps12; (go_upto_region 1 with (fail)); go_cut [14] (fun v14 wc => ∃ (kq : Nat) (x14_2 : Bool), v14 = .bool x14_2 ∧ Aside0 (r15Evaluate.j0 kq a0 l1 x14_2 = some (r1, r2)) ∧ Aside0 (kq ≤ k) ∧ Aside0 (Below w.heap.size w wc))
 case first =>
  have H := HC3.out; clear HC3; by_cases c4 : a0 < 0
  ·rw [if_pos c4] at H; have c4b0 : decide (a0 < 0) = true := decide_eq_true c4; clear c4; (first | rw [c4b0] | (simp only [i64_w, i32_w]; rw [c4b0]) | skip); have H' := K0 H; clear H; go_wp2; go_meet
   case rel => exact ⟨_, (true), si_, H', ⟨by first | omega | exact Nat.le_refl _⟩, ⟨hb_⟩⟩
  ·rw [if_neg c4] at H; have c4b0 : decide (a0 < 0) = false := decide_eq_false c4; clear c4; (first | rw [c4b0] | (simp only [i64_w, i32_w]; rw [c4b0]) | skip); have H' := K0 H; clear H; go_wp2; go_meet
   case rel => exact ⟨_, (decide (a0 > 6)), si_, H', ⟨by first | omega | exact Nat.le_refl _⟩, ⟨hb_⟩⟩
 case rest =>
  clear HC3; (try clear c1); (try clear p2); (try clear c4); (try clear c4b0); obtain ⟨kq, x14_2, rfl, HA, HJ2, HB⟩ := hcut
  cases kq with
  | zero => exact absurd HA.out (by simp [r15Evaluate.j0])
  | succ kj2 =>
   have H := HA.out; clear HA; simp only [r15Evaluate.j0] at H; by_cases c5 : x14_2 = true
   ·subst c5; (have H1 : (some (([] : List Int), 6)) = some (r1, r2) := by rw [if_pos rfl] at H; exact H); clear H; have H := H1; clear H1; simp only [Option.some.injEq, Prod.mk.injEq] at H; obtain ⟨rfl, rfl⟩ := H; go_wp2; go_ret2; exact ⟨_, er_, by first | exact Kd.R_nil _ _ _ _ _ | exact Kd.S_nil _ _ _ _ _ | exact Kd.N_nil _ _ _ _ _ | exact Kd.V_nil _ _ _ _ _ | exact Kd.Q_nil _ _ _ _ _ | exact Kd.S_nil _ _ _ _ _, hb_⟩
   ·replace c5 := Bool.eq_false_iff.mpr c5; subst c5; (have H1 : ((r11IsSubset.f kj2 a0 l1).bind fun t155 => (if t155 = true then (if 0 ≤ (IntKind.u64.wrap (a0)) then (if 0 ≤ (shl .i64 1 (IntKind.u64.wrap (a0))) then (if (shl .i64 1 (IntKind.u64.wrap (a0)) : Int).toNat ≤ 35184372088832 then (r15Evaluate.l0 kj2 l1 (List.replicate (shl .i64 1 (IntKind.u64.wrap (a0)) : Int).toNat 0) 0) else (none)) else (none)) else (none)) else (some (([] : List Int), 5)))) = some (r1, r2) := by rw [if_neg (show ¬ (false = true) by decide)] at H; exact H); clear H; have H := H1; clear H1; replace H := Option.bind_eq_some_iff.mp H; obtain ⟨t155, A60, H⟩ := H; (try dsimp only at H); have A6 := K0 A60; clear A60; have HS7 := K0 H; clear H; (go_upto_if 18 with (first | ((with_reducible refine gate_callee (f := 35) rfl ?_); refine goesL_ (some 17) rfl rfl Try.func35 (by kernel_rfl) rfl #[.int .i64 a0, .slice A1 l1.length c1] rfl ma_ ?_; (with_reducible refine (r11IsSubset.calls kj2 a0 _ _ l1 t155 _ ?side1 ?side2 A6.out).mono ?_); (case side1 => exact rc_ (Kd.C_below HR1.out HB.out)); (case side2 => exact HC1.out); rintro e w' ⟨rfl, ⟨nd, rfl⟩⟩; refine ⟨_, rfl, ?_⟩))); (try simp only [Act.put, sA, sZ, sS]); have H := HS7.out; clear HS7; by_cases c8 : t155 = true
    ·subst c8; (have H1 : (if 0 ≤ (IntKind.u64.wrap (a0)) then (if 0 ≤ (shl .i64 1 (IntKind.u64.wrap (a0))) then (if (shl .i64 1 (IntKind.u64.wrap (a0)) : Int).toNat ≤ 35184372088832 then (r15Evaluate.l0 kj2 l1 (List.replicate (shl .i64 1 (IntKind.u64.wrap (a0)) : Int).toNat 0) 0) else (none)) else (none)) else (none)) = some (r1, r2) := by rw [if_pos rfl] at H; exact H); clear H; have H := H1; clear H1; obtain ⟨ji9, hji9⟩ : ∃ j_ : Int, (IntKind.u64.wrap (a0)) = j_ := ⟨_, rfl⟩; (replace H : (if 0 ≤ (ji9) then (if 0 ≤ (shl .i64 1 (ji9)) then (if (shl .i64 1 (ji9) : Int).toNat ≤ 35184372088832 then (r15Evaluate.l0 kj2 l1 (List.replicate (shl .i64 1 (ji9) : Int).toNat 0) 0) else (none)) else (none)) else (none)) = some (r1, r2) := by first | (rw [hji9] at H; exact H) | (simp only [hji9] at H ⊢; exact H)); by_cases c10 : 0 ≤ (ji9)
     ·rw [if_pos c10] at H; have c10b0 := eq_true c10; have c10b1 : decide (0 ≤ (ji9)) = true := decide_eq_true c10; clear c10; obtain ⟨ji11, hji11⟩ : ∃ j_ : Int, (shl .i64 1 (ji9)) = j_ := ⟨_, rfl⟩; (replace H : (if 0 ≤ (ji11) then (if (ji11 : Int).toNat ≤ 35184372088832 then (r15Evaluate.l0 kj2 l1 (List.replicate (ji11 : Int).toNat 0) 0) else (none)) else (none)) = some (r1, r2) := by first | (rw [hji11] at H; exact H) | (simp only [hji11] at H ⊢; exact H)); have hji11_ : (IntKind.i64.wrap (1 * 2 ^ min (ji9).toNat 64)) = ji11 := hji11; have hji11z : (ji9) ≤ 64 → (IntKind.i64.wrap (1 * 2 ^ (ji9).toNat)) = ji11 := shl_small hji11; (have hji11u : (IntKind.i64.wrap (2 ^ min (ji9).toNat 64)) = ji11 := by have h_ := hji11_; rw [Int.one_mul] at h_; exact h_); (have hji11v : (ji9) ≤ 64 → (IntKind.i64.wrap (2 ^ (ji9).toNat)) = ji11 := fun hle_ => by have h_ := hji11z hle_; rw [Int.one_mul] at h_; exact h_); have hji11y : (wrap64 (1 * 2 ^ min (ji9).toNat 64)) = ji11 := (i64_w _).symm.trans hji11_; (have hji11x : (ji9) ≤ 64 → (wrap64 (1 * 2 ^ (ji9).toNat)) = ji11 := fun h_ => (i64_w _).symm.trans (hji11z h_)); by_cases c12 : 0 ≤ (ji11)
      ·rw [if_pos c12] at H; have c12b0 := eq_true c12; have c12b1 : decide (0 ≤ (ji11)) = true := decide_eq_true c12; clear c12; by_cases c13 : (ji11 : Int).toNat ≤ 35184372088832
       ·rw [if_pos c13] at H; have c13b0 := eq_true c13; have c13b1 : decide ((ji11 : Int).toNat ≤ 35184372088832) = true := decide_eq_true c13; clear c13; obtain ⟨y156, hy156⟩ : ∃ y_ : List Int, y_ = (List.replicate (ji11 : Int).toNat 0) := ⟨_, rfl⟩; replace H : (r15Evaluate.l0 kj2 l1 y156 0) = some (r1, r2) := rq_ hy156 H; have Ny156 := K0 hy156; clear hy156; have H' := K0 H; clear H; go_wp2_with (first | ((with_reducible refine gate_dst (N := 22) rfl ?_); refine Kd.R_make (Kd.int .i64) _ 3 rfl (N := 22) rfl 22 _ _ rfl ji11 rfl rfl Try.underlying22 (.int .i64 0) 8 info3 rfl (by decide) (by omega) 0 (ok := fun _ => True) (okp := fun _ => True) rfl (fun _ hk => hk) trivial od_ (Nat.le_trans (Nat.mul_le_mul_right _ (od_ : ji11.toNat ≤ 35184372088832)) (by omega)) (Below.refl _ _) (Nat.le_refl _) ?_; intro v157 w14 ho15 hb hg_ hnew_; clear hg_ hnew_; (first | rw [← Ny156.out] at ho15 | (simp only [Int.reduceToNat] at ho15; rw [← Ny156.out] at ho15)); have n0_ := K0 (Kd.R_lower ho15 (below_size hb_)); have n1_ := K0 (below_step hb_ hb); clear HB; have HO158 := n0_; have HB := n1_; clear n0_ n1_; clear hb ho15)); go_loopg [7] kj2 (fun kq v7 w' => ∃ (x6_2 : List Int) (x7_2 : Int), v7 = .int .i64 x7_2 ∧ Aside0 (r15Evaluate.l0 kq l1 x6_2 x7_2 = some (r1, r2)) ∧ Aside0 (kq ≤ kj2) ∧ Aside0 (Kd.R (Kd.int .i64) 3 w' w.heap.size (fun _ => True) v157 x6_2) ∧ Aside0 (Below w.heap.size w w'))
        case atStart => exact ⟨(y156), (0), si_, H', ⟨Nat.le_refl _⟩, ⟨rd_ HO158.out⟩, ⟨hb_⟩⟩
        case round =>
         clear H'; (try clear c1); (try clear p2); (try clear c3); (try clear c4); (try clear c4b0); (try clear c5); (try clear p6); (try clear c8); (try clear c10); (try clear c10b0); (try clear c10b1); (try clear c12); (try clear c12b0); (try clear c12b1); (try clear c13); (try clear c13b0); (try clear c13b1); (try clear p2); obtain ⟨x6_2, x7_2, rfl, HA, HK2, HO_6, HB⟩ := hrel
         cases gk with
         | zero => exact absurd HA.out (by simp [r15Evaluate.l0])
         | succ k2 =>
          have H := HA.out; clear HA; simp only [r15Evaluate.l0] at H; by_cases c16 : x7_2 < (x6_2.length : Int)
          ·rw [if_pos c16] at H; have c16b0 : decide (x7_2 < (x6_2.length : Int)) = true := decide_eq_true c16; clear c16; (first | rw [c16b0] | (simp only [i64_w, i32_w]; rw [c16b0]) | skip); by_cases c17 : 0 ≤ x7_2
           ·rw [if_pos c17] at H; have c17b0 : decide (0 ≤ x7_2) = true := decide_eq_true c17; clear c17; obtain ⟨y159, hy159⟩ : ∃ y_ : List Int, y_ = (x6_2.set (x7_2 : Int).toNat 1) := ⟨_, rfl⟩; replace H : (r15Evaluate.l1 k2 l1 y159 x7_2 0) = some (r1, r2) := rq_ hy159 H; have Ny159 := K0 hy159; clear hy159; have H' := K0 H; clear H; obtain ⟨Ao19, co19, eo19⟩ := Kd.R_slice HO_6.out; subst eo19; have p18 : 0 ≤ (x7_2 : Int) := od_; have q18 : (x7_2 : Int) < ((x6_2.length : Int) : Int) := od_; obtain ⟨go18, co18, eo18, gb18, gl18, cl18, HG18⟩ := Kd.R_form HO_6.out (by omega); (first | cases eo18 | (injection eo18 with ea_ en_ ec_; (first | subst ea_ | (injection ea_ with ea_; subst ea_)); subst ec_; clear en_)); have GB18 := K0 gb18; have GG18 := K0 HG18; clear gb18 gl18 HG18; obtain ⟨hx18_0, hf18_0⟩ := Kd.R_celln 0 HO_6.out (x7_2 : Int) p18 q18; replace p18 := eq_true p18; replace q18 := eq_true q18; have HP20 := Kd.R_putg HO_6.out (x7_2 : Int) 1; go_wp2_with (first | ((with_reducible refine gate_store (t := 3) (p := 31) rfl ?_); refine store_event (t := 3) (p := 31) (v := ?vo_w21) (w1 := (wr.setCell ⟨go18, (x7_2 : Int).toNat, none⟩ (.int .i64 1))) ?hg ?ho ?hn ?hr ?_; (case ho => rfl); (case hg => rfl); (case hn => rfl); (case hr => exact gs_); intro w21 hw; have hg : wr.grownBy w21 (some go18) := (by rw [hw]; exact HP20.2); have hp_ : Kd.R (Kd.int .i64) 3 w21 w.heap.size (fun _ => True) (.slice (some ⟨go18, 0, none⟩) x6_2.length co19) y159 := (by rw [hw, Ny159.out]; exact HP20.1); clear HP20; have n0_ := K0 (hp_); have n1_ := K0 ((by rw [hw]; exact below_set (HB.out) GB18.out : Below w.heap.size w w21)); clear HO_6; clear HB; have HO_6 := n0_; have HB := n1_; clear n0_ n1_; clear hg hw hp_)); go_loopg [8] k2 (fun kq v8 w' => ∃ (x6_3 : List Int) (x8_3 : Int), v8 = .int .i64 x8_3 ∧ Aside0 (r15Evaluate.l1 kq l1 x6_3 x7_2 x8_3 = some (r1, r2)) ∧ Aside0 (kq ≤ k2) ∧ Aside0 (Kd.R (Kd.int .i64) 3 w' w.heap.size (fun _ => True) (.slice (some ⟨go18, 0, none⟩) x6_2.length co19) x6_3) ∧ Aside0 (Below w.heap.size w w'))
            case atStart => exact ⟨(y159), (0), si_, H', ⟨Nat.le_refl _⟩, ⟨rd_ HO_6.out⟩, ⟨hb_⟩⟩
            case round =>
             clear H'; (try clear c1); (try clear p1); (try clear q1); (try clear hx1); (try clear p2); (try clear c3); (try clear c4); (try clear c4b0); (try clear c5); (try clear p6); (try clear c8); (try clear c10); (try clear c10b0); (try clear c10b1); (try clear c12); (try clear c12b0); (try clear c12b1); (try clear c13); (try clear c13b0); (try clear c13b1); (try clear c16); (try clear c16b0); (try clear c17); (try clear c17b0); (try clear p18); (try clear q18); (try clear hx18); (try clear hf18); (try clear hx18_0); (try clear p18); (try clear p2); (try clear p6); (try clear q18); obtain ⟨x6_3, x8_3, rfl, HA, HK3, HO_6, HB⟩ := hrel; have hl6_3 := (Kd.R_reads' HO_6.out).1; rw [hl6_3] at HO_6; (try simp only [hl6_3])
             cases gk with
             | zero => exact absurd HA.out (by simp [r15Evaluate.l1])
             | succ k3 =>
              have H := HA.out; clear HA; simp only [r15Evaluate.l1] at H; by_cases c22 : x8_3 < (l1.length : Int)
              ·rw [if_pos c22] at H; have c22b0 : decide (x8_3 < (l1.length : Int)) = true := decide_eq_true c22; (try simp only [hl6_3] at c22b0); clear c22; by_cases c23 : 0 ≤ x8_3
               ·rw [if_pos c23] at H; have c23b0 : decide (0 ≤ x8_3) = true := decide_eq_true c23; clear c23; obtain ⟨ji24, hji24⟩ : ∃ j_ : Int, (IntKind.u64.wrap (rd l1 x8_3)) = j_ := ⟨_, rfl⟩; (replace H : (if 0 ≤ (ji24) then (if (Go.bits .and .i64 (shr .i64 x7_2 (ji24)) 1) = 0 then (if 0 ≤ x7_2 then (if x7_2 < (x6_3.length : Int) then (r15Evaluate.l1 k3 l1 (x6_3.set (x7_2 : Int).toNat 0) x7_2 (wrap64 (x8_3 + 1))) else (none)) else (none)) else (r15Evaluate.l1 k3 l1 x6_3 x7_2 (wrap64 (x8_3 + 1)))) else (none)) = some (r1, r2) := by first | (rw [hji24] at H; exact H) | (simp only [hji24] at H ⊢; exact H)); by_cases c25 : 0 ≤ (ji24)
                ·rw [if_pos c25] at H; have c25b0 := eq_true c25; have c25b1 : decide (0 ≤ (ji24)) = true := decide_eq_true c25; clear c25; obtain ⟨ji26, hji26⟩ : ∃ j_ : Int, (shr .i64 x7_2 (ji24)) = j_ := ⟨_, rfl⟩; (replace H : (if (Go.bits .and .i64 (ji26) 1) = 0 then (if 0 ≤ x7_2 then (if x7_2 < (x6_3.length : Int) then (r15Evaluate.l1 k3 l1 (x6_3.set (x7_2 : Int).toNat 0) x7_2 (wrap64 (x8_3 + 1))) else (none)) else (none)) else (r15Evaluate.l1 k3 l1 x6_3 x7_2 (wrap64 (x8_3 + 1)))) = some (r1, r2) := by first | (rw [hji26] at H; exact H) | (simp only [hji26] at H ⊢; exact H)); have hji26_ : (x7_2 / 2 ^ min (ji24).toNat 64) = ji26 := hji26; have hji26z : (ji24) ≤ 64 → (x7_2 / 2 ^ (ji24).toNat) = ji26 := shr_small hji26; by_cases c27 : (Go.bits .and .i64 (ji26) 1) = 0
                 ·rw [if_pos c27] at H; have c27b0 : ((Go.bits .and .i64 (ji26) 1) == 0) = true := beq_iff_eq.mpr c27; have c27b1 : ((Go.bits .and .i64 (ji26) 1) != 0) = false := bne_eq_false_iff_eq.mpr c27; clear c27; by_cases c28 : 0 ≤ x7_2
                  ·rw [if_pos c28] at H; have c28b0 : decide (0 ≤ x7_2) = true := decide_eq_true c28; clear c28; by_cases c29 : x7_2 < (x6_3.length : Int)
                   ·rw [if_pos c29] at H; have c29b0 : decide (x7_2 < (x6_3.length : Int)) = true := decide_eq_true c29; (try simp only [hl6_3] at c29b0); clear c29; obtain ⟨y161, hy161⟩ : ∃ y_ : List Int, y_ = (x6_3.set (x7_2 : Int).toNat 0) := ⟨_, rfl⟩; replace H : (r15Evaluate.l1 k3 l1 y161 x7_2 (wrap64 (x8_3 + 1))) = some (r1, r2) := rq_ hy161 H; have Ny161 := K0 hy161; clear hy161; have H' := K0 H; clear H; have p160 : 0 ≤ (x8_3 : Int) := od_; have q160 : x8_3 < (l1.length : Int) := od_; obtain ⟨ad160, e160, hx160_0⟩ := Kd.at_int HR1.out x8_3 p160 q160; cases e160; replace hx160_0 := (HB.out.cell (World.block_lt_of_cell? w _ hx160_0)).trans hx160_0; replace p160 := eq_true p160; replace q160 := eq_true q160; have p30 : 0 ≤ (x7_2 : Int) := od_; have q30 : (x7_2 : Int) < ((x6_3.length : Int) : Int) := od_; obtain ⟨hx30_0, hf30_0⟩ := Kd.R_celln 0 HO_6.out (x7_2 : Int) p30 q30; replace p30 := eq_true p30; replace q30 := eq_true q30; have HP31 := Kd.R_putg HO_6.out (x7_2 : Int) 0; go_wp2_with (first | ((with_reducible refine gate_store (t := 3) (p := 49) rfl ?_); refine store_event (t := 3) (p := 49) (v := ?vo_w32) (w1 := (wr.setCell ⟨go18, (x7_2 : Int).toNat, none⟩ (.int .i64 0))) ?hg ?ho ?hn ?hr ?_; (case ho => rfl); (case hg => rfl); (case hn => rfl); (case hr => exact gs_); intro w32 hw; have hg : wr.grownBy w32 (some go18) := (by rw [hw]; exact HP31.2); have hp_ : Kd.R (Kd.int .i64) 3 w32 w.heap.size (fun _ => True) (.slice (some ⟨go18, 0, none⟩) x6_3.length co19) y161 := (by rw [hw, Ny161.out]; exact HP31.1); clear HP31; have n0_ := K0 (hp_); have n1_ := K0 ((by rw [hw]; exact below_set (HB.out) GB18.out : Below w.heap.size w w32)); clear HO_6; clear HB; have HO_6 := n0_; have HB := n1_; clear n0_ n1_; clear hg hw hp_)); (try simp only [← hl6_3]); go_roundg k3
                    case measure => have := HJ2.out; have := HK2.out; have := HK3.out; omega
                    case rel => exact ⟨(y161), (wrap64 (x8_3 + 1)), si_, H', ⟨by have := HJ2.out; have := HK2.out; have := HK3.out; omega⟩, ⟨by (try simp only [hl6_3]); refine rd_ ?_; exact HO_6.out⟩, ⟨hb_⟩⟩
                   ·rw [if_neg c29] at H; exact absurd H (by simp)
                  ·rw [if_neg c28] at H; exact absurd H (by simp)
                 ·rw [if_neg c27] at H; have c27b0 : ((Go.bits .and .i64 (ji26) 1) == 0) = false := beq_eq_false_iff_ne.mpr c27; have c27b1 : ((Go.bits .and .i64 (ji26) 1) != 0) = true := bne_iff_ne.mpr c27; have H' := K0 H; clear H; have p160 : 0 ≤ (x8_3 : Int) := od_; have q160 : x8_3 < (l1.length : Int) := od_; obtain ⟨ad160, e160, hx160_0⟩ := Kd.at_int HR1.out x8_3 p160 q160; cases e160; replace hx160_0 := (HB.out.cell (World.block_lt_of_cell? w _ hx160_0)).trans hx160_0; replace p160 := eq_true p160; replace q160 := eq_true q160; go_wp2; (try simp only [← hl6_3]); go_roundg k3
                  case measure => have := HJ2.out; have := HK2.out; have := HK3.out; omega
                  case rel => exact ⟨(x6_3), (wrap64 (x8_3 + 1)), si_, H', ⟨by have := HJ2.out; have := HK2.out; have := HK3.out; omega⟩, ⟨by (try simp only [hl6_3]); refine rd_ ?_; exact HO_6.out⟩, ⟨hb_⟩⟩
                ·rw [if_neg c25] at H; exact absurd H (by simp)
               ·rw [if_neg c23] at H; exact absurd H (by simp)
              ·rw [if_neg c22] at H; have c22b0 : decide (x8_3 < (l1.length : Int)) = false := decide_eq_false c22; (try simp only [hl6_3] at c22b0); clear c22; have H' := K0 H; clear H; go_wp2; (try simp only [← hl6_3]); go_roundg k3
               case measure => have := HJ2.out; have := HK2.out; have := HK3.out; omega
               case rel => exact ⟨(x6_3), (wrap64 (x7_2 + 1)), si_, H', ⟨by have := HJ2.out; have := HK2.out; have := HK3.out; omega⟩, ⟨by (try simp only [hl6_3]); refine rd_ ?_; exact HO_6.out⟩, ⟨hb_⟩⟩
           ·rw [if_neg c17] at H; exact absurd H (by simp)
          ·rw [if_neg c16] at H; have c16b0 : decide (x7_2 < (x6_2.length : Int)) = false := decide_eq_false c16; clear c16; (first | rw [c16b0] | (simp only [i64_w, i32_w]; rw [c16b0]) | skip); simp only [Option.some.injEq, Prod.mk.injEq] at H; obtain ⟨rfl, rfl⟩ := H; obtain ⟨Ao33, co33, eo33⟩ := Kd.R_slice HO_6.out; subst eo33; go_wp2; go_ret2; exact ⟨_, by first | rfl | (simp [errW_none, errW_some] <;> rfl) | (simp only [← hji9, ← hji11]; first | rfl | (simp [errW_none, errW_some] <;> rfl)) | (simp [*, errW_none, errW_some] <;> rfl), rd_ HO_6.out, hb_⟩
       ·rw [if_neg c13] at H; exact absurd H (by simp)
      ·rw [if_neg c12] at H; exact absurd H (by simp)
     ·rw [if_neg c10] at H; exact absurd H (by simp)
    ·replace c8 := Bool.eq_false_iff.mpr c8; subst c8; (have H1 : (some (([] : List Int), 5)) = some (r1, r2) := by rw [if_neg (show ¬ (false = true) by decide)] at H; exact H); clear H; have H := H1; clear H1; simp only [Option.some.injEq, Prod.mk.injEq] at H; obtain ⟨rfl, rfl⟩ := H; go_wp2; go_ret2; exact ⟨_, er_, by first | exact Kd.R_nil _ _ _ _ _ | exact Kd.S_nil _ _ _ _ _ | exact Kd.N_nil _ _ _ _ _ | exact Kd.V_nil _ _ _ _ _ | exact Kd.Q_nil _ _ _ _ _ | exact Kd.S_nil _ _ _ _ _, hb_⟩

/-! ### r11Compare: function 36 -/
mutual
def r11Compare.l0 : Nat → List Int → List Int → Int → Option (Int)
 | 0, _, _, _ => none
 | k + 1, x0, x1, x5 => if x5 < (x0.length : Int) then (r11Compare.j1 k x0 x1 x5 (decide (x5 < (x1.length : Int)))) else (r11Compare.j1 k x0 x1 x5 false)
def r11Compare.j1 : Nat → List Int → List Int → Int → Bool → Option (Int)
 | 0, _, _, _, _ => none
 | k + 1, x0, x1, x5, x15 => if x15 = true then (if 0 ≤ x5 then (if x5 < (x0.length : Int) then (if x5 < (x1.length : Int) then (if (rd x0 x5) < (rd x1 x5) then (some (-1)) else (if (rd x0 x5) > (rd x1 x5) then (some 1) else (r11Compare.l0 k x0 x1 (wrap64 (x5 + 1))))) else (none)) else (none)) else (none)) else (if (x0.length : Int) < (x1.length : Int) then (some (-1)) else (if (x0.length : Int) > (x1.length : Int) then (some 1) else (some 0)))
end
def r11Compare.f (k : Nat) (l0 : List Int) (l1 : List Int) : Option (Int) := r11Compare.l0 k l0 l1 0
set_option maxHeartbeats 8000000 in
set_option maxRecDepth 100000 in
theorem r11Compare.calls (k : Nat) (A0 : Option Addr) (c0 : Nat) (l0 : List Int) (A1 : Option Addr) (c1 : Nat) (l1 : List Int) (r : Int) (w : World) (hr0 : Kd.C (Kd.int .i64) w A0 l0.length l0) (hc0 : l0.length ≤ c0) (hr1 : Kd.C (Kd.int .i64) w A1 l1.length l1) (hc1 : l1.length ≤ c1) (h : r11Compare.f k l0 l1 = some r) :
  Calls Try.prog 36 #[.slice A0 l0.length c0, .slice A1 l1.length c1] w fun e w' => e = .returned (.int .i64 r) ∧ Drawn0 w w' := by
 have HR0 := K0 hr0; have HC0 := K0 hc0; clear hr0 hc0; have HR1 := K0 hr1; have HC1 := K0 hc1; clear hr1 hc1; have H : (r11Compare.l0 k l0 l1 0) = some r := h; clear h; have H' := K0 H; clear H; go_enter Try.func36, Try.ntmps36; go_wp2; (repeat (go_quiet (fail); try go_wp2)); go_loopg [5] k (fun kq v5 w' => ∃ (x5_1 : Int), v5 = .int .i64 x5_1 ∧ Aside0 (r11Compare.l0 kq l0 l1 x5_1 = some r) ∧ Aside0 (kq ≤ k) ∧ Drawn0 w w')
 case atStart => exact ⟨(0), si_, H', ⟨Nat.le_refl _⟩, by repeat (first | exact Drawn0.refl _ | apply Drawn0.step)⟩
 case round =>
  clear H'; (try clear c1); (try clear p2); obtain ⟨x5_1, rfl, HA, HK1, ⟨m1, rfl⟩⟩ := hrel
  cases gk with
  | zero => exact absurd HA.out (by simp [r11Compare.l0])
  | succ k1 =>
   have H := HA.out; clear HA; simp only [r11Compare.l0] at H; have HC3 := K0 H; clear H; (go_upto_region 2 with (fail)); (repeat (go_quiet (fail); go_upto_region 2 with (fail))); go_cut [15] (fun v15 wc => ∃ (kq : Nat) (x15_2 : Bool), v15 = .bool x15_2 ∧ Aside0 (r11Compare.j1 kq l0 l1 x5_1 x15_2 = some r) ∧ Aside0 (kq ≤ k1) ∧ Drawn0 w wc)
   case first =>
    have H := HC3.out; clear HC3; by_cases c4 : x5_1 < (l0.length : Int)
    ·rw [if_pos c4] at H; have c4b0 : decide (x5_1 < (l0.length : Int)) = true := decide_eq_true c4; clear c4; (first | rw [c4b0] | (simp only [i64_w, i32_w]; rw [c4b0]) | skip); have H' := K0 H; clear H; go_wp2; (repeat (go_quiet (fail); try go_wp2)); go_meet
     case rel => exact ⟨_, (decide (x5_1 < (l1.length : Int))), si_, H', ⟨by have := HK1.out; first | omega | exact Nat.le_refl _⟩, by repeat (first | exact Drawn0.refl _ | apply Drawn0.step)⟩
    ·rw [if_neg c4] at H; have c4b0 : decide (x5_1 < (l0.length : Int)) = false := decide_eq_false c4; clear c4; (first | rw [c4b0] | (simp only [i64_w, i32_w]; rw [c4b0]) | skip); have H' := K0 H; clear H; go_wp2; (repeat (go_quiet (fail); try go_wp2)); go_meet
     case rel => exact ⟨_, (false), si_, H', ⟨by have := HK1.out; first | omega | exact Nat.le_refl _⟩, by repeat (first | exact Drawn0.refl _ | apply Drawn0.step)⟩
   case rest =>
    clear HC3; (try clear c1); (try clear p2); (try clear c3); (try clear c4); (try clear c4b0); (try clear p2); obtain ⟨kq, x15_2, rfl, HA, HJ2, ⟨mc2, rfl⟩⟩ := hcut
    cases kq with
    | zero => exact absurd HA.out (by simp [r11Compare.j1])
    | succ kj2 =>
     have H := HA.out; clear HA; simp only [r11Compare.j1] at H; by_cases c5 : x15_2 = true
     ·subst c5; (have H1 : (if 0 ≤ x5_1 then (if x5_1 < (l0.length : Int) then (if x5_1 < (l1.length : Int) then (if (rd l0 x5_1) < (rd l1 x5_1) then (some (-1)) else (if (rd l0 x5_1) > (rd l1 x5_1) then (some 1) else (r11Compare.l0 kj2 l0 l1 (wrap64 (x5_1 + 1))))) else (none)) else (none)) else (none)) = some r := by rw [if_pos rfl] at H; exact H); clear H; have H := H1; clear H1; by_cases c6 : 0 ≤ x5_1
      ·rw [if_pos c6] at H; have c6b0 : decide (0 ≤ x5_1) = true := decide_eq_true c6; clear c6; by_cases c7 : x5_1 < (l0.length : Int)
       ·rw [if_pos c7] at H; have c7b0 : decide (x5_1 < (l0.length : Int)) = true := decide_eq_true c7; clear c7; by_cases c8 : x5_1 < (l1.length : Int)
        ·rw [if_pos c8] at H; have c8b0 : decide (x5_1 < (l1.length : Int)) = true := decide_eq_true c8; clear c8; by_cases c9 : (rd l0 x5_1) < (rd l1 x5_1)
         ·rw [if_pos c9] at H; have c9b0 : decide ((rd l0 x5_1) < (rd l1 x5_1)) = true := decide_eq_true c9; clear c9; obtain rfl := Option.some.inj H; have p162 : 0 ≤ (x5_1 : Int) := od_; have q162 : x5_1 < (l0.length : Int) := od_; obtain ⟨ad162, e162, hx162_0⟩ := Kd.at_int HR0.out x5_1 p162 q162; cases e162; replace p162 := eq_true p162; replace q162 := eq_true q162; have p163 : 0 ≤ (x5_1 : Int) := od_; have q163 : x5_1 < (l1.length : Int) := od_; obtain ⟨ad163, e163, hx163_0⟩ := Kd.at_int HR1.out x5_1 p163 q163; cases e163; replace p163 := eq_true p163; replace q163 := eq_true q163; go_wp2; (repeat (go_quiet (fail); try go_wp2)); go_ret; exact ⟨si_, by repeat (first | exact Drawn0.refl _ | apply Drawn0.step)⟩
         ·rw [if_neg c9] at H; have c9b0 : decide ((rd l0 x5_1) < (rd l1 x5_1)) = false := decide_eq_false c9; clear c9; by_cases c10 : (rd l0 x5_1) > (rd l1 x5_1)
          ·rw [if_pos c10] at H; have c10b0 : decide ((rd l1 x5_1) < (rd l0 x5_1)) = true := decide_eq_true c10; clear c10; obtain rfl := Option.some.inj H; have p162 : 0 ≤ (x5_1 : Int) := od_; have q162 : x5_1 < (l0.length : Int) := od_; obtain ⟨ad162, e162, hx162_0⟩ := Kd.at_int HR0.out x5_1 p162 q162; cases e162; replace p162 := eq_true p162; replace q162 := eq_true q162; have p163 : 0 ≤ (x5_1 : Int) := od_; have q163 : x5_1 < (l1.length : Int) := od_; obtain ⟨ad163, e163, hx163_0⟩ := Kd.at_int HR1.out x5_1 p163 q163; cases e163; replace p163 := eq_true p163; replace q163 := eq_true q163; have p164 : 0 ≤ (x5_1 : Int) := od_; have q164 : x5_1 < (l0.length : Int) := od_; obtain ⟨ad164, e164, hx164_0⟩ := Kd.at_int HR0.out x5_1 p164 q164; obtain rfl : ad162 = ad164 := (by injection e164); replace p164 := eq_true p164; replace q164 := eq_true q164; have p165 : 0 ≤ (x5_1 : Int) := od_; have q165 : x5_1 < (l1.length : Int) := od_; obtain ⟨ad165, e165, hx165_0⟩ := Kd.at_int HR1.out x5_1 p165 q165; obtain rfl : ad163 = ad165 := (by injection e165); replace p165 := eq_true p165; replace q165 := eq_true q165; go_wp2; (repeat (go_quiet (fail); try go_wp2)); go_ret; exact ⟨si_, by repeat (first | exact Drawn0.refl _ | apply Drawn0.step)⟩
          ·rw [if_neg c10] at H; have c10b0 : decide ((rd l1 x5_1) < (rd l0 x5_1)) = false := decide_eq_false c10; clear c10; have H' := K0 H; clear H; have p162 : 0 ≤ (x5_1 : Int) := od_; have q162 : x5_1 < (l0.length : Int) := od_; obtain ⟨ad162, e162, hx162_0⟩ := Kd.at_int HR0.out x5_1 p162 q162; cases e162; replace p162 := eq_true p162; replace q162 := eq_true q162; have p163 : 0 ≤ (x5_1 : Int) := od_; have q163 : x5_1 < (l1.length : Int) := od_; obtain ⟨ad163, e163, hx163_0⟩ := Kd.at_int HR1.out x5_1 p163 q163; cases e163; replace p163 := eq_true p163; replace q163 := eq_true q163; have p164 : 0 ≤ (x5_1 : Int) := od_; have q164 : x5_1 < (l0.length : Int) := od_; obtain ⟨ad164, e164, hx164_0⟩ := Kd.at_int HR0.out x5_1 p164 q164; obtain rfl : ad162 = ad164 := (by injection e164); replace p164 := eq_true p164; replace q164 := eq_true q164; have p165 : 0 ≤ (x5_1 : Int) := od_; have q165 : x5_1 < (l1.length : Int) := od_; obtain ⟨ad165, e165, hx165_0⟩ := Kd.at_int HR1.out x5_1 p165 q165; obtain rfl : ad163 = ad165 := (by injection e165); replace p165 := eq_true p165; replace q165 := eq_true q165; go_wp2; (repeat (go_quiet (fail); try go_wp2)); go_roundg kj2
           case measure => have := HK1.out; have := HJ2.out; omega
           case rel => exact ⟨(wrap64 (x5_1 + 1)), si_, H', ⟨by have := HK1.out; have := HJ2.out; omega⟩, by repeat (first | exact Drawn0.refl _ | apply Drawn0.step)⟩
        ·rw [if_neg c8] at H; exact absurd H (by simp)
       ·rw [if_neg c7] at H; exact absurd H (by simp)
      ·rw [if_neg c6] at H; exact absurd H (by simp)
     ·replace c5 := Bool.eq_false_iff.mpr c5; subst c5; (have H1 : (if (l0.length : Int) < (l1.length : Int) then (some (-1)) else (if (l0.length : Int) > (l1.length : Int) then (some 1) else (some 0))) = some r := by rw [if_neg (show ¬ (false = true) by decide)] at H; exact H); clear H; have H := H1; clear H1; by_cases c11 : (l0.length : Int) < (l1.length : Int)
      ·rw [if_pos c11] at H; have c11b0 : decide ((l0.length : Int) < (l1.length : Int)) = true := decide_eq_true c11; have c11b1 : decide (l0.length < l1.length) = true := decide_eq_true (Int.ofNat_lt.mp c11); clear c11; obtain rfl := Option.some.inj H; go_wp2; (repeat (go_quiet (fail); try go_wp2)); go_ret; exact ⟨si_, by repeat (first | exact Drawn0.refl _ | apply Drawn0.step)⟩
      ·rw [if_neg c11] at H; have c11b0 : decide ((l0.length : Int) < (l1.length : Int)) = false := decide_eq_false c11; have c11b1 : decide (l0.length < l1.length) = false := decide_eq_false (fun h => c11 (Int.ofNat_lt.mpr h)); clear c11; by_cases c12 : (l0.length : Int) > (l1.length : Int)
       ·rw [if_pos c12] at H; have c12b0 : decide ((l1.length : Int) < (l0.length : Int)) = true := decide_eq_true c12; have c12b1 : decide (l1.length < l0.length) = true := decide_eq_true (Int.ofNat_lt.mp c12); clear c12; obtain rfl := Option.some.inj H; go_wp2; (repeat (go_quiet (fail); try go_wp2)); go_ret; exact ⟨si_, by repeat (first | exact Drawn0.refl _ | apply Drawn0.step)⟩
       ·rw [if_neg c12] at H; have c12b0 : decide ((l1.length : Int) < (l0.length : Int)) = false := decide_eq_false c12; have c12b1 : decide (l1.length < l0.length) = false := decide_eq_false (fun h => c12 (Int.ofNat_lt.mpr h)); clear c12; obtain rfl := Option.some.inj H; go_wp2; (repeat (go_quiet (fail); try go_wp2)); go_ret; exact ⟨si_, by repeat (first | exact Drawn0.refl _ | apply Drawn0.step)⟩

/-! ### r11Same: function 14 -/
def r11Same.f (k : Nat) (l0 : List Int) (l1 : List Int) : Option (Bool) := (r11Compare.f k l0 l1).bind fun t169 => (some (t169 == 0))
set_option maxHeartbeats 8000000 in
set_option maxRecDepth 100000 in
theorem r11Same.calls (k : Nat) (A0 : Option Addr) (c0 : Nat) (l0 : List Int) (A1 : Option Addr) (c1 : Nat) (l1 : List Int) (r : Bool) (w : World) (hr0 : Kd.C (Kd.int .i64) w A0 l0.length l0) (hc0 : l0.length ≤ c0) (hr1 : Kd.C (Kd.int .i64) w A1 l1.length l1) (hc1 : l1.length ≤ c1) (h : r11Same.f k l0 l1 = some r) :
  Calls Try.prog 14 #[.slice A0 l0.length c0, .slice A1 l1.length c1] w fun e w' => e = .returned (.bool r) ∧ Drawn0 w w' := by
 have HR0 := K0 hr0; have HC0 := K0 hc0; clear hr0 hc0; have HR1 := K0 hr1; have HC1 := K0 hc1; clear hr1 hc1; have H : ((r11Compare.f k l0 l1).bind fun t169 => (some (t169 == 0))) = some r := h; clear h; replace H := Option.bind_eq_some_iff.mp H; obtain ⟨t169, A30, H⟩ := H; (try dsimp only at H); have A3 := K0 A30; clear A30; obtain rfl := Option.some.inj H; go_enter Try.func14, Try.ntmps14; go_wp2_with (first | ((with_reducible refine gate_callee (f := 36) rfl ?_); refine goesL_ (some 7) rfl rfl Try.func36 (by kernel_rfl) rfl #[.slice A0 l0.length c0, .slice A1 l1.length c1] rfl ma_ ?_; (with_reducible refine (r11Compare.calls k _ _ l0 _ _ l1 t169 _ ?side1 ?side2 ?side3 ?side4 A3.out).mono ?_); (case side1 => exact rc_ HR0.out); (case side2 => exact HC0.out); (case side3 => exact rc_ HR1.out); (case side4 => exact HC1.out); rintro e w' ⟨rfl, ⟨nd, rfl⟩⟩; refine ⟨_, rfl, ?_⟩)); go_ret; exact ⟨si_, by repeat (first | exact Drawn0.refl _ | apply Drawn0.step)⟩


end Go.Proofs.Ytjelamodjpepkaa.P
