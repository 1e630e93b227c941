/- Walks of the field's methods that only read: Is, in, Order, Mul, Neg, Add, Sub. -/
import Derived.Test.YtekenifndicdeaaDuBase
import Derived.Test.YtekenifndicdeaaDuP
namespace Go.Proofs.Ytekenifndicdeaa.P
open Go.RowKit Go.Proofs.YtekenifndicdeaaW.PrintWords Go.Proofs.YtekenifndicdeaaW.PrintLast Go.Proofs.YtekenifndicdeaaW.PrintMore Go.Proofs.Ytekenifndicdeaa.B
attribute [local go_sem] max2_int min2_int max_two min_two max_three min_three max_four min_four
set_option linter.unusedVariables false
set_option linter.unusedSimpArgs false
/-- What a field's record holds. -/
structure Fr where
  P : Int
  M : Int
  mod : List Int
  q : Int
  exp : List Int
  log : List Int
structure Fr.Ok (F : Fr) : Prop where
  P2 : 2 ≤ F.P
  Pq : F.P ≤ F.q
  q2 : F.q ≤ 256
  el : (F.exp.length : Int) = F.q - 1
  ll : (F.log.length : Int) = F.q
  eb : ∀ i, i < F.exp.length → 1 ≤ F.exp.getD i 0 ∧ F.exp.getD i 0 < F.q
  lb : ∀ i, i < F.log.length → 0 ≤ F.log.getD i 0 ∧ F.log.getD i 0 < F.q - 1
/-- The record in memory. -/
def GFat (w : World) (g : Nat) (F : Fr) : Prop := ∃ A2 c2 A4 c4 A5 c5, w.heap[g]? = some (.cells #[.int .i64 F.P, .int .i64 F.M, .slice A2 F.mod.length c2, .int .i64 F.q, .slice A4 F.exp.length c4, .slice A5 F.log.length c5] 112 (0, 0)) ∧ Kd.C (Kd.int .i64) w A2 F.mod.length F.mod ∧ Kd.C (Kd.int .i64) w A4 F.exp.length F.exp ∧ Kd.C (Kd.int .i64) w A5 F.log.length F.log
theorem GFat.below {w w1 : World} {g : Nat} {F : Fr} (h : GFat w g F) (hb : Below w.heap.size w w1) : GFat w1 g F := by
  obtain ⟨A2, c2, A4, c4, A5, c5, hh, h2, h4, h5⟩ := h
  exact ⟨A2, c2, A4, c4, A5, c5, blk_below hh hb, Kd.C_below h2 hb, Kd.C_below h4 hb, Kd.C_below h5 hb⟩

theorem GFat.drew {w : World} {g : Nat} {F : Fr} (h : GFat w g F) (n : Nat) : GFat (w.drewN n) g F := by
  obtain ⟨A2, c2, A4, c4, A5, c5, hh, h2, h4, h5⟩ := h
  exact ⟨A2, c2, A4, c4, A5, c5, blk_drewN hh n, Kd.C_drewN h2 n, Kd.C_drewN h4 n, Kd.C_drewN h5 n⟩
/-- Sum and negative, digit by digit. -/
def dadd (P : Int) : Nat → Int → Int → Int
  | 0, _, _ => 0
  | d + 1, x, y => (x % P + y % P) % P + P * dadd P d (x / P) (y / P)
def dneg (P : Int) : Nat → Int → Int
  | 0, _ => 0
  | d + 1, x => (P - x % P) % P + P * dneg P d (x / P)
theorem dadd_zero (P : Int) : ∀ d, dadd P d 0 0 = 0
  | 0 => rfl
  | d + 1 => by simp [dadd, dadd_zero P d]
theorem dneg_zero (P : Int) : ∀ d, dneg P d 0 = 0
  | 0 => rfl
  | d + 1 => by simp [dneg, dneg_zero P d]
def Fr.El (F : Fr) (x : Int) : Prop := 0 ≤ x ∧ x < F.q
instance (F : Fr) (x : Int) : Decidable (F.El x) := by unfold Fr.El; infer_instance
def Fr.add (F : Fr) (x y : Int) : Int := if F.P = 2 then Go.bits .xor .i64 x y else dadd F.P 8 x y
def Fr.neg (F : Fr) (x : Int) : Int := dneg F.P 8 x
def Fr.mul (F : Fr) (x y : Int) : Int := if x = 0 then 0 else if y = 0 then 0 else F.exp.getD ((F.log.getD x.toNat 0 + F.log.getD y.toNat 0) % (F.q - 1)).toNat 0
def Fr.inv (F : Fr) (x : Int) : Int := F.exp.getD ((F.q - 1 - F.log.getD x.toNat 0) % (F.q - 1)).toNat 0
theorem ret_int {k : IntKind} {a b : Int} (h : a = b) : Ending.returned (.int k a) = .returned (.int k b) := by rw [h]
theorem ret_bool {a b : Bool} (h : a = b) : Ending.returned (.bool a) = .returned (.bool b) := by rw [h]
theorem gf_Is (g : Nat) (F : Fr) (x : Int) (w : World) (hG : GFat w g F) : Calls Try.prog 93 #[.pointer (some ⟨g, 0, none⟩), .int .i64 x] w fun e w' => e = .returned (.bool (decide (F.El x))) ∧ w = w' := by
  obtain ⟨A2, c2, A4, c4, A5, c5, hh, h2, h4, h5⟩ := hG
  have f3 : w.cell? ⟨g, 3, none⟩ = some (.int .i64 F.q) := (blk_cell hh 3).trans rfl
  by_cases h0 : 0 ≤ x
  · go_enter Try.func93, Try.ntmps93
    go_wp2
    go_ret
    exact ⟨ret_bool (by simp [Fr.El, h0]), rfl⟩
  · go_enter Try.func93, Try.ntmps93
    go_wp2
    go_ret
    exact ⟨ret_bool (decide_eq_false (fun h => absurd h.1 (by omega))).symm, rfl⟩
theorem gf_in (g : Nat) (F : Fr) (x : Int) (w : World) (hG : GFat w g F) (hx : F.El x) : Calls Try.prog 88 #[.pointer (some ⟨g, 0, none⟩), .int .i64 x] w fun e w' => e = .returned (.int .i64 x) ∧ w = w' := by
  have hd : decide (F.El x) = true := decide_eq_true hx
  have HI := gf_Is g F x w hG
  rw [hd] at HI
  have HI := Aside0.mk HI
  clear hd hG
  go_enter Try.func88, Try.ntmps88
  go_wp2_with (go_at_call 93; refine HI.out.mono ?_; rintro e w' ⟨rfl, rfl⟩)
  go_ret
  exact ⟨rfl, rfl⟩
theorem rd_at {w : World} {A : Option Addr} {xs : List Int} (h : Kd.C (Kd.int .i64) w A xs.length xs) (i : Int) (h0 : 0 ≤ i) (h1 : i < xs.length) : ∃ ad, A = some ad ∧ w.cell? (ad.add i.toNat) = some (.int .i64 (xs.getD i.toNat 0)) := Kd.at_int h i h0 h1
theorem gf_Mul (g : Nat) (F : Fr) (x y : Int) (w : World) (hG : GFat w g F) (hF : F.Ok) (hx : F.El x) (hy : F.El y) : Calls Try.prog 112 #[.pointer (some ⟨g, 0, none⟩), .int .i64 x, .int .i64 y] w fun e w' => e = .returned (.int .i64 (F.mul x y)) ∧ ∃ n, w' = w.drewN n := by
  have HG := Aside0.mk hG
  have HX := Aside0.mk hx
  have HY := Aside0.mk hy
  obtain ⟨A2, c2, A4, c4, A5, c5, hh, h2, h4, h5⟩ := hG
  have f3 : w.cell? ⟨g, 3, none⟩ = some (.int .i64 F.q) := (blk_cell hh 3).trans rfl
  have f4 : w.cell? ⟨g, 4, none⟩ = some (.slice A4 F.exp.length c4) := (blk_cell hh 4).trans rfl
  have f5 : w.cell? ⟨g, 5, none⟩ = some (.slice A5 F.log.length c5) := (blk_cell hh 5).trans rfl
  obtain ⟨x0, x1⟩ := hx
  obtain ⟨y0, y1⟩ := hy
  have q2 := hF.q2
  by_cases ex : x = 0
  · subst ex
    go_enter Try.func112, Try.ntmps112
    go_wp2_with (go_at_call 88; refine (gf_in _ F _ _ HG.out (by first | exact HX.out | exact HY.out)).mono ?_; rintro e w' ⟨rfl, rfl⟩)
    go_ret
    exact ⟨by simp [Fr.mul], 0, rfl⟩
  by_cases ey : y = 0
  · subst ey
    go_enter Try.func112, Try.ntmps112
    go_wp2_with (go_at_call 88; refine (gf_in _ F _ _ HG.out (by first | exact HX.out | exact HY.out)).mono ?_; rintro e w' ⟨rfl, rfl⟩)
    go_ret
    exact ⟨by simp [Fr.mul], 0, rfl⟩
  have kx : (x == 0) = false := beq_eq_false_iff_ne.mpr ex
  have ky : (y == 0) = false := beq_eq_false_iff_ne.mpr ey
  have hll := hF.ll
  have hel := hF.el
  have bx := hF.lb x.toNat (by omega)
  have b_y := hF.lb y.toNat (by omega)
  obtain ⟨adx, ex5, cx⟩ := rd_at h5 x x0 (by omega)
  obtain ⟨ady, ey5, cy⟩ := rd_at h5 y y0 (by omega)
  have hm : 0 ≤ (F.log.getD x.toNat 0 + F.log.getD y.toNat 0) % (F.q - 1) ∧ (F.log.getD x.toNat 0 + F.log.getD y.toNat 0) % (F.q - 1) < F.exp.length := ⟨Int.emod_nonneg _ (by omega), by rw [hel]; exact Int.emod_lt_of_pos _ (by omega)⟩
  obtain ⟨ade, ee4, ce⟩ := rd_at h4 _ hm.1 hm.2
  have HM : Aside0 (F.mul x y = F.exp.getD ((F.log.getD x.toNat 0 + F.log.getD y.toNat 0) % (F.q - 1)).toNat 0) := ⟨by unfold Fr.mul; rw [if_neg ex, if_neg ey]⟩
  subst ex5 ee4
  cases ey5
  generalize F.log.getD x.toNat 0 = lx at *
  generalize F.log.getD y.toNat 0 = ly at *
  clear hh h2 h4 h5
  go_enter Try.func112, Try.ntmps112
  go_wp2_with (go_at_call 88; refine (gf_in _ F _ _ HG.out (by first | exact HX.out | exact HY.out)).mono ?_; rintro e w' ⟨rfl, rfl⟩)
  go_quiet (fail)
  go_wp2
  go_ret
  exact ⟨ret_int (by rw [HM.out]; simp), _, rfl⟩

theorem gf_Inv (g : Nat) (F : Fr) (x : Int) (w : World) (hG : GFat w g F) (hF : F.Ok) (hx : F.El x) (hz : x ≠ 0) : Calls Try.prog 113 #[.pointer (some ⟨g, 0, none⟩), .int .i64 x] w fun e w' => e = .returned (.tuple #[.int .i64 (F.inv x), .int .i64 0]) ∧ ∃ n, w' = w.drewN n := by
  have HG := Aside0.mk hG
  have HX := Aside0.mk hx
  obtain ⟨A2, c2, A4, c4, A5, c5, hh, h2, h4, h5⟩ := hG
  have f3 : w.cell? ⟨g, 3, none⟩ = some (.int .i64 F.q) := (blk_cell hh 3).trans rfl
  have f4 : w.cell? ⟨g, 4, none⟩ = some (.slice A4 F.exp.length c4) := (blk_cell hh 4).trans rfl
  have f5 : w.cell? ⟨g, 5, none⟩ = some (.slice A5 F.log.length c5) := (blk_cell hh 5).trans rfl
  obtain ⟨x0, x1⟩ := hx
  have q2 := hF.q2
  have kx : (x == 0) = false := beq_eq_false_iff_ne.mpr hz
  have q1 : 2 ≤ F.q := by have := hF.P2; have := hF.Pq; omega
  have hll := hF.ll
  have hel := hF.el
  have bx := hF.lb x.toNat (by omega)
  obtain ⟨adx, ex5, cx⟩ := rd_at h5 x x0 (by omega)
  have HM : Aside0 (F.inv x = F.exp.getD ((F.q - 1 - F.log.getD x.toNat 0) % (F.q - 1)).toNat 0) := ⟨rfl⟩
  generalize F.log.getD x.toNat 0 = lx at *
  obtain ⟨Q, hQ⟩ : ∃ Q, Q = F.q - 1 := ⟨_, rfl⟩
  obtain ⟨T, hT⟩ : ∃ T, T = Q - lx := ⟨_, rfl⟩
  obtain ⟨m, hm⟩ : ∃ m, m = T % Q := ⟨_, rfl⟩
  have m0 : 0 ≤ m := by rw [hm]; exact Int.emod_nonneg _ (by omega)
  have m1 : m < F.exp.length := by rw [hel, ← hQ, hm]; exact Int.emod_lt_of_pos _ (by omega)
  rw [← hQ, ← hT, ← hm] at HM
  obtain ⟨ade, ee4, ce⟩ := rd_at h4 _ m0 m1
  subst ex5 ee4
  have b1 : 0 ≤ T := by omega
  have b2 : 0 < Q := by omega
  have w1 : IntKind.i64.wrap (F.q - 1) = Q := by rw [hQ]; exact i64w (by omega) (by omega)
  have w2 : IntKind.i64.wrap (Q - lx) = T := by rw [hT]; exact i64w (by omega) (by omega)
  have w3 : Int.tmod T Q = m := by rw [hm]; exact Int.tmod_eq_emod_of_nonneg b1
  have w4 : T % Q = m := hm.symm
  clear hh h2 h4 h5 hm hQ hT
  go_enter Try.func113, Try.ntmps113
  go_wp2_with (go_at_call 88; refine (gf_in _ F _ _ HG.out HX.out).mono ?_; rintro e w' ⟨rfl, rfl⟩)
  go_quiet (fail)
  go_wp2
  go_ret2
  exact ⟨by rw [HM.out]; simp, _, rfl⟩
/-- Facts of one round of the digit loops. -/
structure DR (P p x s : Int) : Prop where
  p1 : 1 ≤ p
  p2 : p ≤ 65536
  x0 : 0 ≤ x
  px : p * x ≤ 255
  s0 : 0 ≤ s
  sp : s < p
theorem DR.step {P p x s t : Int} (h : DR P p x s) (hP : 2 ≤ P) (hP2 : P ≤ 256) (hx : 0 < x) (ht : 0 ≤ t) (ht2 : t < P) : DR P (p * P) (x / P) (s + t * p) ∧ p ≤ 255 ∧ 0 ≤ t * p ∧ t * p ≤ 65536 ∧ p * P ≤ 65536 := by
  obtain ⟨p1, p2, x0, px, s0, sp⟩ := h
  have hp : p ≤ 255 := by
    have : p * 1 ≤ p * x := Int.mul_le_mul_of_nonneg_left (by omega) (by omega)
    omega
  have h1 : p * P ≤ 255 * 256 := Int.mul_le_mul hp hP2 (by omega) (by omega)
  have h2 : t * p ≤ (P - 1) * p := Int.mul_le_mul_of_nonneg_right (by omega) (by omega)
  have h3 : (P - 1) * p = p * P - p := by rw [Int.sub_mul, Int.mul_comm P p]; omega
  have h4 : 0 ≤ t * p := Int.mul_nonneg ht (by omega)
  have h5 : p * 1 ≤ p * P := Int.mul_le_mul_of_nonneg_left (by omega) (by omega)
  have h6 : P * (x / P) ≤ x := by have := Int.mul_ediv_add_emod x P; have := Int.emod_nonneg x (show P ≠ 0 by omega); omega
  have h7 : p * (P * (x / P)) ≤ p * x := Int.mul_le_mul_of_nonneg_left h6 (by omega)
  have h8 : 0 ≤ x / P := Int.ediv_nonneg x0 (by omega)
  exact ⟨⟨by omega, by omega, h8, by rw [Int.mul_assoc]; omega, by omega, by omega⟩, hp, h4, by omega, by omega⟩
theorem dneg_next {P : Int} (d : Nat) (x s p : Int) : s + p * dneg P (d + 1) x = s + (P - x % P) % P * p + p * P * dneg P d (x / P) := by
  rw [show dneg P (d + 1) x = (P - x % P) % P + P * dneg P d (x / P) from rfl, Int.mul_add, Int.mul_assoc, Int.mul_comm p ((P - x % P) % P)]
  omega
theorem half_le {P x : Int} {d : Nat} (hP : 2 ≤ P) (hx : x < 2 ^ (d + 1)) (h0 : 0 ≤ x) : x / P < 2 ^ d := by
  have h6 : P * (x / P) ≤ x := by have := Int.mul_ediv_add_emod x P; have := Int.emod_nonneg x (show P ≠ 0 by omega); omega
  have h8 : 0 ≤ x / P := Int.ediv_nonneg h0 (by omega)
  have h7 : 2 * (x / P) ≤ P * (x / P) := Int.mul_le_mul_of_nonneg_right hP h8
  have : (2 : Int) ^ (d + 1) = 2 ^ d * 2 := Int.pow_succ 2 d
  omega
def NegRel (F : Fr) (x : Int) (w : World) (v1 v5 v6 : Value) (wr : World) : Prop :=
  ∃ (d : Nat) (y s p : Int), v1 = .int .i64 y ∧ v5 = .int .i64 s ∧ v6 = .int .i64 p ∧ DR F.P p y s ∧ y < 2 ^ d ∧ s + p * dneg F.P d y = F.neg x ∧ ∃ n, wr = w.drewN n
theorem gf_Neg (g : Nat) (F : Fr) (x : Int) (w : World) (hG : GFat w g F) (hF : F.Ok) (hx : F.El x) : Calls Try.prog 61 #[.pointer (some ⟨g, 0, none⟩), .int .i64 x] w fun e w' => e = .returned (.int .i64 (F.neg x)) ∧ ∃ n, w' = w.drewN n := by
  have HG := Aside0.mk hG
  have HX := Aside0.mk hx
  obtain ⟨A2, c2, A4, c4, A5, c5, hh, h2, h4, h5⟩ := hG
  obtain ⟨x0, x1⟩ := hx
  have hP := hF.P2
  have hPq := hF.Pq
  have hq := hF.q2
  have HR0 : Aside0 (NegRel F x w (.int .i64 x) (.int .i64 0) (.int .i64 1) w) := ⟨8, x, 0, 1, rfl, rfl, rfl, ⟨by omega, by omega, x0, by omega, by omega, by omega⟩, by omega, by simp [Fr.neg], 0, rfl⟩
  go_enter Try.func61, Try.ntmps61
  go_wp2_with (go_at_call 88; refine (gf_in _ F _ _ HG.out HX.out).mono ?_; rintro e w' ⟨rfl, rfl⟩)
  go_loopw [1, 5, 6] (fun a b c wr => NegRel F x w a b c wr) (fun a b c _ => (intOf a).toNat)
  case atStart => exact HR0.out
  case round =>
    clear HR0
    obtain ⟨d, y, s, p, rfl, rfl, rfl, hD, hy, hs, n, rfl⟩ := hrel
    have f0 : w.cell? ⟨g, 0, none⟩ = some (.int .i64 F.P) := (blk_cell hh 0).trans rfl
    by_cases h0 : 0 < y
    · have ht : 0 ≤ (F.P - y % F.P) % F.P ∧ (F.P - y % F.P) % F.P < F.P := ⟨Int.emod_nonneg _ (by omega), Int.emod_lt_of_pos _ (by omega)⟩
      obtain ⟨hD2, p255, t0, t1, pP⟩ := hD.step hP (by omega) h0 ht.1 ht.2
      obtain ⟨e, rfl⟩ : ∃ e, d = e + 1 := by
        cases d with
        | zero => simp at hy; omega
        | succ e => exact ⟨e, rfl⟩
      have hlow : y / F.P < y := by have h6 : F.P * (y / F.P) ≤ y := by have := Int.mul_ediv_add_emod y F.P; have := Int.emod_nonneg y (show F.P ≠ 0 by omega); omega
                                    have h7 : 2 * (y / F.P) ≤ F.P * (y / F.P) := Int.mul_le_mul_of_nonneg_right hP hD2.x0
                                    omega
      have ym : 0 ≤ y % F.P ∧ y % F.P < F.P := ⟨Int.emod_nonneg _ (by omega), Int.emod_lt_of_pos _ (by omega)⟩
      have s0 := hD.s0
      have sp := hD.sp
      have p1 := hD.p1
      have yb : y ≤ 255 := by have := Int.mul_le_mul_of_nonneg_right p1 hD.x0; have := hD.px; omega
      have q1 := hD2.p1
      have HN : Aside0 (∀ m, NegRel F x w (.int .i64 (y / F.P)) (.int .i64 (s + (F.P - y % F.P) % F.P * p)) (.int .i64 (p * F.P)) (w.drewN m)) := ⟨fun m => ⟨e, _, _, _, rfl, rfl, rfl, hD2, half_le hP hy hD.x0, by rw [← dneg_next, hs], m, rfl⟩⟩
      have HL := Aside0.mk hlow
      have y0 := hD.x0
      have yy0 := hD2.x0
      clear hlow hD hD2 hy hs hh h2 h4 h5
      have w1 : y % F.P = y.tmod F.P := (Int.tmod_eq_emod_of_nonneg y0).symm
      have w2 : y / F.P = y.tdiv F.P := (Int.tdiv_eq_ediv_of_nonneg y0).symm
      obtain ⟨r, hr⟩ : ∃ r, r = y % F.P := ⟨_, rfl⟩
      obtain ⟨yy, hyy⟩ : ∃ r, r = y / F.P := ⟨_, rfl⟩
      rw [← hr] at HN w1 t0 t1 ym ht
      rw [← hyy] at HN HL w2 yy0
      have yy1 : yy ≤ 255 := by have := HL.out; omega
      obtain ⟨a, ha⟩ : ∃ a, a = F.P - r := ⟨_, rfl⟩
      rw [← ha] at HN t0 t1 ht
      have a0 : 0 ≤ a := by omega
      have w3 : a % F.P = a.tmod F.P := (Int.tmod_eq_emod_of_nonneg a0).symm
      obtain ⟨t, ht2⟩ : ∃ t, t = a % F.P := ⟨_, rfl⟩
      rw [← ht2] at HN t0 t1 w3 ht
      obtain ⟨m, hm⟩ : ∃ m, m = t * p := ⟨_, rfl⟩
      rw [← hm] at HN t0 t1
      obtain ⟨s', hs'⟩ : ∃ m', m' = s + m := ⟨_, rfl⟩
      rw [← hs'] at HN
      obtain ⟨pp, hpp⟩ : ∃ pp, pp = p * F.P := ⟨_, rfl⟩
      rw [← hpp] at HN pP q1
      have v1 : IntKind.i64.wrap (F.P - r) = a := by rw [ha]; exact i64w (by omega) (by omega)
      have v2 : IntKind.i64.wrap (t * p) = m := by rw [← hm]; exact i64w (by omega) (by omega)
      have v3 : IntKind.i64.wrap (s + m) = s' := by rw [hs']; exact i64w (by omega) (by omega)
      have v4 : IntKind.i64.wrap (p * F.P) = pp := by rw [← hpp]; exact i64w (by omega) (by omega)
      have w5 := w1.symm
      have w6 := w2.symm
      have w7 := w3.symm
      clear w1 w2 w3 ht2 hr hyy ha hm hs' hpp
      go_wp2
      go_quiet (fail)
      go_wp2
      exact ⟨HN.out _, by simp [intOf]; have := HL.out; clear v1 v2 v3 v4 w5 w6 w7; omega⟩
    · have : y = 0 := by have := hD.x0; omega
      subst this
      rw [dneg_zero] at hs
      have HS : Aside0 (s = F.neg x) := ⟨by omega⟩
      clear hs
      go_wp2
      go_ret
      exact ⟨ret_int HS.out, _, rfl⟩
theorem dadd_next {P : Int} (d : Nat) (x y s p : Int) : s + p * dadd P (d + 1) x y = s + (x % P + y % P) % P * p + p * P * dadd P d (x / P) (y / P) := by
  rw [show dadd P (d + 1) x y = (x % P + y % P) % P + P * dadd P d (x / P) (y / P) from rfl, Int.mul_add, Int.mul_assoc, Int.mul_comm p ((x % P + y % P) % P)]
  omega
def AddRel (F : Fr) (x y : Int) (w : World) (v1 v2 v7 v8 : Value) (wr : World) : Prop :=
  ∃ (d : Nat) (a b s p : Int), v1 = .int .i64 a ∧ v2 = .int .i64 b ∧ v7 = .int .i64 s ∧ v8 = .int .i64 p ∧ DR F.P p a s ∧ DR F.P p b s ∧ a < 2 ^ d ∧ b < 2 ^ d ∧ s + p * dadd F.P d a b = dadd F.P 8 x y ∧ ∃ n, wr = w.drewN n
theorem DR.step0 {P p s t : Int} (h : DR P p 0 s) (hP : 2 ≤ P) (hp : p ≤ 255) (hP2 : P ≤ 256) (ht : 0 ≤ t) (ht2 : t < P) : DR P (p * P) 0 (s + t * p) := by
  obtain ⟨p1, p2, x0, px, s0, sp⟩ := h
  have h1 : p * P ≤ 255 * 256 := Int.mul_le_mul hp hP2 (by omega) (by omega)
  have h2 : t * p ≤ (P - 1) * p := Int.mul_le_mul_of_nonneg_right (by omega) (by omega)
  have h3 : (P - 1) * p = p * P - p := by rw [Int.sub_mul, Int.mul_comm P p]; omega
  have h4 : 0 ≤ t * p := Int.mul_nonneg ht (by omega)
  have h5 : p * 1 ≤ p * P := Int.mul_le_mul_of_nonneg_left (by omega) (by omega)
  exact ⟨by omega, by omega, by omega, by omega, by omega, by omega⟩
theorem DR.two {P p x y s t : Int} (h : DR P p x s) (h' : DR P p y s) (hP : 2 ≤ P) (hP2 : P ≤ 256) (hxy : 0 < x ∨ 0 < y) (ht : 0 ≤ t) (ht2 : t < P) : DR P (p * P) (x / P) (s + t * p) ∧ DR P (p * P) (y / P) (s + t * p) ∧ p ≤ 255 ∧ 0 ≤ t * p ∧ t * p ≤ 65536 ∧ p * P ≤ 65536 := by
  have hp1 := h.p1
  have hp : p ≤ 255 := by
    rcases hxy with g | g
    · exact (h.step hP hP2 g ht ht2).2.1
    · exact (h'.step hP hP2 g ht ht2).2.1
  have z : DR P p 0 s := ⟨h.p1, h.p2, by omega, by omega, h.s0, h.sp⟩
  have go : ∀ u, DR P p u s → DR P (p * P) (u / P) (s + t * p) := fun u hu => by
    by_cases g : 0 < u
    · exact (hu.step hP hP2 g ht ht2).1
    · have : u = 0 := by have := hu.x0; omega
      subst this
      have := z.step0 hP hp hP2 ht ht2
      simpa using this
  refine ⟨go x h, go y h', hp, ?_⟩
  rcases hxy with g | g
  · exact (h.step hP hP2 g ht ht2).2.2
  · exact (h'.step hP hP2 g ht ht2).2.2
theorem div_lt {P y : Int} (hP : 2 ≤ P) (h : 0 ≤ y) : y / P ≤ y ∧ (0 < y → y / P < y) ∧ 0 ≤ y / P := by
  have h6 : P * (y / P) ≤ y := by have := Int.mul_ediv_add_emod y P; have := Int.emod_nonneg y (show P ≠ 0 by omega); omega
  have h8 : 0 ≤ y / P := Int.ediv_nonneg h (by omega)
  have h7 : 2 * (y / P) ≤ P * (y / P) := Int.mul_le_mul_of_nonneg_right hP h8
  omega
theorem dr_le {P p x s : Int} (h : DR P p x s) : x ≤ 255 := by have := Int.mul_le_mul_of_nonneg_right h.p1 h.x0; have := h.px; omega
theorem gf_Add (g : Nat) (F : Fr) (x y : Int) (w : World) (hG : GFat w g F) (hF : F.Ok) (hx : F.El x) (hy : F.El y) : Calls Try.prog 131 #[.pointer (some ⟨g, 0, none⟩), .int .i64 x, .int .i64 y] w fun e w' => e = .returned (.int .i64 (F.add x y)) ∧ ∃ n, w' = w.drewN n := by
  have HG := Aside0.mk hG
  have HX := Aside0.mk hx
  have HY := Aside0.mk hy
  obtain ⟨A2, c2, A4, c4, A5, c5, hh, h2, h4, h5⟩ := hG
  obtain ⟨x0, x1⟩ := hx
  obtain ⟨y0, y1⟩ := hy
  have hP := hF.P2
  have hPq := hF.Pq
  have hq := hF.q2
  have f0 : w.cell? ⟨g, 0, none⟩ = some (.int .i64 F.P) := (blk_cell hh 0).trans rfl
  clear h2 h4 h5
  by_cases hP2 : F.P = 2
  · have k2 : (F.P == 2) = true := beq_iff_eq.mpr hP2
    have HS : Aside0 (F.add x y = Go.bits .xor .i64 x y) := ⟨if_pos hP2⟩
    clear hP2 hh
    go_enter Try.func131, Try.ntmps131
    go_wp2_with (go_at_call 88; refine (gf_in _ F _ _ HG.out (by first | exact HX.out | exact HY.out)).mono ?_; rintro e w' ⟨rfl, rfl⟩)
    go_ret
    exact ⟨ret_int HS.out.symm, 0, rfl⟩
  · have k2 : (F.P == 2) = false := beq_eq_false_iff_ne.mpr hP2
    have HS : Aside0 (F.add x y = dadd F.P 8 x y) := ⟨if_neg hP2⟩
    have HR0 : Aside0 (AddRel F x y w (.int .i64 x) (.int .i64 y) (.int .i64 0) (.int .i64 1) w) := ⟨8, x, y, 0, 1, rfl, rfl, rfl, rfl, ⟨by omega, by omega, x0, by omega, by omega, by omega⟩, ⟨by omega, by omega, y0, by omega, by omega, by omega⟩, by omega, by omega, by simp, 0, rfl⟩
    clear hP2
    go_enter Try.func131, Try.ntmps131
    go_wp2_with (go_at_call 88; refine (gf_in _ F _ _ HG.out (by first | exact HX.out | exact HY.out)).mono ?_; rintro e w' ⟨rfl, rfl⟩)
    clear k2
    go_loopw [1, 2, 7, 8] (fun a b c d wr => AddRel F x y w a b c d wr) (fun a b c d _ => (intOf a + intOf b).toNat)
    case atStart => exact HR0.out
    case round =>
      clear HR0
      obtain ⟨d, a, b, s, p, rfl, rfl, rfl, rfl, hA, hB, ha, hb, hs, n, rfl⟩ := hrel
      have a0 := hA.x0
      have b0 := hB.x0
      by_cases h0 : 0 < a ∨ 0 < b
      · have H0 := Aside0.mk h0
        obtain ⟨e, rfl⟩ : ∃ e, d = e + 1 := by
          cases d with
          | zero => simp at ha hb; omega
          | succ e => exact ⟨e, rfl⟩
        have ht : 0 ≤ (a % F.P + b % F.P) % F.P ∧ (a % F.P + b % F.P) % F.P < F.P := ⟨Int.emod_nonneg _ (by omega), Int.emod_lt_of_pos _ (by omega)⟩
        obtain ⟨hA2, hB2, p255, t0, t1, pP⟩ := hA.two hB hP (by omega) h0 ht.1 ht.2
        have am : 0 ≤ a % F.P ∧ a % F.P < F.P := ⟨Int.emod_nonneg _ (by omega), Int.emod_lt_of_pos _ (by omega)⟩
        have bm : 0 ≤ b % F.P ∧ b % F.P < F.P := ⟨Int.emod_nonneg _ (by omega), Int.emod_lt_of_pos _ (by omega)⟩
        have s0 := hA.s0
        have sp := hA.sp
        have p1 := hA.p1
        have a255 := dr_le hA
        have b255 := dr_le hB
        have hla := div_lt hP a0
        have hlb := div_lt hP b0
        have q1 := hA2.p1
        have HN : Aside0 (∀ m, AddRel F x y w (.int .i64 (a / F.P)) (.int .i64 (b / F.P)) (.int .i64 (s + (a % F.P + b % F.P) % F.P * p)) (.int .i64 (p * F.P)) (w.drewN m)) := ⟨fun m => ⟨e, _, _, _, _, rfl, rfl, rfl, rfl, hA2, hB2, half_le hP ha a0, half_le hP hb b0, by rw [← dadd_next, hs], m, rfl⟩⟩
        have HL : Aside0 (a / F.P + b / F.P < a + b ∧ 0 ≤ a / F.P ∧ 0 ≤ b / F.P) := ⟨by omega⟩
        clear hA hB hA2 hB2 ha hb hs hla hlb h0 hh
        have w1 := Int.tmod_eq_emod_of_nonneg (b := F.P) a0
        have w2 := Int.tdiv_eq_ediv_of_nonneg (b := F.P) a0
        have w3 := Int.tmod_eq_emod_of_nonneg (b := F.P) b0
        have w4 := Int.tdiv_eq_ediv_of_nonneg (b := F.P) b0
        obtain ⟨ar, har⟩ : ∃ r, r = a % F.P := ⟨_, rfl⟩
        obtain ⟨aq, haq⟩ : ∃ r, r = a / F.P := ⟨_, rfl⟩
        obtain ⟨br, hbr⟩ : ∃ r, r = b % F.P := ⟨_, rfl⟩
        obtain ⟨bq, hbq⟩ : ∃ r, r = b / F.P := ⟨_, rfl⟩
        rw [← har, ← hbr] at HN t0 t1 ht
        rw [← haq, ← hbq] at HN HL
        rw [← har] at w1 am
        rw [← haq] at w2
        rw [← hbr] at w3 bm
        rw [← hbq] at w4
        obtain ⟨c, hc⟩ : ∃ c, c = ar + br := ⟨_, rfl⟩
        rw [← hc] at HN t0 t1 ht
        have c0 : 0 ≤ c := by omega
        have w5 := Int.tmod_eq_emod_of_nonneg (b := F.P) c0
        obtain ⟨t, ht2⟩ : ∃ t, t = c % F.P := ⟨_, rfl⟩
        rw [← ht2] at HN t0 t1 w5 ht
        obtain ⟨m, hm⟩ : ∃ m, m = t * p := ⟨_, rfl⟩
        rw [← hm] at HN t0 t1
        obtain ⟨s', hs'⟩ : ∃ m', m' = s + m := ⟨_, rfl⟩
        rw [← hs'] at HN
        obtain ⟨pp, hpp⟩ : ∃ pp, pp = p * F.P := ⟨_, rfl⟩
        rw [← hpp] at HN pP q1
        have aq0 := HL.out.2.1
        have bq0 := HL.out.2.2
        have aq1 : aq ≤ 600 := by have := HL.out.1; omega
        have bq1 : bq ≤ 600 := by have := HL.out.1; omega
        have v1 : IntKind.i64.wrap (ar + br) = c := by rw [hc]; exact i64w (by omega) (by omega)
        have v2 : IntKind.i64.wrap (t * p) = m := by rw [← hm]; exact i64w (by omega) (by omega)
        have v3 : IntKind.i64.wrap (s + m) = s' := by rw [hs']; exact i64w (by omega) (by omega)
        have v4 : IntKind.i64.wrap (p * F.P) = pp := by rw [← hpp]; exact i64w (by omega) (by omega)
        clear har haq hbr hbq hc ht2 hm hs' hpp
        obtain ⟨u, ku⟩ : ∃ u, decide (0 < a) = u := ⟨_, rfl⟩
        obtain ⟨v, kv⟩ : ∃ v, decide (0 < b) = v := ⟨_, rfl⟩
        have hno : ¬ (u = false ∧ v = false) := by
          rintro ⟨rfl, rfl⟩
          have := of_decide_eq_false ku
          have := of_decide_eq_false kv
          have := H0.out
          omega
        cases u <;> cases v
        · exact absurd ⟨rfl, rfl⟩ hno
        all_goals
          clear hno
          go_wp2
          go_quiet (fail)
          go_wp2
          exact ⟨HN.out _, by simp [intOf]; have := HL.out; clear v1 v2 v3 v4 w1 w2 w3 w4 w5; omega⟩
      · have hz : a = 0 ∧ b = 0 := by omega
        obtain ⟨rfl, rfl⟩ := hz
        rw [dadd_zero] at hs
        have HT : Aside0 (s = F.add x y) := ⟨by rw [HS.out]; omega⟩
        clear hs
        go_wp2
        go_ret
        exact ⟨ret_int HT.out, _, rfl⟩
end Go.Proofs.Ytekenifndicdeaa.P
