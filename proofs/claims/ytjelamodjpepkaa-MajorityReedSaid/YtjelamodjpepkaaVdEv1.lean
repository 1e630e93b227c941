/- What the printed comparison of lists and the printed evaluation of monomials come to. -/
import Derived.Test.YtjelamodjpepkaaVdBase
import Derived.Test.YtjelamodjpepkaaVdP3
namespace Go.Proofs.Ytjelamodjpepkaa.B
open Go.RowKit Go.Proofs.YtjelamodjpepkaaW.PrintWords Go.Proofs.YtjelamodjpepkaaW.PrintMore Go.Proofs.Ytjelamodjpepkaa.P
set_option linter.unusedVariables false

/-! ### Comparison -/
theorem same_go (a b : List Int) (ha : a.length < 9223372036854775808) : ∀ (d i : Nat), a.length - i = d → i ≤ a.length → i ≤ b.length → a.take i = b.take i →
    ∃ r : Int, Tl (fun k => codewrightref11_Compare.l0 k a b (i : Int)) r ∧ (r = 0 ↔ a = b) := by
  intro d
  induction d with
  | zero =>
    intro i hd hi hb he
    have e : i = a.length := by omega
    subst e
    by_cases h1 : a.length < b.length
    · refine ⟨-1, ?_, fun h => by simp at h, fun h => by rw [h] at h1; omega⟩
      refine Tl.step (fun k => by rw [codewrightref11_Compare.l0]) ?_
      refine Tl.neg (by omega) ?_
      refine Tl.step (fun k => by rw [codewrightref11_Compare.j1]) ?_
      refine Tl.neg (by simp) ?_
      refine Tl.pos (by omega) (Tl.now _)
    · have hl : a.length = b.length := by omega
      refine ⟨0, ?_, ?_⟩
      · refine Tl.step (fun k => by rw [codewrightref11_Compare.l0]) ?_
        refine Tl.neg (by omega) ?_
        refine Tl.step (fun k => by rw [codewrightref11_Compare.j1]) ?_
        refine Tl.neg (by simp) ?_
        refine Tl.neg (by omega) ?_
        refine Tl.neg (by omega) (Tl.now _)
      · rw [List.take_of_length_le (Nat.le_refl _), List.take_of_length_le (by omega)] at he
        simp [he]
  | succ d ih =>
    intro i hd hi hb he
    by_cases h1 : i < b.length
    · by_cases hlt : a.getD i 0 < b.getD i 0
      · refine ⟨-1, ?_, ?_⟩
        · refine Tl.step (fun k => by rw [codewrightref11_Compare.l0]) ?_
          refine Tl.pos (by omega) ?_
          refine Tl.step (fun k => by rw [codewrightref11_Compare.j1]) ?_
          refine Tl.pos (by simp; omega) ?_
          refine Tl.pos (by omega) ?_
          refine Tl.pos (by omega) ?_
          refine Tl.pos (by omega) ?_
          exact Tl.pos hlt (Tl.now _)
        · constructor
          · intro h; simp at h
          · intro h; rw [h] at hlt; omega
      · by_cases hgt : a.getD i 0 > b.getD i 0
        · refine ⟨1, ?_, ?_⟩
          · refine Tl.step (fun k => by rw [codewrightref11_Compare.l0]) ?_
            refine Tl.pos (by omega) ?_
            refine Tl.step (fun k => by rw [codewrightref11_Compare.j1]) ?_
            refine Tl.pos (by simp; omega) ?_
            refine Tl.pos (by omega) ?_
            refine Tl.pos (by omega) ?_
            refine Tl.pos (by omega) ?_
            refine Tl.neg hlt ?_
            exact Tl.pos hgt (Tl.now _)
          · constructor
            · intro h; simp at h
            · intro h; rw [h] at hgt; omega
        · have hia : i < a.length := by omega
          have e : a.getD i 0 = b.getD i 0 := by omega
          rw [List.getD_eq_getElem?_getD, List.getD_eq_getElem?_getD, List.getElem?_eq_getElem hia, List.getElem?_eq_getElem h1] at e
          simp only [Option.getD_some] at e
          obtain ⟨r, hr, hh⟩ := ih (i + 1) (by omega) (by omega) (by omega) (by rw [List.take_succ_eq_append_getElem hia, List.take_succ_eq_append_getElem h1, he, e])
          refine ⟨r, ?_, hh⟩
          refine Tl.step (fun k => by rw [codewrightref11_Compare.l0]) ?_
          refine Tl.pos (by omega) ?_
          refine Tl.step (fun k => by rw [codewrightref11_Compare.j1]) ?_
          refine Tl.pos (by simp; omega) ?_
          refine Tl.pos (by omega) ?_
          refine Tl.pos (by omega) ?_
          refine Tl.pos (by omega) ?_
          refine Tl.neg hlt ?_
          refine Tl.neg hgt ?_
          rw [w64s i (by omega)]
          exact hr
    · refine ⟨1, ?_, ?_⟩
      · refine Tl.step (fun k => by rw [codewrightref11_Compare.l0]) ?_
        refine Tl.pos (by omega) ?_
        refine Tl.step (fun k => by rw [codewrightref11_Compare.j1]) ?_
        refine Tl.neg (by simp; omega) ?_
        refine Tl.neg (by omega) ?_
        exact Tl.pos (by omega) (Tl.now _)
      · constructor
        · intro h; simp at h
        · intro h; rw [h] at hd; omega
/-- Same tells whether two lists are equal. -/
theorem same_tl (a b : List Int) (ha : a.length < 9223372036854775808) : Tl (fun k => codewrightref11_Same.f k a b) (decide (a = b)) := by
  obtain ⟨r, hr, h⟩ := same_go a b ha a.length 0 (by omega) (by omega) (by omega) (by simp)
  unfold codewrightref11_Same.f codewrightref11_Compare.f
  refine Tl.bind hr ?_
  refine Tl.val ?_ (Tl.now _)
  by_cases e : a = b
  · simp [e, h.2 e]
  · have : r ≠ 0 := fun h' => e (h.1 h')
    simp [e, this]

theorem sameLists_go (a b : List (List Int)) (ha : a.length < 9223372036854775808) (hx : ∀ x ∈ a, x.length < 9223372036854775808) (hl : a.length = b.length) : ∀ (d i : Nat), a.length - i = d → i ≤ a.length → a.take i = b.take i →
    Tl (fun k => codewrightref11_SameLists.l0 k a b (i : Int)) (decide (a = b)) := by
  intro d
  induction d with
  | zero =>
    intro i hd hi he
    have e : i = a.length := by omega
    subst e
    rw [List.take_of_length_le (Nat.le_refl _), List.take_of_length_le (by omega)] at he
    refine Tl.step (fun k => by rw [codewrightref11_SameLists.l0]) ?_
    refine Tl.neg (by omega) ?_
    exact Tl.val (by simp [he]) (Tl.now _)
  | succ d ih =>
    intro i hd hi he
    have hia : i < a.length := by omega
    have hib : i < b.length := by omega
    have e1 : rd_L1 a (i : Int) = a[i] := by simp [rd_L1, hia]
    have e2 : rd_L1 b (i : Int) = b[i] := by simp [rd_L1, hib]
    obtain ⟨r, hr, h⟩ := same_go a[i] b[i] (hx _ (List.getElem_mem hia)) _ 0 rfl (by omega) (by omega) (by simp)
    refine Tl.step (fun k => by rw [codewrightref11_SameLists.l0]) ?_
    refine Tl.pos (by omega) (Tl.pos (by omega) (Tl.pos (by omega) ?_))
    rw [e1, e2]
    refine Tl.bind hr ?_
    by_cases e : a[i] = b[i]
    · refine Tl.pos (h.2 e) ?_
      rw [w64s i (by omega)]
      exact ih (i + 1) (by omega) (by omega) (by rw [List.take_succ_eq_append_getElem hia, List.take_succ_eq_append_getElem hib, he, e])
    · refine Tl.neg (fun h' => e (h.1 h')) (Tl.val ?_ (Tl.now _))
      have : a ≠ b := fun h' => e (by simp [h'])
      simp [this]
theorem sameLists_tl (a b : List (List Int)) (ha : a.length < 9223372036854775808) (hx : ∀ x ∈ a, x.length < 9223372036854775808) : Tl (fun k => codewrightref11_SameLists.f k a b) (decide (a = b)) := by
  unfold codewrightref11_SameLists.f
  by_cases e : a.length = b.length
  · exact Tl.pos (by omega) (sameLists_go a b ha hx e _ 0 rfl (by omega) (by simp))
  · refine Tl.neg (by omega) (Tl.val ?_ (Tl.now _))
    have : a ≠ b := fun h => e (by rw [h])
    simp [this]

/-! ### Monomials at points -/
/-- A strictly ascending list of numbers above prev and below m. -/
def ascB (m : Int) : Int → List Int → Bool
  | _, [] => true
  | prev, v :: vs => decide (prev < v) && decide (v < m) && ascB m v vs
def maskOf : List Int → Nat → Nat
  | [], a => a
  | v :: vs, a => maskOf vs (a ||| 2 ^ v.toNat)
theorem maskOf_lt (m : Nat) : ∀ (vs : List Int) (a : Nat) (prev : Int), -1 ≤ prev → ascB m prev vs = true → a < 2 ^ m → maskOf vs a < 2 ^ m
  | [], a, _, _, _, h => h
  | v :: vs, a, prev, hp, ha, h => by
    simp only [ascB, Bool.and_eq_true, decide_eq_true_eq] at ha
    exact maskOf_lt m vs _ v (by omega) ha.2 (Nat.or_lt_two_pow h (Nat.pow_lt_pow_right (by decide) (by omega)))
theorem maskOf_bit (i : Nat) : ∀ (vs : List Int) (a : Nat), (∀ v ∈ vs, 0 ≤ v) → ((maskOf vs a).testBit i = true ↔ a.testBit i = true ∨ (i : Int) ∈ vs)
  | [], a, _ => by simp [maskOf]
  | v :: vs, a, h => by
    have hv := h v (by simp)
    rw [maskOf, maskOf_bit i vs _ (fun u hu => h u (by simp [hu])), Nat.testBit_or, Nat.testBit_two_pow]
    simp only [Bool.or_eq_true, decide_eq_true_eq, List.mem_cons]
    constructor
    · rintro ((h | h) | h)
      · exact .inl h
      · exact .inr (.inl (by omega))
      · exact .inr (.inr h)
    · rintro (h | h | h)
      · exact .inl (.inl h)
      · exact .inl (.inr (by omega))
      · exact .inr h
theorem asc_nonneg (m : Int) : ∀ (vs : List Int) (prev : Int), -1 ≤ prev → ascB m prev vs = true → ∀ v ∈ vs, 0 ≤ v ∧ v < m
  | [], _, _, _ => by simp
  | u :: vs, prev, hp, ha => by
    simp only [ascB, Bool.and_eq_true, decide_eq_true_eq] at ha
    intro v hv
    rcases List.mem_cons.1 hv with rfl | hv
    · omega
    · exact asc_nonneg m vs u (by omega) ha.2 v hv
theorem and_eq_iff (p mask : Nat) : p &&& mask = mask ↔ ∀ i, mask.testBit i = true → p.testBit i = true := by
  constructor
  · intro h i hi
    have := congrArg (fun x => x.testBit i) h
    simp only [Nat.testBit_and, hi, Bool.and_true] at this
    exact this
  · intro h
    apply Nat.eq_of_testBit_eq
    intro i
    rw [Nat.testBit_and]
    cases hm : mask.testBit i with
    | false => simp
    | true => simp [h i hm]
/-- The values of a monomial. -/
def evT (m : Nat) (mask : Nat) : List Int := tab (2 ^ m) (fun p => if p &&& mask = mask then 1 else 0)
def evS (m : Int) (vars : List Int) : List Int × Int :=
  if m < 0 ∨ 6 < m then ([], 6) else bif ascB m (-1) vars then (evT m.toNat (maskOf vars 0), 0) else ([], 5)

theorem drop_cons {xs : List Int} {i : Nat} (h : i < xs.length) : xs.drop i = xs.getD i 0 :: xs.drop (i + 1) := by
  rw [List.drop_eq_getElem_cons h, List.getD_eq_getElem?_getD, List.getElem?_eq_getElem h]; rfl

theorem cE_fill (mask n : Nat) (hm : mask < 64) (hn : n ≤ 64) : ∀ (d i : Nat), n - i = d → i ≤ n →
    Tl (fun k => classic_Evaluate.l1 k (mask : Int) (tab n (fun p => if p < i ∧ p &&& mask = mask then 1 else 0)) (n : Int) (i : Int)) (tab n (fun p => if p &&& mask = mask then 1 else 0), 0) := by
  intro d
  induction d with
  | zero =>
    intro i hd hi
    refine Tl.step (fun k => by rw [classic_Evaluate.l1]) ?_
    refine Tl.neg (by omega) (Tl.val ?_ (Tl.now _))
    rw [tab_congr]
    intro p hp
    exact ite_iff ⟨fun h => h.2, fun h => ⟨by omega, h⟩⟩
  | succ d ih =>
    intro i hd hi
    have hb := (bits_nat i mask (by omega) (by omega)).1
    refine Tl.step (fun k => by rw [classic_Evaluate.l1]) ?_
    refine Tl.pos (by omega) ?_
    rw [hb, w64s i (by omega)]
    by_cases e : i &&& mask = mask
    · refine Tl.pos (by rw [e]) (Tl.pos (by omega) (Tl.pos (by simp; omega) ?_))
      have := ih (i + 1) (by omega) (by omega)
      rw [toNat_nat, tab_set _ _ (by omega)]
      rw [tab_congr (h := fun p => if p < i + 1 ∧ p &&& mask = mask then 1 else 0)]
      · exact this
      · intro p hp
        by_cases e2 : p = i
        · subst e2; simp [e]
        · rw [if_neg e2]; exact ite_iff ⟨fun h => ⟨by omega, h.2⟩, fun h => ⟨by omega, h.2⟩⟩
    · refine Tl.neg (by omega) ?_
      have := ih (i + 1) (by omega) (by omega)
      rw [tab_congr (h := fun p => if p < i + 1 ∧ p &&& mask = mask then 1 else 0)]
      · exact this
      · intro p hp
        by_cases e2 : p = i
        · subst e2; simp [e]
        · exact ite_iff ⟨fun h => ⟨by omega, h.2⟩, fun h => ⟨by omega, h.2⟩⟩
theorem cE_go (m : Nat) (hm : m ≤ 6) (vars : List Int) (hl : vars.length < 9223372036854775808) : ∀ (d i : Nat) (a : Nat) (prev : Int), vars.length - i = d → i ≤ vars.length → -1 ≤ prev → a < 2 ^ m → (i = 0 → prev = -1) → (0 < i → prev = vars.getD (i - 1) 0) →
    Tl (fun k => classic_Evaluate.l0 k (m : Int) vars (a : Int) vars (vars.length : Int) (i : Int)) (bif ascB m prev (vars.drop i) then (evT m (maskOf (vars.drop i) a), 0) else ([], 5)) := by
  have hp : 2 ^ m ≤ 64 := Nat.pow_le_pow_right (by decide) hm
  intro d
  induction d with
  | zero =>
    intro i a prev hd hi h1 ha h0 hs
    rw [List.drop_of_length_le (by omega)]
    refine Tl.step (fun k => by rw [classic_Evaluate.l0]) ?_
    rw [shl1 m (by omega)]
    refine Tl.neg (by omega) (Tl.pos (by omega) (Tl.pos (by omega) (Tl.pos (by rw [toNat_nat]; omega) ?_)))
    refine Tl.bind1 rfl ?_
    rw [toNat_nat, tab_rep, tab_length]
    have := cE_fill a (2 ^ m) (by omega) hp (2 ^ m) 0 (by omega) (by omega)
    rw [tab_congr (h := fun _ => 0) (fun p _ => if_neg (by omega))] at this
    exact this
  | succ d ih =>
    intro i a prev hd hi h1 ha h0 hs
    have hlt : i < vars.length := by omega
    rw [drop_cons hlt]
    generalize hv : vars.getD i 0 = v
    have hr : rd vars (i : Int) = v := hv
    simp only [ascB, maskOf]
    refine Tl.step (fun k => by rw [classic_Evaluate.l0]) ?_
    rw [hr]
    refine Tl.pos (by omega) (Tl.pos (by omega) (Tl.pos (by omega) ?_))
    by_cases hneg : v < 0
    · refine Tl.pos hneg (Tl.val ?_ (Tl.now _))
      rw [decide_eq_false (show ¬ prev < v by omega)]; rfl
    refine Tl.neg hneg ?_
    by_cases hbig : v ≥ m
    · refine Tl.pos hbig (Tl.val ?_ (Tl.now _))
      rw [decide_eq_false (show ¬ v < (m : Int) by omega), Bool.and_false]; rfl
    refine Tl.neg hbig ?_
    obtain ⟨u, rfl⟩ := Int.eq_ofNat_of_zero_le (show 0 ≤ v by omega)
    have hu : 2 ^ u < 2 ^ m := Nat.pow_lt_pow_right (by decide) (by omega)
    have hnext : prev < (u : Int) → Tl (fun k => classic_Evaluate.l0 k (m : Int) vars (Go.bits .or .i64 (a : Int) (shl .i64 1 (u : Int))) vars (vars.length : Int) (wrap64 ((i : Int) + 1)))
        (bif ascB m (u : Int) (vars.drop (i + 1)) then (evT m (maskOf (vars.drop (i + 1)) (a ||| 2 ^ u)), 0) else ([], 5)) := by
      intro hlt2
      rw [shl1 u (by omega), (bits_nat a (2 ^ u) (by omega) (by omega)).2, w64s i (by omega)]
      exact ih (i + 1) (a ||| 2 ^ u) (u : Int) (by omega) (by omega) (by omega) (Nat.or_lt_two_pow ha hu) (by omega) (fun _ => by simpa using hv.symm)
    by_cases hi0 : i = 0
    · subst hi0
      have := h0 rfl
      refine Tl.neg (by omega) (Tl.pos (by omega) ?_)
      refine Tl.val ?_ (hnext (by omega))
      rw [decide_eq_true (show prev < (u : Int) by omega), decide_eq_true (show (u : Int) < (m : Int) by omega)]; rfl
    · have hw : wrap64 ((i : Int) - 1) = ((i - 1 : Nat) : Int) := by rw [w64 (by omega) (by omega)]; omega
      have hpv := hs (by omega)
      refine Tl.pos (by omega) ?_
      rw [hw, rd_nat, ← hpv]
      refine Tl.pos (by omega) (Tl.pos (by omega) ?_)
      by_cases hle : (u : Int) ≤ prev
      · refine Tl.pos hle (Tl.val ?_ (Tl.now _))
        rw [decide_eq_false (show ¬ prev < (u : Int) by omega)]; rfl
      · refine Tl.neg hle (Tl.pos (by omega) ?_)
        refine Tl.val ?_ (hnext (by omega))
        rw [decide_eq_true (show prev < (u : Int) by omega), decide_eq_true (show (u : Int) < (m : Int) by omega)]; rfl
theorem cE_tl (m : Int) (vars : List Int) (hl : vars.length < 9223372036854775808) : Tl (fun k => classic_Evaluate.f k m vars) (evS m vars) := by
  unfold classic_Evaluate.f evS
  by_cases h0 : m < 0
  · refine Tl.pos h0 ?_
    refine Tl.step (fun k => by rw [classic_Evaluate.j0]) ?_
    exact Tl.pos rfl (Tl.val (by rw [if_pos (.inl h0)]) (Tl.now _))
  · refine Tl.neg h0 ?_
    by_cases h6 : 6 < m
    · refine Tl.step (fun k => by rw [classic_Evaluate.j0]) ?_
      exact Tl.pos (by simpa using h6) (Tl.val (by rw [if_pos (.inr h6)]) (Tl.now _))
    · obtain ⟨n, rfl⟩ := Int.eq_ofNat_of_zero_le (show 0 ≤ m by omega)
      refine Tl.step (fun k => by rw [classic_Evaluate.j0]) ?_
      refine Tl.neg (by simp; omega) ?_
      rw [if_neg (by omega)]
      have := cE_go n (by omega) vars hl vars.length 0 0 (-1) (by omega) (by omega) (by omega) (Nat.pow_pos (by decide)) (by omega) (by omega)
      simpa using this
end Go.Proofs.Ytjelamodjpepkaa.B
