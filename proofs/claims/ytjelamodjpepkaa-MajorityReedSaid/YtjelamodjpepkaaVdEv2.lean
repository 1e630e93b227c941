/- What the reference's evaluation of monomials, the checks of words, and the votes come to. -/
import Derived.Test.YtjelamodjpepkaaVdEv1
namespace Go.Proofs.Ytjelamodjpepkaa.B
open Go.RowKit Go.Proofs.YtjelamodjpepkaaW.PrintWords Go.Proofs.YtjelamodjpepkaaW.PrintMore Go.Proofs.Ytjelamodjpepkaa.P
set_option linter.unusedVariables false

/-! ### IsSubset -/
theorem sub_go (m : Int) (vars : List Int) (hl : vars.length < 9223372036854775808) : ∀ (d i : Nat) (prev : Int), vars.length - i = d → i ≤ vars.length → -1 ≤ prev → (i = 0 → prev = -1) → (0 < i → prev = vars.getD (i - 1) 0) →
    Tl (fun k => codewrightref11_IsSubset.l0 k m vars (i : Int)) (ascB m prev (vars.drop i)) := by
  intro d
  induction d with
  | zero =>
    intro i prev hd hi h1 h0 hs
    rw [List.drop_of_length_le (by omega)]
    refine Tl.step (fun k => by rw [codewrightref11_IsSubset.l0]) ?_
    exact Tl.neg (by omega) (Tl.now _)
  | succ d ih =>
    intro i prev hd hi h1 h0 hs
    have hlt : i < vars.length := by omega
    rw [drop_cons hlt]
    generalize hv : vars.getD i 0 = v
    have hr : rd vars (i : Int) = v := hv
    simp only [ascB]
    refine Tl.step (fun k => by rw [codewrightref11_IsSubset.l0]) ?_
    rw [hr]
    refine Tl.pos (by omega) (Tl.pos (by omega) ?_)
    by_cases hneg : v < 0
    · refine Tl.pos hneg ?_
      refine Tl.step (fun k => by rw [codewrightref11_IsSubset.j1]) ?_
      refine Tl.pos rfl (Tl.val ?_ (Tl.now _))
      rw [decide_eq_false (show ¬ prev < v by omega)]; rfl
    refine Tl.neg hneg ?_
    refine Tl.step (fun k => by rw [codewrightref11_IsSubset.j1]) ?_
    by_cases hbig : v ≥ m
    · refine Tl.pos (by simpa using hbig) (Tl.val ?_ (Tl.now _))
      rw [decide_eq_false (show ¬ v < m by omega), Bool.and_false]; rfl
    refine Tl.neg (by simpa using hbig) ?_
    by_cases hi0 : i = 0
    · subst hi0
      have := h0 rfl
      refine Tl.neg (by omega) ?_
      rw [w64s 0 (by omega), decide_eq_true (show prev < v by omega), decide_eq_true (show v < m by omega)]
      exact ih 1 v (by omega) (by omega) (by omega) (by omega) (fun _ => by simpa using hv.symm)
    · have hw : wrap64 ((i : Int) - 1) = ((i - 1 : Nat) : Int) := by rw [w64 (by omega) (by omega)]; omega
      have hpv := hs (by omega)
      rw [hw, hr, rd_nat, ← hpv]
      refine Tl.pos (by omega) (Tl.pos (by omega) (Tl.pos (by omega) (Tl.pos (by omega) (Tl.pos (by omega) ?_))))
      by_cases hle : v ≤ prev
      · refine Tl.pos hle (Tl.val ?_ (Tl.now _))
        rw [decide_eq_false (show ¬ prev < v by omega)]; rfl
      · refine Tl.neg hle ?_
        rw [w64s i (by omega), decide_eq_true (show prev < v by omega), decide_eq_true (show v < m by omega)]
        exact ih (i + 1) v (by omega) (by omega) (by omega) (by omega) (fun _ => by simpa using hv.symm)
theorem sub_tl (m : Int) (vars : List Int) (hl : vars.length < 9223372036854775808) : Tl (fun k => codewrightref11_IsSubset.f k m vars) (ascB m (-1) vars) := by
  unfold codewrightref11_IsSubset.f
  exact sub_go m vars hl _ 0 (-1) rfl (by omega) (by omega) (by omega) (by omega)

/-! ### The reference's Evaluate -/
/-- The value of a monomial at a point. -/
def evP (vars : List Int) (p : Nat) : Int := if ∀ v ∈ vars, p.testBit v.toNat = true then 1 else 0
theorem shr_bit (p v : Nat) (hp : p < 64) (hv : v < 64) : Go.bits .and .i64 (shr .i64 (p : Int) (v : Int)) 1 = ((p.testBit v).toNat : Int) := by
  have h : ∀ p, p < 64 → ∀ v, v < 64 → Go.bits .and .i64 (shr .i64 ((p : Nat) : Int) ((v : Nat) : Int)) 1 = ((p.testBit v).toNat : Int) := by decide +kernel
  exact h p hp v hv

theorem rE_in (vars : List Int) (hl : vars.length < 9223372036854775808) (hv : ∀ v ∈ vars, 0 ≤ v ∧ v < 6) (n q : Nat) (hn : n ≤ 64) (hq : q < n) (R : List Int × Int) (g : Nat → Int)
    (hnext : ∀ c : Int, c = evP vars q → Tl (fun k => codewrightref15_Evaluate.l0 k vars (tab n (fun p => if p = q then c else g p)) ((q : Int) + 1)) R) :
    ∀ (d i : Nat) (c : Int), vars.length - i = d → i ≤ vars.length → c = evP (vars.take i) q → 
    Tl (fun k => codewrightref15_Evaluate.l1 k vars (tab n (fun p => if p = q then c else g p)) (q : Int) (i : Int)) R := by
  intro d
  induction d with
  | zero =>
    intro i c hd hi hc
    rw [List.take_of_length_le (by omega)] at hc
    refine Tl.step (fun k => by rw [codewrightref15_Evaluate.l1]) ?_
    refine Tl.neg (by omega) ?_
    rw [w64 (by omega) (by omega)]
    exact hnext c hc
  | succ d ih =>
    intro i c hd hi hc
    have hlt : i < vars.length := by omega
    have hmem := hv _ (List.getElem_mem hlt)
    obtain ⟨u, hu⟩ := Int.eq_ofNat_of_zero_le hmem.1
    have hr : rd vars (i : Int) = (u : Int) := by rw [rd_nat, List.getD_eq_getElem?_getD, List.getElem?_eq_getElem hlt]; exact hu
    have ht : vars.take (i + 1) = vars.take i ++ [(u : Int)] := by rw [List.take_succ_eq_append_getElem hlt, hu]
    refine Tl.step (fun k => by rw [codewrightref15_Evaluate.l1]) ?_
    rw [hr, u64 (by omega) (by omega), shr_bit q u (by omega) (by omega), w64s i (by omega)]
    refine Tl.pos (by omega) (Tl.pos (by omega) (Tl.pos (by omega) ?_))
    cases hb : q.testBit u with
    | false =>
      refine Tl.pos (by simp) (Tl.pos (by omega) (Tl.pos (by simp; omega) ?_))
      rw [toNat_nat, tab_set _ _ hq]
      have e : evP (vars.take (i + 1)) q = 0 := by
        unfold evP
        rw [if_neg]
        intro h
        have := h (u : Int) (by rw [ht]; simp)
        rw [toNat_nat, hb] at this
        exact absurd this (by decide)
      have := ih (i + 1) 0 (by omega) (by omega) e.symm
      rw [tab_congr (h := fun p => if p = q then 0 else g p) (fun p _ => by by_cases e : p = q <;> simp [e])]
      exact this
    | true =>
      refine Tl.neg (by simp) ?_
      refine ih (i + 1) c (by omega) (by omega) ?_
      rw [hc, ht]
      unfold evP
      refine ite_iff ?_
      constructor
      · intro h v hv
        rcases List.mem_append.1 hv with hv | hv
        · exact h v hv
        · simp at hv; subst hv; exact hb
      · exact fun h v hv => h v (List.mem_append.2 (.inl hv))
theorem rE_out (vars : List Int) (hl : vars.length < 9223372036854775808) (hv : ∀ v ∈ vars, 0 ≤ v ∧ v < 6) (n : Nat) (hn : n ≤ 64) : ∀ (d i : Nat), n - i = d → i ≤ n →
    Tl (fun k => codewrightref15_Evaluate.l0 k vars (tab n (fun p => if p < i then evP vars p else 0)) (i : Int)) (tab n (evP vars), 0) := by
  intro d
  induction d with
  | zero =>
    intro i hd hi
    refine Tl.step (fun k => by rw [codewrightref15_Evaluate.l0]) ?_
    refine Tl.neg (by simp; omega) (Tl.val ?_ (Tl.now _))
    rw [tab_congr (h := evP vars) (fun p hp => if_pos (by omega))]
  | succ d ih =>
    intro i hd hi
    refine Tl.step (fun k => by rw [codewrightref15_Evaluate.l0]) ?_
    refine Tl.pos (by simp; omega) (Tl.pos (by omega) ?_)
    rw [toNat_nat, tab_set _ _ (by omega)]
    have := rE_in vars hl hv n i hn (by omega) (tab n (evP vars), 0) (fun p => if p < i then evP vars p else 0) ?_ vars.length 0 1 (by omega) (by omega) (by simp [evP])
    · exact this
    · intro c hc
      have := ih (i + 1) (by omega) (by omega)
      rw [tab_congr (h := fun p => if p < i + 1 then evP vars p else 0)]
      · exact this
      · intro p hp
        by_cases e : p = i
        · subst e; rw [if_pos rfl, if_pos (by omega), hc]
        · rw [if_neg e]; exact ite_iff ⟨fun h => by omega, fun h => by omega⟩
theorem evT_eq (m : Nat) (vars : List Int) (hv : ∀ v ∈ vars, 0 ≤ v) : evT m (maskOf vars 0) = tab (2 ^ m) (evP vars) := by
  unfold evT
  refine tab_congr fun p _ => ?_
  unfold evP
  refine ite_iff ?_
  rw [and_eq_iff]
  constructor
  · intro h v hv'
    obtain ⟨u, rfl⟩ := Int.eq_ofNat_of_zero_le (hv v hv')
    exact h u ((maskOf_bit u vars 0 hv).2 (.inr hv'))
  · intro h i hi
    rcases (maskOf_bit i vars 0 hv).1 hi with h' | h'
    · simp at h'
    · exact h i h'
theorem rE_tl (m : Int) (vars : List Int) (hl : vars.length < 9223372036854775808) : Tl (fun k => codewrightref15_Evaluate.f k m vars) (evS m vars) := by
  unfold codewrightref15_Evaluate.f evS
  by_cases h0 : m < 0
  · refine Tl.pos h0 ?_
    refine Tl.step (fun k => by rw [codewrightref15_Evaluate.j0]) ?_
    exact Tl.pos rfl (Tl.val (by rw [if_pos (.inl h0)]) (Tl.now _))
  · refine Tl.neg h0 ?_
    by_cases h6 : 6 < m
    · refine Tl.step (fun k => by rw [codewrightref15_Evaluate.j0]) ?_
      exact Tl.pos (by simpa using h6) (Tl.val (by rw [if_pos (.inr h6)]) (Tl.now _))
    · obtain ⟨n, rfl⟩ := Int.eq_ofNat_of_zero_le (show 0 ≤ m by omega)
      have hp : 2 ^ n ≤ 2 ^ 6 := Nat.pow_le_pow_right (by decide) (by omega)
      refine Tl.step (fun k => by rw [codewrightref15_Evaluate.j0]) ?_
      refine Tl.neg (by simp; omega) ?_
      rw [if_neg (by omega)]
      refine Tl.bind (sub_tl _ vars hl) ?_
      cases ha : ascB (n : Int) (-1) vars with
      | false => exact Tl.neg (by simp) (Tl.now _)
      | true =>
        have hn := asc_nonneg _ vars (-1) (by omega) ha
        rw [u64 (by omega) (by omega), shl1 n (by omega)]
        refine Tl.pos rfl (Tl.pos (by omega) (Tl.pos (Int.natCast_nonneg _) (Tl.pos (by rw [toNat_nat]; omega) ?_)))
        rw [toNat_nat, tab_rep, toNat_nat, evT_eq n vars (fun v hv => (hn v hv).1)]
        have := rE_out vars hl (fun v hv => by have := hn v hv; omega) (2 ^ n) hp _ 0 rfl (Nat.zero_le _)
        rw [tab_congr (h := fun _ => 0) (fun p _ => if_neg (by omega))] at this
        exact this

/-! ### The checks of a word of bits -/
def isBits (y : List Int) : Bool := y.all fun x => decide (x = 0) || decide (x = 1)
def bitsS (n : Nat) (y : List Int) : Int := if y.length = n then (bif isBits y then 0 else 2) else 4
theorem bits_go (y : List Int) (hl : y.length < 9223372036854775808) : ∀ (d i : Nat), y.length - i = d → i ≤ y.length →
    Tl (fun k => majority_bits.l0 k y (y.length : Int) (i : Int)) (bif isBits (y.drop i) then 0 else 2) := by
  intro d
  induction d with
  | zero =>
    intro i hd hi
    rw [List.drop_of_length_le (by omega)]
    refine Tl.step (fun k => by rw [majority_bits.l0]) ?_
    exact Tl.neg (by omega) (Tl.now _)
  | succ d ih =>
    intro i hd hi
    have hlt : i < y.length := by omega
    rw [drop_cons hlt]
    refine Tl.step (fun k => by rw [majority_bits.l0]) ?_
    rw [rd_nat, w64s i (by omega)]
    generalize y.getD i 0 = x
    have := ih (i + 1) (by omega) (by omega)
    refine Tl.pos (by omega) (Tl.pos (by omega) (Tl.pos (by omega) ?_))
    by_cases h0 : x = 0
    · subst h0; exact Tl.pos rfl (by simpa [isBits] using this)
    · refine Tl.neg h0 ?_
      by_cases h1 : x = 1
      · subst h1; exact Tl.pos rfl (by simpa [isBits] using this)
      · refine Tl.neg h1 (Tl.val ?_ (Tl.now _))
        simp [isBits, h0, h1]
theorem bits_tl (m : Nat) (hm : m ≤ 6) (y : List Int) (hl : y.length < 9223372036854775808) : Tl (fun k => majority_bits.f k (m : Int) y) (bitsS (2 ^ m) y) := by
  unfold majority_bits.f bitsS
  rw [shl1 m (by omega)]
  refine Tl.pos (by omega) ?_
  by_cases e : y.length = 2 ^ m
  · rw [if_pos e]
    exact Tl.pos (by rw [e]) (by simpa using bits_go y hl _ 0 rfl (by omega))
  · rw [if_neg e]
    exact Tl.neg (by omega) (Tl.now _)
theorem order2_tl : Tl (fun k => codewrightref04_Order.f k 2 1 []) 2 := by
  unfold codewrightref04_Order.f
  refine Tl.neg (by decide) (Tl.neg (by decide) ?_)
  refine Tl.step (fun k => by rw [codewrightref04_Order.j0]) ?_
  refine Tl.neg (by decide) ?_
  refine Tl.step (fun k => by rw [codewrightref04_Order.l0]) ?_
  rw [w64 (n := Int.tdiv 256 2) (by decide) (by decide), w64 (n := 1 * 2) (by decide) (by decide), w64 (n := 0 + 1) (by decide) (by decide)]
  refine Tl.pos (by decide) (Tl.neg (by decide) (Tl.neg (by decide) ?_))
  refine Tl.step (fun k => by rw [codewrightref04_Order.l0]) ?_
  refine Tl.neg (by decide) (Tl.now _)
theorem is2_tl (x : Int) : Tl (fun k => codewrightref04_Is.f k 2 1 [] x) (decide (x = 0) || decide (x = 1)) := by
  unfold codewrightref04_Is.f
  by_cases h : x ≥ 0
  · refine Tl.pos h (Tl.bind order2_tl (Tl.val ?_ (Tl.now _)))
    by_cases h0 : x = 0
    · subst h0; rfl
    · by_cases h1 : x = 1
      · subst h1; rfl
      · simp [h0, h1]; omega
  · refine Tl.neg h (Tl.val ?_ (Tl.now _))
    simp; omega
theorem ent2_go (y : List Int) (hl : y.length < 9223372036854775808) : ∀ (d i : Nat), y.length - i = d → i ≤ y.length →
    Tl (fun k => codewrightref09_Entries.l0 k y (i : Int) 2 1 []) (bif isBits (y.drop i) then 0 else 2) := by
  intro d
  induction d with
  | zero =>
    intro i hd hi
    rw [List.drop_of_length_le (by omega)]
    refine Tl.step (fun k => by rw [codewrightref09_Entries.l0]) ?_
    exact Tl.neg (by omega) (Tl.now _)
  | succ d ih =>
    intro i hd hi
    have hlt : i < y.length := by omega
    rw [drop_cons hlt]
    refine Tl.step (fun k => by rw [codewrightref09_Entries.l0]) ?_
    rw [rd_nat, w64s i (by omega)]
    generalize y.getD i 0 = x
    have := ih (i + 1) (by omega) (by omega)
    refine Tl.pos (by omega) (Tl.pos (by omega) (Tl.bind (is2_tl x) ?_))
    cases hx : (decide (x = 0) || decide (x = 1)) with
    | true => exact Tl.pos rfl (by simpa [isBits, hx] using this)
    | false => 
      refine Tl.neg (by simp) (Tl.val ?_ (Tl.now _))
      simp only [isBits, List.all_cons, hx, Bool.false_and]; rfl
theorem rbits_tl (n : Nat) (y : List Int) (hl : y.length < 9223372036854775808) : Tl (fun k => codewrightref43_bits.f k y (n : Int)) (bitsS n y) := by
  unfold codewrightref43_bits.f codewrightref15_Two.f
  refine Tl.bind1 rfl ?_
  unfold codewrightref12_List.f bitsS
  by_cases e : y.length = n
  · rw [if_pos e]
    refine Tl.bind (Tl.pos (by rw [e]) (Tl.bind ?_ (Tl.now _))) (Tl.now _)
    unfold codewrightref09_Entries.f
    simpa using ent2_go y hl _ 0 rfl (by omega)
  · rw [if_neg e]
    exact Tl.bind (Tl.neg (by omega) (Tl.now _)) (Tl.now _)
end Go.Proofs.Ytjelamodjpepkaa.B
