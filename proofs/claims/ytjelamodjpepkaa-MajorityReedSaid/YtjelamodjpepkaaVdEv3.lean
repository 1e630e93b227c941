/- What the votes of the program and of the reference come to: the same lists. -/
import Derived.Test.YtjelamodjpepkaaVdEv2
namespace Go.Proofs.Ytjelamodjpepkaa.B
open Go.RowKit Go.Proofs.YtjelamodjpepkaaW.PrintWords Go.Proofs.YtjelamodjpepkaaW.PrintMore Go.Proofs.Ytjelamodjpepkaa.P
set_option linter.unusedVariables false

def Bit (x : Int) : Prop := x = 0 ∨ x = 1
theorem bit_mod (x : Int) : Bit (x % 2) := by unfold Bit; omega
theorem isBits_get {y : List Int} (h : isBits y = true) (i : Nat) : Bit (y.getD i 0) := by
  unfold isBits at h
  rw [List.all_eq_true] at h
  rw [List.getD_eq_getElem?_getD]
  by_cases hi : i < y.length
  · rw [List.getElem?_eq_getElem hi]
    have := h _ (List.getElem_mem hi)
    simpa [Bit] using this
  · rw [List.getElem?_eq_none (by omega)]; exact .inl rfl
theorem xor_bit {a b : Int} (ha : Bit a) (hb : Bit b) : Go.bits .xor .i64 a b = (a + b) % 2 := by
  rcases ha with rfl | rfl <;> rcases hb with rfl | rfl <;> decide +kernel
def sumL (y : List Int) (l : List Nat) : Int := (l.map (fun s => y.getD s 0)).sum
theorem sumL_append (y : List Int) (a b : List Nat) : sumL y (a ++ b) = sumL y a + sumL y b := by simp [sumL]
theorem sumL_reverse (y : List Int) : ∀ l : List Nat, sumL y l.reverse = sumL y l
  | [] => rfl
  | a :: l => by
    rw [List.reverse_cons, sumL_append, sumL_reverse y l]
    simp [sumL]; omega
/-- The submasks, in the order in which the program goes through them. -/
def subL : Nat → Nat → Nat → List Nat
  | 0, _, _ => []
  | f + 1, mask, sub => sub :: if sub = 0 then [] else subL f mask ((sub - 1) &&& mask)
/-- The points of a vote. -/
def ptsOf (n mask p : Nat) : List Nat := (List.range n).filter fun s => s - (s &&& mask) == p
def voteS (n mask : Nat) (y : List Int) (p : Nat) : Int := sumL y (ptsOf n mask p) % 2
def votesS (n mask : Nat) (y : List Int) : List Int := ((List.range n).filter fun p => p &&& mask == 0).map (voteS n mask y)
theorem pts_subs (m : Nat) (hm : m < 7) (mask : Nat) (h : mask < 2 ^ m) (p : Nat) (hp : p < 2 ^ m) (h0 : p &&& mask = 0) : ((subL 64 mask mask).map (p ||| ·)).reverse = ptsOf (2 ^ m) mask p := by
  have H : ∀ m, m < 7 → ∀ mask, mask < 2 ^ m → ∀ p, p < 2 ^ m → p &&& mask = 0 → ((subL 64 mask mask).map (p ||| ·)).reverse = ptsOf (2 ^ m) mask p := by decide +kernel
  exact H m hm mask h p hp h0
theorem votes_in (y : List Int) (hy : isBits y = true) (n mask p : Nat) (hn : n ≤ 64) (hyn : y.length = n) (hmask : mask < 64) (hp : p < n) (out : List Int) (R : List Int) (hpm : ∀ s, s ≤ mask → s &&& mask = s → p ||| s < n)
    (ho : out.length < 64)
    (hnext : ∀ v, Tl (fun k => majority_votes.l0 k y (mask : Int) (out ++ [v]) (n : Int) ((p : Int) + 1)) R ∨ v ≠ sumL y ((subL 64 mask mask).map (p ||| ·)) % 2) :
    ∀ (f sub : Nat) (acc : Int), sub < f → sub ≤ mask → sub &&& mask = sub → Bit acc → (acc + sumL y ((subL f mask sub).map (p ||| ·))) % 2 = sumL y ((subL 64 mask mask).map (p ||| ·)) % 2 →
    Tl (fun k => majority_votes.l1 k y (mask : Int) out (p : Int) acc (sub : Int) (n : Int) (p : Int)) R := by
  intro f
  induction f with
  | zero => intro sub acc h; omega
  | succ f ih =>
    intro sub acc hf hs hsub hacc hsum
    have hps := hpm sub hs hsub
    have hb := isBits_get hy (p ||| sub)
    refine Tl.step (fun k => by rw [majority_votes.l1]) ?_
    rw [(bits_nat p sub (by omega) (by omega)).2, rd_nat, xor_bit hacc hb]
    refine Tl.pos (by omega) (Tl.pos (by omega) ?_)
    by_cases h0 : sub = 0
    · subst h0
      refine Tl.pos rfl (Tl.pos (by omega) ?_)
      rw [w64 (by omega) (by omega)]
      rcases hnext ((acc + y.getD (p ||| 0) 0) % 2) with h | h
      · exact h
      · refine absurd ?_ h
        rw [← hsum]
        simp [subL, sumL]
    · refine Tl.neg (by omega) ?_
      have hw : wrap64 ((sub : Int) - 1) = ((sub - 1 : Nat) : Int) := by rw [w64 (by omega) (by omega)]; omega
      rw [hw, (bits_nat (sub - 1) mask (by omega) (by omega)).1]
      have hle : (sub - 1) &&& mask ≤ sub - 1 := Nat.and_le_left
      refine ih _ _ (by omega) (by omega) ?_ (bit_mod _) ?_
      · rw [Nat.and_assoc, Nat.and_self]
      · rw [← hsum]
        simp only [subL, h0, if_false, List.map_cons, sumL, List.sum_cons]
        omega
theorem votes_go (m : Nat) (hm : m < 7) (y : List Int) (hy : isBits y = true) (hyn : y.length = 2 ^ m) (mask : Nat) (hmask : mask < 2 ^ m) : ∀ (d i : Nat) (out : List Int), i + d = 2 ^ m → out.length ≤ i →
    Tl (fun k => majority_votes.l0 k y (mask : Int) out ((2 ^ m : Nat) : Int) (i : Int)) (out ++ ((List.range' i d).filter fun p => p &&& mask == 0).map (voteS (2 ^ m) mask y)) := by
  have h64 : 2 ^ m ≤ 2 ^ 6 := Nat.pow_le_pow_right (by decide) (by omega)
  intro d
  induction d with
  | zero =>
    intro i out hd ho
    refine Tl.step (fun k => by rw [majority_votes.l0]) ?_
    refine Tl.neg (by omega) (Tl.val (by simp) (Tl.now _))
  | succ d ih =>
    intro i out hd ho
    rw [List.range'_succ]
    refine Tl.step (fun k => by rw [majority_votes.l0]) ?_
    rw [(bits_nat i mask (by omega) (by omega)).1]
    refine Tl.pos (by omega) ?_
    by_cases h0 : i &&& mask = 0
    · refine Tl.pos (by omega) ?_
      rw [List.filter_cons_of_pos (by simpa using h0), List.map_cons]
      refine votes_in y hy (2 ^ m) mask i (by omega) hyn (by omega) (by omega) out _ ?_ (by omega) ?_ 64 mask 0 (by omega) (Nat.le_refl _) (Nat.and_self _) (.inl rfl) (by simp)
      · intro s _ h2
        exact Nat.or_lt_two_pow (by omega) (by omega)
      · intro v
        by_cases e : v = sumL y ((subL 64 mask mask).map (i ||| ·)) % 2
        · refine .inl ?_
          have := ih (i + 1) (out ++ [v]) (by omega) (by simp; omega)
          refine Tl.val ?_ this
          rw [e, List.append_assoc]
          unfold voteS
          rw [← pts_subs m hm mask hmask i (by omega) h0, sumL_reverse]
          rfl
        · exact .inr e
    · refine Tl.neg (by omega) ?_
      rw [List.filter_cons_of_neg (by simpa using h0), w64s i (by omega)]
      exact ih (i + 1) out (by omega) (by omega)
theorem votes_tl (m : Nat) (hm : m < 7) (y : List Int) (hy : isBits y = true) (hyn : y.length = 2 ^ m) (mask : Nat) (hmask : mask < 2 ^ m) : Tl (fun k => majority_votes.f k y (mask : Int)) (votesS (2 ^ m) mask y) := by
  unfold majority_votes.f votesS
  rw [hyn, List.range_eq_range']
  simpa using votes_go m hm y hy hyn mask hmask (2 ^ m) 0 [] (by omega) (by simp)
theorem mask_go (vars : List Int) (hl : vars.length < 9223372036854775808) (hv : ∀ v ∈ vars, 0 ≤ v ∧ v < 6) : ∀ (d i a : Nat), vars.length - i = d → i ≤ vars.length → a < 64 →
    Tl (fun k => majority_mask.l0 k (a : Int) vars (vars.length : Int) (i : Int)) (maskOf (vars.drop i) a : Int) := by
  intro d
  induction d with
  | zero =>
    intro i a hd hi ha
    rw [List.drop_of_length_le (by omega)]
    refine Tl.step (fun k => by rw [majority_mask.l0]) ?_
    exact Tl.neg (by omega) (Tl.now _)
  | succ d ih =>
    intro i a hd hi ha
    have hlt : i < vars.length := by omega
    have hmem := hv _ (List.getElem_mem hlt)
    obtain ⟨u, hu⟩ := Int.eq_ofNat_of_zero_le hmem.1
    have hr : vars.getD i 0 = (u : Int) := by rw [List.getD_eq_getElem?_getD, List.getElem?_eq_getElem hlt]; exact hu
    rw [drop_cons hlt, hr]
    have hu2 : 2 ^ u < 2 ^ 6 := Nat.pow_lt_pow_right (by decide) (by omega)
    refine Tl.step (fun k => by rw [majority_mask.l0]) ?_
    rw [rd_nat, hr, shl1 u (by omega), (bits_nat a (2 ^ u) (by omega) (by omega)).2, w64s i (by omega)]
    refine Tl.pos (by omega) (Tl.pos (by omega) (Tl.pos (by omega) (Tl.pos (by omega) ?_)))
    exact ih (i + 1) (a ||| 2 ^ u) (by omega) (by omega) (Nat.or_lt_two_pow (n := 6) (by omega) (by omega))
theorem mask_tl (vars : List Int) (hl : vars.length < 9223372036854775808) (hv : ∀ v ∈ vars, 0 ≤ v ∧ v < 6) : Tl (fun k => majority_mask.f k vars) (maskOf vars 0 : Int) := by
  unfold majority_mask.f
  simpa using mask_go vars hl hv _ 0 0 rfl (by omega) (by omega)
/-- What Votes answers. -/
def vS (m : Int) (vars y : List Int) : List Int × Int :=
  if (evS m vars).2 = 0 then (if bitsS (2 ^ m.toNat) y = 0 then (votesS (2 ^ m.toNat) (maskOf vars 0) y, 0) else ([], bitsS (2 ^ m.toNat) y)) else ([], (evS m vars).2)
theorem evS_ok {m : Int} {vars : List Int} (h : (evS m vars).2 = 0) : ∃ n : Nat, m = n ∧ n ≤ 6 ∧ ascB n (-1) vars = true := by
  unfold evS at h
  by_cases h1 : m < 0 ∨ 6 < m
  · rw [if_pos h1] at h; exact absurd h (by decide)
  · rw [if_neg h1] at h
    obtain ⟨n, rfl⟩ := Int.eq_ofNat_of_zero_le (show 0 ≤ m by omega)
    refine ⟨n, rfl, by omega, ?_⟩
    cases ha : ascB (n : Int) (-1) vars with
    | true => rfl
    | false => rw [ha] at h; exact absurd (show (5 : Int) = 0 from h) (by decide)
theorem bitsS_ok {n : Nat} {y : List Int} (h : bitsS n y = 0) : y.length = n ∧ isBits y = true := by
  unfold bitsS at h
  by_cases e : y.length = n
  · rw [if_pos e] at h
    cases hb : isBits y with
    | true => exact ⟨e, rfl⟩
    | false => rw [hb] at h; exact absurd h (by decide)
  · rw [if_neg e] at h; exact absurd h (by decide)
theorem Votes_tl (m : Int) (vars y : List Int) (hl : vars.length < 9223372036854775808) (hy : y.length < 9223372036854775808) : Tl (fun k => majority_Votes.f k m vars y) (vS m vars y) := by
  unfold majority_Votes.f vS
  refine Tl.bind (cE_tl m vars hl) ?_
  by_cases h : (evS m vars).2 = 0
  · rw [if_pos h]
    refine Tl.pos h ?_
    obtain ⟨n, rfl, hn, ha⟩ := evS_ok h
    rw [toNat_nat]
    refine Tl.bind (bits_tl n hn y hy) ?_
    by_cases hb : bitsS (2 ^ n) y = 0
    · rw [if_pos hb]
      obtain ⟨hlen, hbits⟩ := bitsS_ok hb
      have hv := asc_nonneg _ vars (-1) (by omega) ha
      refine Tl.pos hb (Tl.bind (mask_tl vars hl (fun v hv' => by have := hv v hv'; omega)) (Tl.bind ?_ (Tl.now _)))
      exact votes_tl n (by omega) y hbits hlen _ (maskOf_lt n vars 0 (-1) (by omega) ha (Nat.pow_pos (by decide)))
    · rw [if_neg hb]
      exact Tl.neg hb (Tl.now _)
  · rw [if_neg h]
    exact Tl.neg h (Tl.now _)

/-! ### The reference's votes -/
theorem rmask_go (vars : List Int) (hl : vars.length < 9223372036854775808) (y : List Int) (R : List Int × Int) : ∀ (d i a : Nat) (prev : Int), vars.length - i = d → i ≤ vars.length → -1 ≤ prev → prev < 6 → a < 2 ^ (prev + 1).toNat → ascB 6 prev (vars.drop i) = true →
    Tl (fun k => codewrightref43_Votes.l1 k y (maskOf (vars.drop i) a : Int) [] 0) R → 
    Tl (fun k => codewrightref43_Votes.l0 k vars y (a : Int) (i : Int)) R := by
  intro d
  induction d with
  | zero =>
    intro i a prev hd hi h1 h6 ha hasc h
    rw [List.drop_of_length_le (by omega)] at h
    refine Tl.step (fun k => by rw [codewrightref43_Votes.l0]) ?_
    exact Tl.neg (by omega) h
  | succ d ih =>
    intro i a prev hd hi h1 h6 ha hasc h
    have hlt : i < vars.length := by omega
    rw [drop_cons hlt] at h hasc
    generalize hv : vars.getD i 0 = v at h hasc
    simp only [ascB, Bool.and_eq_true, decide_eq_true_eq] at hasc
    obtain ⟨u, rfl⟩ := Int.eq_ofNat_of_zero_le (show 0 ≤ v by omega)
    have hlo : a < 2 ^ u := Nat.lt_of_lt_of_le ha (Nat.pow_le_pow_right (by decide) (by omega))
    have hu2 : 2 ^ u < 2 ^ 6 := Nat.pow_lt_pow_right (by decide) (by omega)
    have hor : a ||| 2 ^ u = a + 2 ^ u := by
      have := Nat.two_pow_add_eq_or_of_lt hlo 1
      rw [Nat.or_comm, Nat.add_comm]
      simpa using this.symm
    refine Tl.step (fun k => by rw [codewrightref43_Votes.l0]) ?_
    rw [rd_nat, hv, u64 (by omega) (by omega), shl1 u (by omega), w64 (by omega) (by omega), w64s i (by omega)]
    refine Tl.pos (by omega) (Tl.pos (by omega) (Tl.pos (by omega) ?_))
    have := ih (i + 1) (a ||| 2 ^ u) (u : Int) (by omega) (by omega) (by omega) (by omega) ?_ hasc.2 h
    · rw [hor] at this
      exact this
    · rw [hor, show ((u : Int) + 1).toNat = u + 1 from by omega, Nat.pow_succ]
      omega
theorem sumL_cons (y : List Int) (a : Nat) (l : List Nat) : sumL y (a :: l) = y.getD a 0 + sumL y l := rfl
theorem rvotes_in (y : List Int) (hy : isBits y = true) (n mask p : Nat) (hn : n ≤ 64) (hyn : y.length = n) (hmask : mask < 64) (hp : p < n) (out : List Int) (R : List Int × Int) (ho : out.length < 64)
    (hnext : ∀ v, v = voteS n mask y p → Tl (fun k => codewrightref43_Votes.l1 k y (mask : Int) (out ++ [v]) ((p : Int) + 1)) R) :
    ∀ (d s : Nat) (acc : Int), s + d = n → 0 ≤ acc → acc ≤ s → acc + sumL y ((List.range' s d).filter fun s => s - (s &&& mask) == p) = sumL y (ptsOf n mask p) →
    Tl (fun k => codewrightref43_Votes.l2 k y (mask : Int) out (p : Int) acc (s : Int)) R := by
  intro d
  induction d with
  | zero =>
    intro s acc hd h0 hs hsum
    refine Tl.step (fun k => by rw [codewrightref43_Votes.l2]) ?_
    refine Tl.neg (by omega) (Tl.pos (by omega) ?_)
    rw [w64 (by omega) (by omega)]
    refine hnext _ ?_
    unfold voteS
    rw [← hsum, Int.tmod_eq_emod_of_nonneg h0]
    simp [sumL]
  | succ d ih =>
    intro s acc hd h0 hs hsum
    have hb := isBits_get hy s
    rw [List.range'_succ] at hsum
    refine Tl.step (fun k => by rw [codewrightref43_Votes.l2]) ?_
    rw [bits_andNot s mask (by omega) (by omega), rd_nat, w64s s (by omega)]
    refine Tl.pos (by omega) ?_
    by_cases e : s - (s &&& mask) = p
    · refine Tl.pos (by omega) (Tl.pos (by omega) ?_)
      rw [List.filter_cons_of_pos (by simpa using e), sumL_cons] at hsum
      unfold Bit at hb
      rw [w64 (by omega) (by omega)]
      exact ih (s + 1) _ (by omega) (by omega) (by omega) (by omega)
    · refine Tl.neg (by omega) ?_
      rw [List.filter_cons_of_neg (by simpa using e)] at hsum
      exact ih (s + 1) acc (by omega) h0 (by omega) hsum
theorem rvotes_go (m : Nat) (hm : m < 7) (y : List Int) (hy : isBits y = true) (hyn : y.length = 2 ^ m) (mask : Nat) (hmask : mask < 2 ^ m) : ∀ (d i : Nat) (out : List Int), i + d = 2 ^ m → out.length ≤ i →
    Tl (fun k => codewrightref43_Votes.l1 k y (mask : Int) out (i : Int)) (out ++ ((List.range' i d).filter fun p => p &&& mask == 0).map (voteS (2 ^ m) mask y), 0) := by
  have h64 : 2 ^ m ≤ 2 ^ 6 := Nat.pow_le_pow_right (by decide) (by omega)
  intro d
  induction d with
  | zero =>
    intro i out hd ho
    refine Tl.step (fun k => by rw [codewrightref43_Votes.l1]) ?_
    refine Tl.neg (by omega) (Tl.val (by simp) (Tl.now _))
  | succ d ih =>
    intro i out hd ho
    rw [List.range'_succ]
    refine Tl.step (fun k => by rw [codewrightref43_Votes.l1]) ?_
    rw [(bits_nat i mask (by omega) (by omega)).1]
    refine Tl.pos (by omega) ?_
    by_cases h0 : i &&& mask = 0
    · refine Tl.pos (by omega) ?_
      rw [List.filter_cons_of_pos (by simpa using h0), List.map_cons]
      refine rvotes_in y hy (2 ^ m) mask i (by omega) hyn (by omega) (by omega) out _ (by omega) ?_ (2 ^ m) 0 0 (by omega) (by omega) (by omega) ?_
      · intro v e
        have := ih (i + 1) (out ++ [v]) (by omega) (by simp; omega)
        refine Tl.val ?_ this
        rw [e, List.append_assoc]
        rfl
      · unfold ptsOf
        rw [List.range_eq_range']
        omega
    · refine Tl.neg (by omega) ?_
      rw [List.filter_cons_of_neg (by simpa using h0), w64s i (by omega)]
      exact ih (i + 1) out (by omega) (by omega)
theorem asc_six {m : Int} (hm : m ≤ 6) : ∀ (vs : List Int) (prev : Int), ascB m prev vs = true → ascB 6 prev vs = true
  | [], _, _ => rfl
  | v :: vs, prev, h => by
    simp only [ascB, Bool.and_eq_true, decide_eq_true_eq] at h ⊢
    exact ⟨⟨h.1.1, by omega⟩, asc_six hm vs v h.2⟩
theorem rVotes_tl (m : Int) (vars y : List Int) (hl : vars.length < 9223372036854775808) (hy : y.length < 9223372036854775808) : Tl (fun k => codewrightref43_Votes.f k m vars y) (vS m vars y) := by
  unfold codewrightref43_Votes.f vS
  refine Tl.bind (rE_tl m vars hl) ?_
  by_cases h : (evS m vars).2 = 0
  · rw [if_pos h]
    refine Tl.pos h ?_
    obtain ⟨n, rfl, hn, ha⟩ := evS_ok h
    rw [toNat_nat, u64 (by omega) (by omega), shl1 n (by omega)]
    refine Tl.pos (by omega) (Tl.bind (rbits_tl _ y hy) ?_)
    refine Tl.step (fun k => by rw [codewrightref43_Votes.j0]) ?_
    by_cases hb : bitsS (2 ^ n) y = 0
    · rw [if_pos hb]
      obtain ⟨hlen, hbits⟩ := bitsS_ok hb
      refine Tl.pos hb ?_
      have := rmask_go vars hl y (votesS (2 ^ n) (maskOf vars 0) y, 0) _ 0 0 (-1) rfl (by omega) (by omega) (by omega) (by decide) (asc_six (by omega) _ _ ha) ?_
      · exact this
      · have := rvotes_go n (by omega) y hbits hlen (maskOf vars 0) (maskOf_lt n vars 0 (-1) (by omega) ha (Nat.pow_pos (by decide))) (2 ^ n) 0 [] (by omega) (by simp)
        unfold votesS
        rw [List.range_eq_range']
        simpa using this
    · rw [if_neg hb]
      exact Tl.neg hb (Tl.now _)
  · rw [if_neg h]
    refine Tl.neg h ?_
    refine Tl.step (fun k => by rw [codewrightref43_Votes.j0]) ?_
    exact Tl.neg h (Tl.now _)
theorem alive43_tl : Tl (fun k => codewrightlaw43_alive.f k) true := by
  unfold codewrightlaw43_alive.f
  refine Tl.bind (Votes_tl 1 [] [1, 0] (by decide) (by decide)) ?_
  have e : vS 1 [] [1, 0] = ([1, 0], 0) := by decide +kernel
  rw [e]
  exact Tl.one (by decide +kernel)
theorem MajorityVotes_tl (m : Int) (vars y : List Int) (hl : vars.length < 9223372036854775808) (hy : y.length < 9223372036854775808) : Tl (fun k => codewrightlaw43_MajorityVotes.f k m vars y) true := by
  unfold codewrightlaw43_MajorityVotes.f
  refine Tl.bind (Votes_tl m vars y hl hy) (Tl.bind (rVotes_tl m vars y hl hy) (Tl.pos rfl ?_))
  refine Tl.bind (same_tl _ _ ?_) (Tl.pos (by simp) (Tl.bind alive43_tl (Tl.now _)))
  unfold vS
  split
  · rename_i h
    obtain ⟨n, rfl, hn, ha⟩ := evS_ok h
    have h64 : 2 ^ n ≤ 2 ^ 6 := Nat.pow_le_pow_right (by decide) (by omega)
    split
    · unfold votesS
      rw [List.length_map]
      have := List.length_filter_le (fun p => p &&& maskOf vars 0 == 0) (List.range (2 ^ (n : Int).toNat))
      rw [toNat_nat] at this ⊢
      simp only [List.length_range] at this
      omega
    · exact (by decide : 0 < 9223372036854775808)
  · exact (by decide : 0 < 9223372036854775808)
end Go.Proofs.Ytjelamodjpepkaa.B
