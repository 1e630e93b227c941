/- What the reference's Reed answers: the same. -/
import Derived.Test.YtjelamodjpepkaaVdReed3
import Derived.Test.YtjelamodjpepkaaVdP3
namespace Go.Proofs.Ytjelamodjpepkaa.B
open Go.RowKit Go.Proofs.YtjelamodjpepkaaW.PrintWords Go.Proofs.YtjelamodjpepkaaW.PrintMore Go.Proofs.Ytjelamodjpepkaa.P
set_option linter.unusedVariables false

set_option maxRecDepth 100000 in
theorem subsets_check : ((List.range 7).all fun m => (List.range (m + 1)).all fun s => decide (codewrightref11_Subsets.f 400 (m : Int) (s : Int) = some (combs1 s m 0 [], 0))) = true := by decide +kernel
theorem subsets_tl (m : Nat) (hm : m < 7) (s : Nat) (hs : s ≤ m) : Tl (fun k => codewrightref11_Subsets.f k (m : Int) (s : Int)) (combs1 s m 0 [], 0) := by
  have h := subsets_check
  rw [List.all_eq_true] at h
  have h2 := h m (by simpa using hm)
  rw [List.all_eq_true] at h2
  exact Tl.of2 (codewrightref11_Subsets.mono _ _) (of_decide_eq_true (h2 s (by simp; omega)))
theorem r_left (x0 x1 : Int) (y : List Int) (x10 : Int) (n : Nat) (hn : n ≤ 64) (hy : y.length = n) (hyb : isBits y = true) (b : Nat → Int) (hb : ∀ p, p < n → Bit (b p)) (R : List Int × List Int × Int)
    (hk : Tl (fun k => (codewrightref11_Subsets.f k x1 x10).bind fun bt => codewrightref43_Reed.l2 k x0 x1 y (tab n b) x10 (tab n fun p => (y.getD p 0 + b p) % 2) bt.1 0) R) :
    ∀ (d i : Nat), n - i = d → i ≤ n → Tl (fun k => codewrightref43_Reed.l1 k x0 x1 y (tab n b) x10 (tab n fun p => if p < i then (y.getD p 0 + b p) % 2 else 0) (i : Int)) R := by
  intro d
  induction d with
  | zero =>
    intro i hd hi
    rw [tab_congr (h := fun p => (y.getD p 0 + b p) % 2) (fun p hp => if_pos (by omega))]
    refine Tl.step (fun k => by rw [codewrightref43_Reed.l1]) ?_
    exact Tl.neg (by omega) hk
  | succ d ih =>
    intro i hd hi
    have hnext := ih (i + 1) (by omega) (by omega)
    have h1 := isBits_get hyb i
    have h2 := hb i (by omega)
    unfold Bit at h1 h2
    refine Tl.step (fun k => by rw [codewrightref43_Reed.l1]) ?_
    refine Tl.pos (by omega) (Tl.pos (by omega) (Tl.pos (by simp; omega) (Tl.pos (by simp; omega) ?_)))
    rw [toNat_nat, tab_rd i (by omega), rd_nat, w64 (by omega) (by omega), Int.tmod_eq_emod_of_nonneg (by omega), tab_set _ _ (by omega), w64s i (by omega)]
    rw [tab_congr (n := n) (g := fun p => if p = i then (y.getD i 0 + b i) % 2 else if p < i then (y.getD p 0 + b p) % 2 else 0) (h := fun p => if p < i + 1 then (y.getD p 0 + b p) % 2 else 0)]
    · exact hnext
    · intro p hp
      by_cases e2 : p = i
      · subst e2; rw [if_pos rfl, if_pos (by omega)]
      · rw [if_neg e2]; exact ite_iff ⟨fun h => by omega, fun h => by omega⟩
theorem r_ones (x0 x1 : Int) (x2 x9 : List Int) (x10 : Int) (x11 : List Int) (x13 : List (List Int)) (x15 : Int) (L : List Int) (hb : ∀ v ∈ L, Bit v) (hl : L.length ≤ 64) (R : List Int × List Int × Int)
    (hk : Tl (fun k => if wrap64 (2 * L.sum) > (L.length : Int) then (if 0 ≤ x15 then (if x15 < (x13.length : Int) then ((codewrightref15_Evaluate.f k x1 (rd_L1 x13 x15)).bind fun bt => (codewrightref43_Reed.l4 k x0 x1 x2 x9 x10 x11 x13 x15 bt.1 0)) else none) else none) else codewrightref43_Reed.l2 k x0 x1 x2 x9 x10 x11 x13 (wrap64 (x15 + 1))) R) :
    ∀ (d i : Nat), L.length - i = d → i ≤ L.length → Tl (fun k => codewrightref43_Reed.l3 k x0 x1 x2 x9 x10 x11 x13 x15 L (L.take i).sum (i : Int)) R := by
  intro d
  induction d with
  | zero =>
    intro i hd hi
    rw [List.take_of_length_le (by omega)]
    refine Tl.step (fun k => by rw [codewrightref43_Reed.l3]) ?_
    exact Tl.neg (by omega) hk
  | succ d ih =>
    intro i hd hi
    have hlt : i < L.length := by omega
    have hs := bitsum (L.take (i + 1)) (bit_mem_take hb _)
    rw [List.length_take] at hs
    refine Tl.step (fun k => by rw [codewrightref43_Reed.l3]) ?_
    rw [rd_nat, ← sum_take_succ L i hlt, w64 (n := (L.take (i + 1)).sum) (by omega) (by omega), w64s i (by omega)]
    exact Tl.pos (by omega) (Tl.pos (by omega) (ih (i + 1) (by omega) (by omega)))
theorem r_add (x0 x1 : Int) (y : List Int) (x10 : Int) (x11 : List Int) (x13 : List (List Int)) (x15 : Int) (n : Nat) (hn : n ≤ 64) (hy : y.length = n) (b v : Nat → Int) (hb : ∀ p, p < n → Bit (b p)) (hv : ∀ p, p < n → Bit (v p)) (R : List Int × List Int × Int)
    (hk : Tl (fun k => codewrightref43_Reed.l2 k x0 x1 y (tab n fun p => (b p + v p) % 2) x10 x11 x13 (wrap64 (x15 + 1))) R) :
    ∀ (d i : Nat), n - i = d → i ≤ n → Tl (fun k => codewrightref43_Reed.l4 k x0 x1 y (tab n fun p => if p < i then (b p + v p) % 2 else b p) x10 x11 x13 x15 (tab n v) (i : Int)) R := by
  intro d
  induction d with
  | zero =>
    intro i hd hi
    rw [tab_congr (h := fun p => (b p + v p) % 2) (fun p hp => if_pos (by omega))]
    refine Tl.step (fun k => by rw [codewrightref43_Reed.l4]) ?_
    exact Tl.neg (by omega) hk
  | succ d ih =>
    intro i hd hi
    have hnext := ih (i + 1) (by omega) (by omega)
    have h1 := hb i (by omega)
    have h2 := hv i (by omega)
    unfold Bit at h1 h2
    refine Tl.step (fun k => by rw [codewrightref43_Reed.l4]) ?_
    refine Tl.pos (by omega) (Tl.pos (by omega) (Tl.pos (by simp; omega) (Tl.pos (by simp; omega) ?_)))
    rw [toNat_nat, tab_rd i (by omega), tab_rd i (by omega), if_neg (by omega), w64 (by omega) (by omega), Int.tmod_eq_emod_of_nonneg (by omega), tab_set _ _ (by omega), w64s i (by omega)]
    rw [tab_congr (n := n) (g := fun p => if p = i then (b i + v i) % 2 else if p < i then (b p + v p) % 2 else b p) (h := fun p => if p < i + 1 then (b p + v p) % 2 else b p)]
    · exact hnext
    · intro p hp
      by_cases e2 : p = i
      · subst e2; rw [if_pos rfl, if_pos (by omega)]
      · rw [if_neg e2]; exact ite_iff ⟨fun h => by omega, fun h => by omega⟩
/-- One degree: the monomials one after the other. -/
theorem r_block (m : Nat) (hm : m < 7) (x0 : Int) (y : List Int) (hy : y.length = 2 ^ m) (x10 : Int) (r : Nat → Int) (hr : ∀ p, p < 2 ^ m → Bit (r p)) (R : List Int × List Int × Int) (ms : List (List Int)) (hms : ∀ vs ∈ ms, ascB m (-1) vs = true) (hml : ms.length < 1000) (b : Nat → Int) (hb : ∀ p, p < 2 ^ m → Bit (b p))
    (hk : Tl (fun k => codewrightref43_Reed.l0 k x0 (m : Int) y (tab (2 ^ m) fun p => (b p + pol (2 ^ m) (tab (2 ^ m) r) ms p) % 2) (wrap64 (x10 - 1))) R) :
    ∀ (d i : Nat), ms.length - i = d → i ≤ ms.length → Tl (fun k => codewrightref43_Reed.l2 k x0 (m : Int) y (tab (2 ^ m) fun p => (b p + pol (2 ^ m) (tab (2 ^ m) r) (ms.take i) p) % 2) x10 (tab (2 ^ m) r) ms (i : Int)) R := by
  have h64 : 2 ^ m ≤ 2 ^ 6 := Nat.pow_le_pow_right (by decide) (by omega)
  intro d
  induction d with
  | zero =>
    intro i hd hi
    rw [List.take_of_length_le (by omega)]
    refine Tl.step (fun k => by rw [codewrightref43_Reed.l2]) ?_
    exact Tl.neg (by omega) hk
  | succ d ih =>
    intro i hd hi
    have hlt : i < ms.length := by omega
    have hnext := ih (i + 1) (by omega) (by omega)
    have hrd : rd_L1 ms (i : Int) = ms[i] := by simp [rd_L1, hlt]
    have hasc := hms _ (List.getElem_mem hlt)
    have hT := asc_mask_lt hasc
    have hvl : (ms[i]).length < 9223372036854775808 := by
      have := asc_vars (m := m) (by omega) hasc
      rw [this, varsOf_length _ (by omega)]
      have := popc_le m hm _ hT
      omega
    have hBits : isBits (tab (2 ^ m) r) = true := isBits_tab _ _ hr
    have hev : evS (m : Int) ms[i] = (evT m (maskOf ms[i] 0), 0) := by
      unfold evS
      rw [if_neg (by omega), hasc, toNat_nat]; rfl
    have hvS : vS (m : Int) ms[i] (tab (2 ^ m) r) = (votesS (2 ^ m) (maskOf ms[i] 0) (tab (2 ^ m) r), 0) := by
      unfold vS
      rw [hev, if_pos rfl, toNat_nat, if_pos]
      unfold bitsS
      rw [if_pos (by simp), hBits]; rfl
    have hpt : ∀ p, pol (2 ^ m) (tab (2 ^ m) r) (ms.take (i + 1)) p = pol (2 ^ m) (tab (2 ^ m) r) (ms.take i) p + tog (2 ^ m) (tab (2 ^ m) r) (maskOf ms[i] 0) p := by
      intro p
      rw [List.take_add_one, List.getElem?_eq_getElem hlt, pol_append]
      simp [pol]
    have hvt := rVotes_tl (m : Int) ms[i] (tab (2 ^ m) r) hvl (by simp; omega)
    rw [hvS] at hvt
    have het := rE_tl (m : Int) ms[i] hvl
    rw [hev] at het
    refine Tl.step (fun k => by rw [codewrightref43_Reed.l2]) ?_
    rw [hrd]
    refine Tl.pos (by omega) (Tl.pos (by omega) (Tl.bind hvt ?_))
    have hvb := bitsum _ (votes_bit (2 ^ m) (maskOf ms[i] 0) (tab (2 ^ m) r))
    have hvl64 := votes_len (2 ^ m) (maskOf ms[i] 0) (tab (2 ^ m) r)
    refine r_ones x0 m y _ x10 _ ms i _ (votes_bit _ _ _) (by omega) R ?_ _ 0 rfl (Nat.zero_le _)
    rw [w64 (by omega) (by omega), hrd]
    by_cases hmaj : maj (2 ^ m) (maskOf ms[i] 0) (tab (2 ^ m) r) = true
    · have h2 := of_decide_eq_true hmaj
      refine Tl.pos (by omega) (Tl.pos (by omega) (Tl.pos (by omega) (Tl.bind het ?_)))
      have hg := r_add x0 m y x10 (tab (2 ^ m) r) ms i (2 ^ m) h64 hy (fun p => (b p + pol (2 ^ m) (tab (2 ^ m) r) (ms.take i) p) % 2) (evp (maskOf ms[i] 0)) (fun p _ => bit_mod _) (fun p _ => evp_bit _ _) R ?_ _ 0 rfl (Nat.zero_le _)
      · rw [tab_congr (n := 2 ^ m) (g := fun p => if p < 0 then ((b p + pol (2 ^ m) (tab (2 ^ m) r) (ms.take i) p) % 2 + evp (maskOf ms[i] 0) p) % 2 else (b p + pol (2 ^ m) (tab (2 ^ m) r) (ms.take i) p) % 2) (h := fun p => (b p + pol (2 ^ m) (tab (2 ^ m) r) (ms.take i) p) % 2) (fun p _ => if_neg (by omega))] at hg
        exact hg
      · rw [w64s i (by omega), tab_congr (n := 2 ^ m) (g := fun p => ((b p + pol (2 ^ m) (tab (2 ^ m) r) (ms.take i) p) % 2 + evp (maskOf ms[i] 0) p) % 2) (h := fun p => (b p + pol (2 ^ m) (tab (2 ^ m) r) (ms.take (i + 1)) p) % 2)]
        · exact hnext
        · intro p _
          rw [hpt, tog, hmaj]
          show _ = (b p + (_ + evp (maskOf ms[i] 0) p)) % 2
          omega
    · have hmf : maj (2 ^ m) (maskOf ms[i] 0) (tab (2 ^ m) r) = false := by simpa using hmaj
      have h2 := of_decide_eq_false hmf
      refine Tl.neg (by omega) ?_
      rw [w64s i (by omega), tab_congr (n := 2 ^ m) (g := fun p => (b p + pol (2 ^ m) (tab (2 ^ m) r) (ms.take i) p) % 2) (h := fun p => (b p + pol (2 ^ m) (tab (2 ^ m) r) (ms.take (i + 1)) p) % 2)]
      · exact hnext
      · intro p _
        rw [hpt, tog, hmf]
        show _ = (b p + (_ + 0)) % 2
        omega
theorem errs_app (a b : List Int) (i : Nat) : errsTo a b (i + 1) = if a.getD i 0 = b.getD i 0 then errsTo a b i else errsTo a b i ++ [(i : Int)] := by
  by_cases h : a.getD i 0 = b.getD i 0
  · rw [if_pos h, errsTo_no a b i h]
  · rw [if_neg h, errsTo_yes a b i h]
theorem differ_go (a b : List Int) (hab : a.length ≤ b.length) (hl : a.length < 1000000) : ∀ (d i : Nat), a.length - i = d → i ≤ a.length → Tl (fun k => codewrightref43_Differ.l0 k a b (errsTo a b i) (i : Int)) (errsTo a b a.length) := by
  intro d
  induction d with
  | zero =>
    intro i hd hi
    obtain rfl : i = a.length := by omega
    refine Tl.step (fun k => by rw [codewrightref43_Differ.l0]) ?_
    refine Tl.neg (by omega) ?_
    refine Tl.step (fun k => by rw [codewrightref43_Differ.j1]) ?_
    exact Tl.neg (by decide) (Tl.now _)
  | succ d ih =>
    intro i hd hi
    have hnext := ih (i + 1) (by omega) (by omega)
    refine Tl.step (fun k => by rw [codewrightref43_Differ.l0]) ?_
    refine Tl.pos (by omega) ?_
    rw [decide_eq_true (show (i : Int) < (b.length : Int) by omega)]
    refine Tl.step (fun k => by rw [codewrightref43_Differ.j1]) ?_
    refine Tl.pos rfl (Tl.pos (by omega) (Tl.pos (by omega) (Tl.pos (by omega) ?_)))
    rw [rd_nat, rd_nat, w64s i (by omega)]
    rw [errs_app] at hnext
    by_cases h : a.getD i 0 = b.getD i 0
    · rw [if_pos h] at hnext
      exact Tl.pos h hnext
    · rw [if_neg h] at hnext
      have := errsTo_len a b i
      exact Tl.neg h (Tl.pos (by omega) hnext)
theorem differ_tl (a b : List Int) (hab : a.length ≤ b.length) (hl : a.length < 1000000) : Tl (fun k => codewrightref43_Differ.f k a b) (errsTo a b a.length) := by
  unfold codewrightref43_Differ.f
  exact differ_go a b hab hl _ 0 rfl (Nat.zero_le _)
theorem rad_ref (r m : Nat) (hm : m < 7) (hr : r ≤ m) : codewrightref43_Radius.f (r : Int) (m : Int) = some ((radius r m : Nat) : Int) := by
  unfold codewrightref43_Radius.f
  have e : IntKind.u64.wrap (wrap64 ((m : Int) - (r : Int))) = ((m - r : Nat) : Int) := by rw [w64 (by omega) (by omega), u64 (by omega) (by omega)]; omega
  rw [e, rad_all (m - r) (by omega), if_pos (by omega)]; rfl
theorem r_outer (r m : Nat) (hm : m < 7) (hr : r ≤ m) (y : List Int) (hy : y.length = 2 ^ m) (hyb : isBits y = true) :
    ∀ (s : Nat), s ≤ r + 1 → ∀ (b : Nat → Int), (∀ p, p < 2 ^ m → Bit (b p)) →
      Tl (fun k => codewrightref43_Reed.l0 k (r : Int) (m : Int) y (tab (2 ^ m) b) ((s : Int) - 1)) (fin r m y (tab (2 ^ m) (runW m y s b))) := by
  have h64 : 2 ^ m ≤ 2 ^ 6 := Nat.pow_le_pow_right (by decide) (by omega)
  intro s
  induction s with
  | zero =>
    intro _ b hb
    refine Tl.step (fun k => by rw [codewrightref43_Reed.l0]) ?_
    refine Tl.neg (by omega) (Tl.bind (differ_tl _ y (by simp; omega) (by simp; omega)) (Tl.bind1 (rad_ref r m hm hr) ?_))
    unfold fin
    by_cases hc : (errsTo (tab (2 ^ m) b) y (tab (2 ^ m) b).length).length > radius r m
    · rw [runW, if_pos hc]
      exact Tl.pos (by omega) (Tl.now _)
    · rw [runW, if_neg hc]
      exact Tl.neg (by omega) (Tl.now _)
  | succ s ih =>
    intro hs b hb
    have hB := mons_at m hm s (by omega)
    have hsm := monsTo_small m hm s (by omega)
    have e1 : ((s + 1 : Nat) : Int) - 1 = (s : Int) := by omega
    rw [e1]
    have hr2 : ∀ p, p < 2 ^ m → Bit ((y.getD p 0 + b p) % 2) := fun p _ => bit_mod _
    refine Tl.step (fun k => by rw [codewrightref43_Reed.l0]) ?_
    rw [hy]
    refine Tl.pos (by omega) (Tl.pos (Int.natCast_nonneg _) (Tl.pos (by rw [toNat_nat]; omega) ?_))
    rw [toNat_nat, tab_rep]
    have hleft := r_left r m y s (2 ^ m) h64 hy hyb b hb (fin r m y (tab (2 ^ m) (runW m y (s + 1) b))) ?_ _ 0 rfl (Nat.zero_le _)
    · rw [tab_congr (n := 2 ^ m) (g := fun p => if p < 0 then (y.getD p 0 + b p) % 2 else 0) (h := fun _ => 0) (fun p _ => if_neg (by omega))] at hleft
      exact hleft
    · refine Tl.bind (subsets_tl m hm s (by omega)) ?_
      have hblock := r_block m hm r y hy s (fun p => (y.getD p 0 + b p) % 2) hr2 (fin r m y (tab (2 ^ m) (runW m y (s + 1) b))) (combs1 s m 0 []) (fun v hv => (hB.2.1 v hv).2) (by omega) b hb ?_ _ 0 rfl (Nat.zero_le _)
      · rw [tab_congr (n := 2 ^ m) (g := fun p => (b p + pol (2 ^ m) (tab (2 ^ m) fun p => (y.getD p 0 + b p) % 2) ((combs1 s m 0 []).take 0) p) % 2) (h := b)] at hblock
        · exact hblock
        · intro p hp
          have := hb p hp
          unfold Bit at this
          simp [pol]
          omega
      · rw [w64 (by omega) (by omega)]
        exact ih (by omega) _ (fun p _ => bit_mod _)
theorem rArgs_tl (r m : Int) (y : List Int) (hl : y.length < 9223372036854775808) : Tl (fun k => codewrightref43_ReedArgs.f k r m y) (if m < 0 ∨ m > 6 ∨ r < 0 ∨ r > m then 6 else bitsS (2 ^ m.toNat) y) := by
  unfold codewrightref43_ReedArgs.f
  by_cases hbad : m < 0 ∨ m > 6 ∨ r < 0 ∨ r > m
  · rw [if_pos hbad]
    by_cases h1 : m < 0
    · exact Tl.pos h1 (Tl.now _)
    refine Tl.neg h1 ?_
    by_cases h2 : m > 6
    · exact Tl.pos h2 (Tl.now _)
    refine Tl.neg h2 ?_
    by_cases h3 : r < 0
    · exact Tl.pos h3 (Tl.now _)
    exact Tl.neg h3 (Tl.pos (by omega) (Tl.now _))
  · rw [if_neg hbad]
    obtain ⟨n, rfl⟩ := Int.eq_ofNat_of_zero_le (show 0 ≤ m by omega)
    refine Tl.neg (by omega) (Tl.neg (by omega) (Tl.neg (by omega) (Tl.neg (by omega) ?_)))
    rw [u64 (by omega) (by omega), shl1 n (by omega), toNat_nat]
    exact Tl.pos (by omega) (Tl.bind (rbits_tl (2 ^ n) y hl) (Tl.now _))
theorem rReed_tl (r m : Int) (y : List Int) (hl : y.length < 9223372036854775808) : Tl (fun k => codewrightref43_Reed.f k r m y) (reedS r m y) := by
  unfold codewrightref43_Reed.f reedS
  refine Tl.bind (rArgs_tl r m y hl) ?_
  by_cases hbad : m < 0 ∨ m > 6 ∨ r < 0 ∨ r > m
  · rw [if_pos hbad, if_pos hbad]
    exact Tl.neg (by decide) (Tl.now _)
  · rw [if_neg hbad, if_neg hbad]
    obtain ⟨n, rfl⟩ := Int.eq_ofNat_of_zero_le (show 0 ≤ m by omega)
    obtain ⟨s, rfl⟩ := Int.eq_ofNat_of_zero_le (show 0 ≤ r by omega)
    rw [toNat_nat, toNat_nat]
    by_cases hb : bitsS (2 ^ n) y = 0
    · rw [if_pos hb]
      obtain ⟨hlen, hbits⟩ := bitsS_ok hb
      have h64 : 2 ^ n ≤ 2 ^ 6 := Nat.pow_le_pow_right (by decide) (by omega)
      refine Tl.pos hb ?_
      rw [hlen]
      refine Tl.pos (Int.natCast_nonneg _) (Tl.pos (by omega) ?_)
      rw [toNat_nat, tab_rep]
      have := r_outer s n (by omega) (by omega) y hlen hbits (s + 1) (Nat.le_refl _) (fun _ => 0) (fun _ _ => .inl rfl)
      rw [show ((s + 1 : Nat) : Int) - 1 = (s : Int) from by omega] at this
      exact this
    · rw [if_neg hb]
      exact Tl.neg hb (Tl.now _)
end Go.Proofs.Ytjelamodjpepkaa.B
