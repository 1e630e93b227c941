/- The walk of classic.Evaluate at a list of variables in ascending order. -/
import Derived.Test.YtekenifndicdeaaDuGf11
import Derived.Laws.BitsLemmas
namespace Go.Proofs.Ytekenifndicdeaa.P
open Go.RowKit Go.Proofs.YtekenifndicdeaaW.PrintWords Go.Proofs.YtekenifndicdeaaW.PrintLast Go.Proofs.YtekenifndicdeaaW.PrintMore Go.Proofs.Ytekenifndicdeaa.B
attribute [local go_sem] max2_int min2_int max_two min_two max_three min_three max_four min_four
set_option linter.unusedVariables false
set_option linter.unusedSimpArgs false
def ascB (m : Int) : Int → List Int → Bool
  | _, [] => true
  | prev, v :: vs => decide (prev < v) && decide (v < m) && ascB m v vs
def maskOf : List Int → Nat → Nat
  | [], a => a
  | v :: vs, a => maskOf vs (a ||| 2 ^ v.toNat)
theorem maskOf_snoc (v : Int) : ∀ (l : List Int) (a : Nat), maskOf (l ++ [v]) a = maskOf l a ||| 2 ^ v.toNat
  | [], a => rfl
  | u :: l, a => by simp only [List.cons_append, maskOf]; exact maskOf_snoc v l _
theorem asc_get (m : Int) : ∀ (l : List Int) (prev : Int), ascB m prev l = true → ∀ i, i < l.length → prev < l.getD i 0 ∧ l.getD i 0 < m ∧ (0 < i → l.getD (i - 1) 0 < l.getD i 0)
  | [], _, _, i, hi => by simp at hi
  | v :: vs, prev, h, i, hi => by
    simp only [ascB, Bool.and_eq_true, decide_eq_true_eq] at h
    cases i with
    | zero => exact ⟨h.1.1, h.1.2, fun h => absurd h (by omega)⟩
    | succ i =>
      have ih := asc_get m vs v h.2 i (by simp at hi; omega)
      have h0 := h.1.1
      have h1 := ih.1
      refine ⟨?_, ?_, fun _ => ?_⟩
      · show prev < vs.getD i 0; omega
      · exact ih.2.1
      · cases i with
        | zero => exact ih.1
        | succ i => exact ih.2.2 (by omega)
theorem mask_lt (m : Nat) (l : List Int) (prev : Int) (hp : -1 ≤ prev) (h : ascB m prev l = true) : ∀ i, i ≤ l.length → maskOf (l.take i) 0 < 2 ^ m := by
  intro i
  induction i with
  | zero => intro _; simp [maskOf]; exact Nat.two_pow_pos m
  | succ i ih =>
    intro hi
    have hg := asc_get m l prev h i (by omega)
    rw [List.take_add_one, List.getElem?_eq_getElem (by omega)]
    have e : l[i]'(by omega) = l.getD i 0 := by rw [List.getD_eq_getElem?_getD, List.getElem?_eq_getElem (by omega)]; rfl
    show maskOf (l.take i ++ [l[i]'(by omega)]) 0 < _
    rw [maskOf_snoc, e]
    exact Nat.or_lt_two_pow (ih (by omega)) (Nat.pow_lt_pow_right (by decide) (by omega))
def evT (m : Nat) (mask : Nat) : List Int := tab (2 ^ m) (fun p => if p &&& mask = mask then 1 else 0)
theorem or_bit (a k : Nat) (ha : a < 64) (hk : k < 6) : bits BinOp.or IntKind.i64 (a : Int) (wrap64 (2 ^ k)) = ((a ||| 2 ^ k : Nat) : Int) := by
  have h2 : 2 ^ k < 2 ^ 6 := Nat.pow_lt_pow_right (by decide) hk
  have e2 : (2 : Int) ^ k = ((2 ^ k : Nat) : Int) := (Int.natCast_pow 2 k).symm
  rw [e2]
  generalize 2 ^ k = q at h2 ⊢
  rw [w64 (by omega) (by omega)]
  exact (Go.Proofs.Ytekenifndicdeaa.B.bits_nat a q (by omega) (by omega)).2
theorem pow_w (k : Nat) (hk : k ≤ 6) : wrap64 (2 ^ k) = ((2 ^ k : Nat) : Int) := by
  have h2 : 2 ^ k ≤ 2 ^ 6 := Nat.pow_le_pow_right (by decide) hk
  have e2 : (2 : Int) ^ k = ((2 ^ k : Nat) : Int) := (Int.natCast_pow 2 k).symm
  rw [e2]
  generalize 2 ^ k = q at h2 ⊢
  exact w64 (by omega) (by omega)
def FiIn (N mk b : Nat) (w : World) (u : Value) (wr : World) : Prop := ∃ p : Nat, u = .int .i64 (p : Int) ∧ p ≤ N ∧ IntRow wr b (tab N fun j => if j < p ∧ j &&& mk = mk then 1 else 0) ∧ Below w.heap.size w wr
def EvIn (vars : List Int) (w : World) (u6 u19 : Value) (wr : World) : Prop := ∃ i : Nat, u19 = .int .i64 (i : Int) ∧ u6 = .int .i64 ((maskOf (vars.take i) 0 : Nat) : Int) ∧ i ≤ vars.length ∧ wr = w
set_option maxHeartbeats 1000000 in
theorem ev_calls (m : Nat) (A : Option Addr) (c : Nat) (vars : List Int) (w : World) (hm : m ≤ 6) (ha : ascB (m : Int) (-1) vars = true) (hr : Kd.C (Kd.int .i64) w A vars.length vars) (hl : vars.length ≤ 1000000) :
    Calls Try.prog 21 #[.int .i64 (m : Int), .slice A vars.length c] w fun e w' => ∃ b, e = .returned (.tuple #[.slice (some ⟨b, 0, none⟩) (2 ^ m) (2 ^ m), .int .i64 0]) ∧ w.heap.size ≤ b ∧ IntRow w' b (evT m (maskOf vars 0)) ∧ Below w.heap.size w w' := by
  have HR := Aside0.mk hr
  have HA := Aside0.mk (fun i hi => asc_get m vars (-1) ha i hi)
  have hML0 := mask_lt m vars (-1) (by omega) ha
  have HR0 : Aside0 (EvIn vars w (.int .i64 0) (.int .i64 0) w) := ⟨0, rfl, by simp [maskOf], Nat.zero_le _, rfl⟩
  have m1 : (m : Int) ≤ 6 := by omega
  have m0 : (0 : Int) ≤ (m : Int) := by omega
  have hnm : ¬ ((m : Int) < 0) := by omega
  have h64 : 2 ^ m ≤ 2 ^ 6 := Nat.pow_le_pow_right (by decide) (by omega)
  obtain ⟨N, eN⟩ : ∃ N, N = 2 ^ m := ⟨_, rfl⟩
  obtain ⟨mk, emk⟩ : ∃ mk, mk = maskOf vars 0 := ⟨_, rfl⟩
  obtain ⟨E, eE⟩ : ∃ E, E = evT m mk := ⟨_, rfl⟩
  have HEN := Aside0.mk eN
  have HEM := Aside0.mk emk
  have HSH : Aside0 (Value.int .i64 (wrap64 (2 ^ m)) = Value.int .i64 (N : Int)) := ⟨by rw [eN, pow_w m (by omega)]⟩
  have HEV : Aside0 (E = tab N fun p => if p &&& mk = mk then 1 else 0) := ⟨by rw [eN, eE]; rfl⟩
  rw [← eN] at h64 hML0
  have HML := Aside0.mk hML0
  rw [← eN, ← emk, ← eE]
  clear hr ha eN emk eE hML0
  go_enter Try.func21, Try.ntmps21
  go_wp2
  go_loopw [6, 19] (fun a b wr => EvIn vars w a b wr) (fun _ b _ => vars.length - (intOf b).toNat)
  case atStart => exact HR0.out
  case round =>
    clear HR0
    obtain ⟨i, rfl, rfl, hi, rfl⟩ := hrel
    by_cases hlt : i < vars.length
    · obtain ⟨hv0, hv1, hv2⟩ := HA.out i hlt
      obtain ⟨ad, e, hc⟩ := rd_at HR.out (i : Int) (by omega) (by omega)
      rw [toNat_nat] at hc
      have hc2 : 0 < i → wr.cell? (ad.add (i - 1)) = some (.int .i64 (vars.getD (i - 1) 0)) := fun h => by
        obtain ⟨ad', e', hc'⟩ := rd_at HR.out ((i - 1 : Nat) : Int) (by omega) (by omega)
        rw [e] at e'
        injection e' with e'
        rw [toNat_nat] at hc'
        rw [e']; exact hc'
      subst e
      have hvn := Int.eq_ofNat_of_zero_le (show 0 ≤ vars.getD i 0 by omega)
      obtain ⟨k, hk⟩ := hvn
      have hml := HML.out i (by omega)
      have hnext : (maskOf (vars.take (i + 1)) 0) = maskOf (vars.take i) 0 ||| 2 ^ k := by
        rw [List.take_add_one, List.getElem?_eq_getElem hlt]
        have e : vars[i] = vars.getD i 0 := by rw [List.getD_eq_getElem?_getD, List.getElem?_eq_getElem hlt]; rfl
        show maskOf (vars.take i ++ [vars[i]]) 0 = _
        rw [maskOf_snoc, e, hk, toNat_nat]
      have HN := Aside0.mk hnext
      rw [hk] at hv1 hv2 hc
      have hkm : k < m := by omega
      have hkm2 : ¬ m ≤ k := by omega
      have HO := Aside0.mk (or_bit (maskOf (vars.take i) 0) k (by omega) (by omega))
      generalize maskOf (vars.take i) 0 = mk at *
      clear hnext
      have HN2 : Aside0 (EvIn vars wr (.int .i64 (bits BinOp.or IntKind.i64 (mk : Int) (wrap64 (2 ^ k)))) (.int .i64 ((i : Int) + 1)) wr) := ⟨i + 1, by simp, by rw [HO.out, HN.out], hlt, rfl⟩
      clear hv1 hv0 hk
      by_cases hi0 : 0 < i
      · have hc3 := hc2 hi0
        have hv3 : ¬ (k : Int) ≤ vars.getD (i - 1) 0 := by have := hv2 hi0; omega
        have hv4 := hv2 hi0
        generalize vars.getD (i - 1) 0 = pv at *
        clear hc2 hv2
        go_wp2
        exact ⟨HN2.out, by simp [intOf]; omega⟩
      · clear hc2 hv2
        go_wp2
        exact ⟨HN2.out, by simp [intOf]; omega⟩
    · have hie : i = vars.length := by omega
      subst hie
      obtain ⟨wo, rfl⟩ : ∃ wo : World, wo = wr := ⟨_, rfl⟩
      have hml := HML.out vars.length (Nat.le_refl _)
      have hml2 : mk < 64 := by rw [List.take_of_length_le (Nat.le_refl _), ← HEM.out] at hml; omega
      have HMK := Aside0.mk hml2
      rw [List.take_of_length_le (Nat.le_refl _), ← HEM.out]
      clear hml hml2 HML HA
      go_wp2_with ((with_reducible refine gate_dst (N := 51) rfl ?_); refine mk_ints rfl (.tmp 50) rfl N HSH.out (by omega) ?_; intro w1 hr1 hb1; have HR1 := Aside0.mk hr1; have HB1 := Aside0.mk hb1; clear hr1 hb1)
      have HF0 : Aside0 (FiIn N mk wo.heap.size wo (.int .i64 0) w1) := ⟨0, rfl, Nat.zero_le _, by
        have h := HR1.out
        rw [tab_rep] at h
        rw [tab_congr (h := fun _ => 0) (fun p _ => if_neg (by omega))]
        exact h, HB1.out⟩
      clear HR1 HB1
      go_loopw [54] (fun u wr => FiIn N mk wo.heap.size wo u wr) (fun u _ => N - (intOf u).toNat)
      case atStart => exact HF0.out
      case round =>
        clear HF0
        obtain ⟨p, rfl, hp, hR, hb⟩ := hrel
        have HR2 := Aside0.mk hR
        have HB2 := Aside0.mk hb
        by_cases hlt : p < N
        · have hand := (Go.Proofs.Ytekenifndicdeaa.B.bits_nat p mk (by have := HMK.out; omega) (by have := HMK.out; omega)).1
          have hcell := hR.cell p (by simpa using hlt)
          have hfr := hR.frozen p
          obtain ⟨v, hv⟩ : ∃ v, wr.cell? ⟨wo.heap.size, p, none⟩ = some v := ⟨_, hcell⟩
          have HNX : Aside0 (∀ W z, (z = if p &&& mk = mk then (1 : Int) else 0) → IntRow W wo.heap.size ((tab N fun j => if j < p ∧ j &&& mk = mk then (1 : Int) else 0).set p z) → Below wo.heap.size wo W → FiIn N mk wo.heap.size wo (.int .i64 ((p : Int) + 1)) W) := ⟨fun W z hz h hb => ⟨p + 1, by simp, hlt, by
            rw [tab_set _ _ hlt, tab_congr (h := fun j => if j < p + 1 ∧ j &&& mk = mk then 1 else 0)] at h
            · exact h
            · intro j hj
              by_cases e : j = p
              · subst e
                rw [if_pos rfl, hz]
                exact ite_iff ⟨fun h => ⟨by omega, h⟩, fun h => h.2⟩
              · rw [if_neg e]; exact ite_iff ⟨fun h => ⟨by omega, h.2⟩, fun h => ⟨by omega, h.2⟩⟩, hb⟩⟩
          clear hR hb hcell
          by_cases hq : p &&& mk = mk
          · have HQ : Aside0 (FiIn N mk wo.heap.size wo (.int .i64 ((p : Int) + 1)) (wr.setCell ⟨wo.heap.size, p, none⟩ (.int .i64 1))) := ⟨HNX.out _ 1 (by rw [if_pos hq]) (HR2.out.set p 1 (by simpa using hlt)) (HB2.out.setCell (Nat.le_refl _) _)⟩
            rw [hq] at hand
            clear hq
            go_wp2
            exact ⟨HQ.out, by simp [intOf]; omega⟩
          · have HQ : Aside0 (FiIn N mk wo.heap.size wo (.int .i64 ((p : Int) + 1)) wr) := ⟨HNX.out _ 0 (by rw [if_neg hq]) (by
              have h := HR2.out
              rw [tab_set _ _ hlt, tab_congr (h := fun j => if j < p ∧ j &&& mk = mk then 1 else 0)]
              · exact h
              · intro j hj
                by_cases e : j = p
                · subst e; rw [if_pos rfl, if_neg (fun h => by omega)]
                · rw [if_neg e]) HB2.out⟩
            have hqb : (((p &&& mk : Nat) : Int) == (mk : Int)) = false := beq_eq_false_iff_ne.mpr (by omega)
            rw [← hand] at hqb
            clear hq hand
            go_wp2
            exact ⟨HQ.out, by simp [intOf]; omega⟩
        · have hpe : p = N := by omega
          have HE : Aside0 (IntRow wr wo.heap.size E) := ⟨by
            rw [HEV.out]
            have h := hR
            rwa [tab_congr (h := fun p => if p &&& mk = mk then 1 else 0) (fun j hj => ite_iff ⟨fun h => h.2, fun h => ⟨by omega, h⟩⟩)] at h⟩
          clear hR hb
          go_wp2
          go_ret2
          exact ⟨_, rfl, Nat.le_refl _, HE.out, HB2.out⟩
end Go.Proofs.Ytekenifndicdeaa.P
