/- The law MajorityAgrees, in numbers and lists. -/
import Derived.Test.YtjelamodjpepkaaVbRm1
namespace Go.Proofs.Ytjelamodjpepkaa.B
open Go.RowKit Go.Proofs.Ytjelamodjpepkaa.P
set_option linter.unusedVariables false
theorem ag_end (m : Nat) (c : Int) (l : List Int) (hl : l.length < 9223372036854775808) (h : ∀ x ∈ l, x = c) : ∀ (d i : Nat), l.length - i = d → i ≤ l.length →
    Tl (fun k => codewrightlaw43_MajorityAgrees.l2 k c l (i : Int)) true := by
  intro d
  induction d with
  | zero =>
    intro i hd hi
    refine Tl.step (fun k => by rw [codewrightlaw43_MajorityAgrees.l2]) ?_
    exact Tl.neg (by omega) (Tl.now _)
  | succ d ih =>
    intro i hd hi
    have hlt : i < l.length := by omega
    refine Tl.step (fun k => by rw [codewrightlaw43_MajorityAgrees.l2]) ?_
    rw [rd_nat, List.getD_eq_getElem?_getD, List.getElem?_eq_getElem hlt, Option.getD_some, h _ (List.getElem_mem hlt), w64s i (by omega)]
    exact Tl.pos (by omega) (Tl.pos (by omega) (Tl.pos rfl (ih (i + 1) (by omega) (by omega))))
theorem ag_add (m : Int) (vars : List Int) (terms : List (List Int)) (n : Nat) (hn : n ≤ 64) (f g : Nat → Int) (hf : ∀ p, p < n → Bit (f p)) (hg : ∀ p, p < n → Bit (g p)) (c j : Int) (R : Bool)
    (h : Tl (fun k => codewrightlaw43_MajorityAgrees.l1 k m vars terms (tab n fun p => (f p + g p) % 2) c j (tab n g) (n : Int)) R) : ∀ (d i : Nat), n - i = d → i ≤ n →
    Tl (fun k => codewrightlaw43_MajorityAgrees.l1 k m vars terms (tab n fun p => if p < i then (f p + g p) % 2 else f p) c j (tab n g) (i : Int)) R := by
  intro d
  induction d with
  | zero =>
    intro i hd hi
    obtain rfl : i = n := by omega
    rw [tab_congr (h := fun p => (f p + g p) % 2) (fun p hp => if_pos hp)]
    exact h
  | succ d ih =>
    intro i hd hi
    have hb := hf i (by omega)
    have hc := hg i (by omega)
    unfold Bit at hb hc
    refine Tl.step (fun k => by rw [codewrightlaw43_MajorityAgrees.l1]) ?_
    rw [tab_rd i (by omega), tab_rd i (by omega), if_neg (Nat.lt_irrefl i), w64s i (by omega), w64 (n := f i + g i) (by omega) (by omega), Int.tmod_eq_emod_of_nonneg (by omega), toNat_nat, tab_set _ _ (by omega)]
    refine Tl.pos (by simp; omega) (Tl.pos (by omega) (Tl.pos (by simp; omega) ?_))
    have := ih (i + 1) (by omega) (by omega)
    rw [tab_congr (h := fun p => if p < i + 1 then (f p + g p) % 2 else f p)]
    · exact this
    · intro p hp
      by_cases e : p = i
      · subst e; rw [if_pos rfl, if_pos (by omega)]
      · rw [if_neg e]; exact ite_iff ⟨fun h => by omega, fun h => by omega⟩
theorem ag_go (m : Nat) (hm : m ≤ 6) (vars : List Int) (terms : List (List Int)) (hv : ascB m (-1) vars = true) (hlen : terms.length ≤ 300) (ht : ∀ t ∈ terms, t.length < 9223372036854775808) (hvl : vars.length < 9223372036854775808) :
    ∀ (d i : Nat) (f : Nat → Int) (c : Int), terms.length - i = d → i ≤ terms.length → (∀ p, p < 2 ^ m → Bit (f p)) → Bit c → (∀ p, p < 2 ^ m → p &&& maskOf vars 0 = 0 → voteS (2 ^ m) (maskOf vars 0) (tab (2 ^ m) f) p = c) →
    Tl (fun k => codewrightlaw43_MajorityAgrees.l0 k (m : Int) vars terms (tab (2 ^ m) f) c (i : Int)) true := by
  have h64 : 2 ^ m ≤ 2 ^ 6 := Nat.pow_le_pow_right (by decide) (by omega)
  have hS := asc_mask_lt hv
  have hpl : vars.length = popc (maskOf vars 0) := by
    have := congrArg List.length (asc_vars (by omega) hv)
    rw [this, varsOf_length _ (by omega)]
  intro d
  induction d with
  | zero =>
    intro i f c hd hi hf hc hvote
    refine Tl.step (fun k => by rw [codewrightlaw43_MajorityAgrees.l0]) ?_
    refine Tl.neg (by omega) (Tl.bind (Votes_tl m vars _ hvl (by simp; omega)) ?_)
    have hev : (evS m vars).2 = 0 := by
      unfold evS
      rw [if_neg (by omega), hv]; rfl
    have hbs : bitsS (2 ^ (m : Int).toNat) (tab (2 ^ m) f) = 0 := by
      unfold bitsS
      rw [if_pos (by simp), isBits_tab _ _ hf]; rfl
    have hvs : vS m vars (tab (2 ^ m) f) = (votesS (2 ^ m) (maskOf vars 0) (tab (2 ^ m) f), 0) := by
      unfold vS
      rw [if_pos hev, if_pos hbs]; rfl
    have hple := popc_le m (by omega) _ hS
    rw [hvs]
    refine Tl.pos rfl ?_
    have hw : IntKind.u64.wrap (wrap64 ((m : Int) - (vars.length : Int))) = ((m - vars.length : Nat) : Int) := by
      rw [w64 (by omega) (by omega), u64 (by omega) (by omega)]; omega
    rw [hw, shl1 _ (by omega), votes_length m (by omega) _ hS, ← hpl]
    refine Tl.pos (by omega) ?_
    refine Tl.step (fun k => by rw [codewrightlaw43_MajorityAgrees.j4]) ?_
    refine Tl.neg (by simp) ?_
    refine ag_end m c _ ?_ ?_ _ 0 rfl (by omega)
    · rw [votes_length m (by omega) _ hS]
      have : 2 ^ (m - popc (maskOf vars 0)) ≤ 2 ^ m := Nat.pow_le_pow_right (by decide) (by omega)
      omega
    · intro x hx
      unfold votesS at hx
      obtain ⟨p, hp, rfl⟩ := List.mem_map.1 hx
      obtain ⟨h1, h2⟩ := List.mem_filter.1 hp
      exact hvote p (by simpa using h1) (by simpa using h2)
  | succ d ih =>
    intro i f c hd hi hf hc hvote
    have hlt : i < terms.length := by omega
    have htl := ht _ (List.getElem_mem hlt)
    have hr : rd_L1 terms (i : Int) = terms[i] := by simp [rd_L1, hlt]
    refine Tl.step (fun k => by rw [codewrightlaw43_MajorityAgrees.l0]) ?_
    rw [hr]
    refine Tl.pos (by omega) (Tl.pos (by omega) (Tl.bind (rE_tl m _ htl) ?_))
    generalize hT : terms[i] = t at *
    by_cases he : (evS m t).2 = 0
    · obtain ⟨n, hn, _, hasc⟩ := evS_ok he
      obtain rfl : m = n := by omega
      have hTm := asc_mask_lt hasc
      have hev : evS m t = (evT m (maskOf t 0), 0) := by
        unfold evS
        rw [if_neg (by omega), hasc]; rfl
      rw [hev]
      refine Tl.pos rfl ?_
      refine Tl.step (fun k => by rw [codewrightlaw43_MajorityAgrees.j2]) ?_
      by_cases hlong : t.length > vars.length
      · exact Tl.pos (by simpa using hlong) (Tl.now _)
      · refine Tl.neg (by simpa using hlong) ?_
        have htpl : t.length = popc (maskOf t 0) := by
          have := congrArg List.length (asc_vars (by omega) hasc)
          rw [this, varsOf_length _ (by omega)]
        have hbT : ∀ p, p < 2 ^ m → Bit (evp (maskOf t 0) p) := fun p _ => by unfold evp Bit; split <;> simp
        have := ag_add m vars terms (2 ^ m) (by omega) f (evp (maskOf t 0)) hf hbT c (i : Int) true ?_ (2 ^ m) 0 (by omega) (Nat.zero_le _)
        · rw [tab_congr (h := f) (fun p _ => if_neg (by omega))] at this
          exact this
        · refine Tl.step (fun k => by rw [codewrightlaw43_MajorityAgrees.l1]) ?_
          rw [hr, w64s i (by omega)]
          refine Tl.neg (by simp) (Tl.pos (by omega) (Tl.pos (by omega) (Tl.bind (same_tl t vars htl) ?_)))
          have hvote2 : ∀ p, p < 2 ^ m → p &&& maskOf vars 0 = 0 → voteS (2 ^ m) (maskOf vars 0) (tab (2 ^ m) fun q => (f q + evp (maskOf t 0) q) % 2) p = (c + if maskOf t 0 = maskOf vars 0 then 1 else 0) % 2 := by
            intro p hp h0
            rw [voteS_add m (by omega) _ hS p hp h0, hvote p hp h0, ← evT_tab, vote_mono m (by omega) _ _ hS hTm (by omega) p hp h0]
          by_cases hsame : t = vars
          · refine Tl.pos (by simpa using hsame) ?_
            unfold Bit at hc
            rw [w64 (by omega) (by omega)]
            refine ih (i + 1) _ (1 - c) (by omega) (by omega) (fun p _ => bit_mod _) (by unfold Bit; omega) ?_
            intro p hp h0
            rw [hvote2 p hp h0, hsame, if_pos rfl]
            omega
          · refine Tl.neg (by simpa using hsame) ?_
            refine ih (i + 1) _ c (by omega) (by omega) (fun p _ => bit_mod _) hc ?_
            intro p hp h0
            unfold Bit at hc
            rw [hvote2 p hp h0, if_neg]
            · omega
            · intro hm2
              apply hsame
              rw [asc_vars (by omega) hasc, asc_vars (by omega) hv, hm2]
    · refine Tl.neg he ?_
      refine Tl.step (fun k => by rw [codewrightlaw43_MajorityAgrees.j2]) ?_
      exact Tl.pos rfl (Tl.now _)
end Go.Proofs.Ytjelamodjpepkaa.B
namespace Go.Proofs.Ytjelamodjpepkaa.Pure
open Go.RowKit Go.Proofs.Ytjelamodjpepkaa.P Go.Proofs.Ytjelamodjpepkaa.B
theorem MajorityAgrees (m : Int) (vars : List Int) (terms : List (List Int)) (h1 : vars.length ≤ maxLen) (h2 : terms.length ≤ maxLen) (h3 : ∀ t ∈ terms, t.length ≤ maxLen) :
    ∃ k, codewrightlaw43_MajorityAgrees.f k m vars terms = some true := by
  refine Tl.get ?_
  simp only [maxLen] at h1 h2 h3
  have hvl : vars.length < 9223372036854775808 := by omega
  have ht : ∀ t ∈ terms, t.length < 9223372036854775808 := fun t ht => by have := h3 t ht; omega
  unfold codewrightlaw43_MajorityAgrees.f
  refine Tl.bind alive43_tl (Tl.pos rfl (Tl.bind (rE_tl m vars hvl) ?_))
  by_cases he : (evS m vars).2 = 0
  · refine Tl.pos he ?_
    obtain ⟨n, rfl, hn, hasc⟩ := evS_ok he
    refine Tl.step (fun k => by rw [codewrightlaw43_MajorityAgrees.j0]) ?_
    by_cases hbig : terms.length > 300
    · exact Tl.pos (by simp; omega) (Tl.now _)
    · refine Tl.neg (by simp; omega) ?_
      have h64 : 2 ^ n ≤ 2 ^ 6 := Nat.pow_le_pow_right (by decide) hn
      rw [u64 (by omega) (by omega), shl1 n (by omega)]
      refine Tl.pos (by omega) (Tl.pos (Int.natCast_nonneg _) (Tl.pos (by rw [toNat_nat]; omega) ?_))
      rw [toNat_nat, tab_rep]
      refine ag_go n hn vars terms hasc (by omega) ht hvl _ 0 (fun _ => 0) 0 rfl (by omega) (fun p _ => .inl rfl) (.inl rfl) ?_
      intro p hp h0
      rw [voteS_tab n (by omega) _ (asc_mask_lt hasc) p hp h0]
      generalize (subL 64 (maskOf vars 0) (maskOf vars 0)).map (p ||| ·) = l
      induction l with
      | nil => rfl
      | cons a l ih => simpa using ih
  · refine Tl.neg he ?_
    refine Tl.step (fun k => by rw [codewrightlaw43_MajorityAgrees.j0]) ?_
    exact Tl.pos rfl (Tl.now _)
end Go.Proofs.Ytjelamodjpepkaa.Pure
