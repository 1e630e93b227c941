import Derived.Test.YtekenifndicdeaaDuGf18
namespace Go.Proofs.Ytekenifndicdeaa.P
open Go.RowKit Go.Proofs.YtekenifndicdeaaW.PrintWords Go.Proofs.YtekenifndicdeaaW.PrintLast Go.Proofs.YtekenifndicdeaaW.PrintMore Go.Proofs.Ytekenifndicdeaa.B
attribute [local go_sem] max2_int min2_int max_two min_two max_three min_three max_four min_four
set_option linter.unusedVariables false
set_option linter.unusedSimpArgs false
def EqIn (n : Nat) (w : World) (u : Value) (wr : World) : Prop := ∃ i : Nat, u = .int .i64 (i : Int) ∧ i ≤ n ∧ Below w.heap.size w wr
theorem eq_calls (A B : Option Addr) (c d : Nat) (l : List Int) (w : World) (hA : Kd.C (Kd.int .i64) w A l.length l) (hB : Kd.C (Kd.int .i64) w B l.length l) (hl : l.length ≤ 1000000) :
    Calls Try.prog 95 #[.slice A l.length c, .slice B l.length d] w fun e w' => e = .returned (.bool true) ∧ Below w.heap.size w w' := by
  have HA := Aside0.mk hA
  have HB := Aside0.mk hB
  have HR0 : Aside0 (EqIn l.length w (.int .i64 0) w) := ⟨0, rfl, Nat.zero_le _, Below.refl _ _⟩
  have hne : ((l.length : Int) != (l.length : Int)) = false := by simp
  clear hA hB
  go_enter Try.func95, Try.ntmps95
  go_wp2_with fail
  go_loopw [13] (fun u wr => EqIn l.length w u wr) (fun u _ => l.length - (intOf u).toNat)
  case atStart => exact HR0.out
  case round =>
    clear HR0
    obtain ⟨i, rfl, hi, hbel⟩ := hrel
    have HBEL := Aside0.mk hbel
    clear hbel
    by_cases hlt : i < l.length
    · obtain ⟨ad, e, hc⟩ := rd_at (Kd.C_below HA.out HBEL.out) (i : Int) (by omega) (by omega)
      rw [toNat_nat] at hc
      subst e
      obtain ⟨ad2, e2, hc2⟩ := rd_at (Kd.C_below HB.out HBEL.out) (i : Int) (by omega) (by omega)
      rw [toNat_nat] at hc2
      subst e2
      generalize l.getD i 0 = x at *
      have hxx : (x != x) = false := by simp
      go_wp2_with fail
      go_quiet (fail)
      go_wp2_with fail
      exact ⟨⟨i + 1, by simp, hlt, pw_below_drewN HBEL.out _⟩, by simp [intOf]; omega⟩
    · go_wp2
      go_ret
      exact ⟨rfl, HBEL.out⟩
theorem eqf_calls (A B : Option Addr) (c d : Nat) (l : List (List Int)) (w : World) (hA : Kd.C (Kd.slice 3 (Kd.int .i64)) w A l.length l) (hB : Kd.C (Kd.slice 3 (Kd.int .i64)) w B l.length l) (hl : l.length ≤ 1000000) (hl2 : ∀ x ∈ l, x.length ≤ 1000000) :
    Calls Try.prog 94 #[.slice A l.length c, .slice B l.length d, .func (.func 95) #[] #[]] w fun e w' => e = .returned (.bool true) ∧ Below w.heap.size w w' := by
  have HA := Aside0.mk hA
  have HB := Aside0.mk hB
  have HL2 := Aside0.mk hl2
  have HR0 : Aside0 (EqIn l.length w (.int .i64 0) w) := ⟨0, rfl, Nat.zero_le _, Below.refl _ _⟩
  have hne : ((l.length : Int) != (l.length : Int)) = false := by simp
  clear hA hB hl2
  go_enter Try.func94, Try.ntmps94
  go_wp2_with fail
  go_loopw [17] (fun u wr => EqIn l.length w u wr) (fun u _ => l.length - (intOf u).toNat)
  case atStart => exact HR0.out
  case round =>
    clear HR0
    obtain ⟨i, rfl, hi, hbel⟩ := hrel
    have HBEL := Aside0.mk hbel
    clear hbel
    by_cases hlt : i < l.length
    · obtain ⟨ad, A0, c0, e, hx, hc0, hC⟩ := at_L1 (Kd.C_below HA.out HBEL.out) (i : Int) (by omega) (by omega)
      rw [toNat_nat] at hx
      subst e
      obtain ⟨ad2, A2, c2, e2, hx2, hc2, hC2⟩ := at_L1 (Kd.C_below HB.out HBEL.out) (i : Int) (by omega) (by omega)
      rw [toNat_nat] at hx2
      subst e2
      have erow : rd_L1 l (i : Int) = l.getD i [] := rfl
      rw [erow] at hx hc0 hC hx2 hc2 hC2
      have hxl : (l.getD i []).length ≤ 1000000 := HL2.out _ (by rw [List.getD_eq_getElem?_getD, List.getElem?_eq_getElem hlt]; exact List.getElem_mem hlt)
      generalize l.getD i [] = x at *
      have HC := Aside0.mk (eq_calls A0 A2 c0 c2 x _ hC hC2 hxl)
      clear hC hC2 erow
      go_wp2_with (go_at_call 95; refine HC.out.mono ?_; rintro e w2 ⟨rfl, hb2⟩; have HB2 := Aside0.mk (HBEL.out.trans (hb2.mono HBEL.out.size)); clear hb2)
      exact ⟨⟨i + 1, by simp, hlt, HB2.out⟩, by simp [intOf]; omega⟩
    · go_wp2
      go_ret
      exact ⟨rfl, HBEL.out⟩
end Go.Proofs.Ytekenifndicdeaa.P
namespace Go.Proofs.Ytekenifndicdeaa.P
open Go.RowKit Go.Proofs.YtekenifndicdeaaW.PrintWords Go.Proofs.YtekenifndicdeaaW.PrintLast Go.Proofs.YtekenifndicdeaaW.PrintMore Go.Proofs.Ytekenifndicdeaa.B
attribute [local go_sem] max2_int min2_int max_two min_two max_three min_three max_four min_four
set_option linter.unusedVariables false
set_option linter.unusedSimpArgs false
/-- The rows are canonical. -/
structure Canon (F : Fr) (n : Nat) (rows : List (List Int)) : Prop where
  chk : mchk F (n : Int) rows = 0
  pos : 1 ≤ n
  eq : canonS F.ops n rows = rows
def SpPost (F : Fr) (n : Nat) (A : Option Addr) (c : Nat) (rows : List (List Int)) (w : World) (e : Ending) (w' : World) : Prop := ∃ g p, e = .returned (.tuple #[.agg #[.pointer (some ⟨g, 0, none⟩), .int .i64 (n : Int), .slice A rows.length c, p], .int .i64 0]) ∧ GFatN w.heap.size w' g F ∧ IntN w.heap.size w' p (elimS F.ops rows n).2 ∧ Below w.heap.size w w'
set_option maxRecDepth 100000 in
set_option maxHeartbeats 1000000 in
theorem sopen_calls (P M : Int) (mod : List Int) (F : Fr) (hN : NewSays P M mod F) (v : Value) (n : Nat) (A : Option Addr) (c : Nat) (rows : List (List Int)) (w : World) (hv : FldV w v P M mod) (hr : Kd.C (Kd.slice 3 (Kd.int .i64)) w A rows.length rows) (hc : rows.length ≤ c) (hK : Canon F n rows) :
    Calls Try.prog 70 #[v, .agg #[.int .i64 (n : Int), .slice A rows.length c]] w (SpPost F n A c rows w) := by
  have hv0 := hv
  obtain ⟨A0, c0, rfl, hml, hmC⟩ := hv
  obtain ⟨hc0, hn256, hrl, hmat⟩ := mchk_ok hK.chk
  rw [toNat_nat] at hmat
  obtain ⟨W, hW⟩ : ∃ W, W = ((w.alloc (.cells #[.int .i64 P, .int .i64 M, .slice A0 mod.length c0] 25)).alloc (.cells #[.int .i64 (n : Int), .slice A rows.length c] 56)).alloc (.cells #[.pointer none, .int .i64 0, .slice none 0 0, .slice none 0 0] 94) := ⟨_, rfl⟩
  have b1 : Below w.heap.size w W := by rw [hW]; exact below_alloc (below_alloc (below_alloc (Below.refl w.heap.size w) _) _) _
  have hm0 : W.heap[w.heap.size]? = some (.cells #[.int .i64 P, .int .i64 M, .slice A0 mod.length c0] 25 (0, 0)) := by
    rw [hW]
    exact blk_alloc (blk_alloc (blk_new w _) _) _
  have hm1 : W.heap[w.heap.size + 1]? = some (.cells #[.int .i64 (n : Int), .slice A rows.length c] 56 (0, 0)) := by
    rw [hW]
    have := blk_new (w.alloc (.cells #[.int .i64 P, .int .i64 M, .slice A0 mod.length c0] 25)) (.cells #[.int .i64 (n : Int), .slice A rows.length c] 56)
    exact blk_alloc (by simpa using this) _
  have hm2 : W.heap[w.heap.size + 1 + 1]? = some (.cells #[.pointer none, .int .i64 0, .slice none 0 0, .slice none 0 0] 94 (0, 0)) := by
    rw [hW]
    have := blk_new ((w.alloc (.cells #[.int .i64 P, .int .i64 M, .slice A0 mod.length c0] 25)).alloc (.cells #[.int .i64 (n : Int), .slice A rows.length c] 56)) (.cells #[.pointer none, .int .i64 0, .slice none 0 0, .slice none 0 0] 94)
    simpa using this
  have HCAN := Aside0.mk (canonical_calls P M mod F hN _ (n : Int) A c rows W (hv0.below b1) (Kd.C_below hr b1) hc (by omega) (fun x hx => by rw [(hmat x hx).1]; omega) (fun _ => by have := hK.pos; omega))
  unfold CanPost at HCAN
  have HR := Aside0.mk (Kd.C_below hr b1)
  have HB := Aside0.mk b1
  have HM0 := Aside0.mk hm0
  have HM1 := Aside0.mk hm1
  have HM2 := Aside0.mk hm2
  have HFV := Aside0.mk (hv0.below b1)
  have HMAT := Aside0.mk hmat
  have HCH := Aside0.mk hK.chk
  have HEQ := Aside0.mk hK.eq
  have HW := Aside0.mk hW
  rw [hW] at HCAN
  clear hv0 hr hmC b1 hm0 hm1 hm2 hmat hK hW
  unfold SpPost
  go_enter Try.func70, Try.ntmps70
  go_wp2_with (first | (go_at_call 54; refine HCAN.out.mono ?_; rintro e w3 ⟨hor, hb3⟩; rw [← HW.out] at hb3; rcases hor with ⟨hne, _⟩ | ⟨_, v1, p1, rfl, hv1, hp1⟩; (exact absurd HCH.out hne); rw [toNat_nat, HEQ.out] at hv1; rw [toNat_nat] at hp1; rw [← HW.out] at hp1; have HV := Aside0.mk hv1; have HP := Aside0.mk hp1; obtain ⟨A1, k1, rfl, hcv, hCv⟩ := hv1; obtain ⟨A2, k2, rfl, hcp, hCp⟩ := hp1; have HB3 := Aside0.mk hb3; have HCV := Aside0.mk (hCv w3 (Tch.refl _ _)); have x1 : (w3.alloc (.cells #[.int .i64 (n : Int), .slice A1 rows.length k1] 56)).cell? ⟨w.heap.size + 1, 1, none⟩ = some (.slice A rows.length c) := (blk_cell (blk_alloc (blk_below HM1.out hb3) _) 1).trans rfl; clear hb3 hCv hCp) | (go_at_call 94; refine (eqf_calls A1 A k1 c rows _ (Kd.C_alloc HCV.out _) (Kd.C_alloc (Kd.C_below HR.out HB3.out) _) (by omega) (fun x hx => by rw [(HMAT.out x hx).1]; omega)).mono ?_; rintro e w4 ⟨rfl, hb4⟩; have HB4 := Aside0.mk ((HB3.out.trans ((below_alloc (Below.refl w3.heap.size w3) _).mono HB3.out.size)).trans (hb4.mono (by have := HB3.out.size; simp; omega))); have HP4 := Aside0.mk (HP.out.step (Tch.of_below ((below_alloc (Below.refl w3.heap.size w3) _).trans (hb4.mono (by simp))) _) (Nat.le_refl _)); have y0 : w4.cell? ⟨w.heap.size, 0, none⟩ = some (.int .i64 P) := (blk_cell (blk_below HM0.out HB4.out) 0).trans rfl; have y1 : w4.cell? ⟨w.heap.size, 1, none⟩ = some (.int .i64 M) := (blk_cell (blk_below HM0.out HB4.out) 1).trans rfl; have y2 : w4.cell? ⟨w.heap.size, 2, none⟩ = some (.slice A0 mod.length c0) := (blk_cell (blk_below HM0.out HB4.out) 2).trans rfl; clear hb4) | (go_at_call 83; refine (hN.new _ _ (HFV.out.below HB4.out)).mono ?_; rintro e w5 ⟨g, rfl, hG, hb5⟩; have HG := Aside0.mk hG; have hb6 := HB4.out.trans (hb5.mono HB4.out.size); have HP5 := Aside0.mk (HP4.out.below hb5); have HB6 := Aside0.mk hb6; have m2 := blk_below HM2.out hb6; have z0 : w5.cell? ⟨w.heap.size + 1, 0, none⟩ = some (.int .i64 (n : Int)) := (blk_cell (blk_below HM1.out hb6) 0).trans rfl; have z1 : w5.cell? ⟨w.heap.size + 1, 1, none⟩ = some (.slice A rows.length c) := (blk_cell (blk_below HM1.out hb6) 1).trans rfl; have t0 : w5.cell? ⟨w.heap.size + 1 + 1, 0, none⟩ = some (.pointer none) := (blk_cell m2 0).trans rfl; have t1 : w5.cell? ⟨w.heap.size + 1 + 1, 1, none⟩ = some (.int .i64 0) := (blk_cell m2 1).trans rfl; have t2 : w5.cell? ⟨w.heap.size + 1 + 1, 2, none⟩ = some (.slice none 0 0) := (blk_cell m2 2).trans rfl; have t3 : w5.cell? ⟨w.heap.size + 1 + 1, 3, none⟩ = some (.slice none 0 0) := (blk_cell m2 3).trans rfl; have f0 : w5.frozen? ⟨w.heap.size + 1 + 1, 0, none⟩ = false := blk_frozen m2 0; have f1 : w5.frozen? ⟨w.heap.size + 1 + 1, 1, none⟩ = false := blk_frozen m2 1; have f2 : w5.frozen? ⟨w.heap.size + 1 + 1, 2, none⟩ = false := blk_frozen m2 2; have f3 : w5.frozen? ⟨w.heap.size + 1 + 1, 3, none⟩ = false := blk_frozen m2 3; have HM5 := Aside0.mk m2; clear hG hb5 hb6 m2 y0 y1 y2))
  have hfin := blk_set (blk_set (blk_set (blk_set HM5.out 0 (.pointer (some ⟨g, 0, none⟩))) 1 (.int .i64 (n : Int))) 2 (.slice A rows.length c)) 3 (.slice A2 (elimS F.ops rows n).2.length k2)
  refine bodyPost_ret (results_list (rs := [.cell 4 94, .tmp 5]) rfl (by simp) (.cell (w.heap.size + 1 + 1) 94 #[.pointer (some ⟨g, 0, none⟩), .int .i64 (n : Int), .slice A rows.length c, .slice A2 (elimS F.ops rows n).2.length k2] (0, 0) _ rfl (by simpa using hfin) Try.underlying94 rfl (by kernel_rfl) (.tmp .nil))) rfl ?_
  have s1 := HB.out.size
  have s2 := blk_lt HM2.out
  have s4 := HB4.out.size
  have s6 := HB6.out.size
  have hvb : w.heap.size + 1 + 1 < w4.heap.size := by omega
  have ht : Tch (fun k => k = w.heap.size + 1 + 1) w5 ((((w5.setCell ⟨w.heap.size + 1 + 1, 0, none⟩ (.pointer (some ⟨g, 0, none⟩))).setCell ⟨w.heap.size + 1 + 1, 1, none⟩ (.int .i64 (n : Int))).setCell ⟨w.heap.size + 1 + 1, 2, none⟩ (.slice A rows.length c)).setCell ⟨w.heap.size + 1 + 1, 3, none⟩ (.slice A2 (elimS F.ops rows n).2.length k2)) := (((((Tch.refl (fun k => k = w.heap.size + 1 + 1) w5).set (.inl rfl) _).set (.inl rfl) _).set (.inl rfl) _).set (.inl rfl) _)
  have ht1 : ∀ B, w.heap.size + 1 + 1 < B → Tch (fun k => k < B) w5 _ := fun B hB => ht.mono (fun k _ hk => by show k < B; rw [show k = w.heap.size + 1 + 1 from hk]; exact hB)
  exact ⟨g, _, rfl, HG.out.step (ht1 _ hvb) (by omega), HP5.out.step (ht1 _ s2) (by omega), ((((HB.out.trans (HB6.out.mono HB.out.size)).setCell (by simp; omega) _).setCell (by simp; omega) _).setCell (by simp; omega) _).setCell (by simp; omega) _⟩
set_option maxRecDepth 100000 in
theorem scheck_calls (P M : Int) (mod : List Int) (F : Fr) (hN : NewSays P M mod F) (v : Value) (n : Nat) (A : Option Addr) (c : Nat) (rows : List (List Int)) (w : World) (hv : FldV w v P M mod) (hr : Kd.C (Kd.slice 3 (Kd.int .i64)) w A rows.length rows) (hc : rows.length ≤ c) (hK : Canon F n rows) :
    Calls Try.prog 57 #[v, .agg #[.int .i64 (n : Int), .slice A rows.length c]] w fun e w' => e = .returned (.int .i64 0) ∧ Below w.heap.size w w' := by
  have hv0 := hv
  obtain ⟨A0, c0, rfl, hml, hmC⟩ := hv
  have b1 := below_alloc (below_alloc (Below.refl w.heap.size w) (.cells #[.int .i64 P, .int .i64 M, .slice A0 mod.length c0] 25)) (.cells #[.int .i64 (n : Int), .slice A rows.length c] 56)
  have HC := Aside0.mk (sopen_calls P M mod F hN _ n A c rows _ (hv0.below b1) (Kd.C_below hr b1) hc hK)
  have HB := Aside0.mk b1
  unfold SpPost at HC
  clear b1 hv0 hr hmC hK
  go_enter Try.func57, Try.ntmps57
  go_wp2_with (go_at_call 70; refine HC.out.mono ?_; rintro e w3 ⟨g, p, rfl, _, ⟨Ap, cp, rfl, _, _⟩, hb3⟩; have HB3 := Aside0.mk (HB.out.trans (hb3.mono HB.out.size)); clear hb3)
  go_ret
  exact ⟨rfl, below_alloc HB3.out _⟩
end Go.Proofs.Ytekenifndicdeaa.P
namespace Go.Proofs.Ytekenifndicdeaa.P
open Go.RowKit Go.Proofs.YtekenifndicdeaaW.PrintWords Go.Proofs.YtekenifndicdeaaW.PrintLast Go.Proofs.YtekenifndicdeaaW.PrintMore Go.Proofs.Ytekenifndicdeaa.B
attribute [local go_sem] max2_int min2_int max_two min_two max_three min_three max_four min_four
set_option linter.unusedVariables false
set_option linter.unusedSimpArgs false
/-- A code, as a value. -/
def CodeV (w : World) (v : Value) (P M : Int) (mod : List Int) (n : Int) (gen : List (List Int)) : Prop :=
  ∃ Am cm Ag cg, v = .agg #[.int .i64 P, .int .i64 M, .slice Am mod.length cm, .int .i64 n, .slice Ag gen.length cg] ∧ mod.length ≤ cm ∧ Kd.C (Kd.int .i64) w Am mod.length mod ∧ gen.length ≤ cg ∧ Kd.C (Kd.slice 3 (Kd.int .i64)) w Ag gen.length gen
theorem CodeV.below {w w1 : World} {v : Value} {P M n : Int} {mod : List Int} {gen : List (List Int)} (h : CodeV w v P M mod n gen) (hb : Below w.heap.size w w1) : CodeV w1 v P M mod n gen := by
  obtain ⟨Am, cm, Ag, cg, e, h1, h2, h3, h4⟩ := h
  exact ⟨Am, cm, Ag, cg, e, h1, Kd.C_below h2 hb, h3, Kd.C_below h4 hb⟩
theorem CodeN.at {B : Nat} {w W : World} {v : Value} {P M n : Int} {mod : List Int} {gen : List (List Int)} (h : CodeN B w v P M mod n gen) (ht : Tch (fun k => k < B) w W) : CodeV W v P M mod n gen := by
  obtain ⟨Am, cm, Ag, cg, e, h1, h2⟩ := h
  obtain ⟨A1, c1, e1, l1, k1⟩ := h1
  obtain ⟨A2, c2, e2, l2, k2⟩ := h2
  injection e1 with x1 _ x2
  injection e2 with y1 _ y2
  subst x1; subst x2; subst y1; subst y2
  exact ⟨_, _, _, _, e, l1, k1 W ht, l2, k2 W ht⟩
theorem CodeN.now {B : Nat} {w : World} {v : Value} {P M n : Int} {mod : List Int} {gen : List (List Int)} (h : CodeN B w v P M mod n gen) : CodeV w v P M mod n gen := h.at (Tch.refl _ _)
theorem CodeN.step {B B' : Nat} {w w1 : World} {v : Value} {P M n : Int} {mod : List Int} {gen : List (List Int)} (h : CodeN B' w v P M mod n gen) (ht : Tch (fun k => k < B') w w1) (hB : B ≤ B') : CodeN B w1 v P M mod n gen := by
  obtain ⟨Am, cm, Ag, cg, e, h1, h2⟩ := h
  exact ⟨Am, cm, Ag, cg, e, h1.step ht hB, h2.step ht hB⟩
theorem CodeN.below {B : Nat} {w w1 : World} {v : Value} {P M n : Int} {mod : List Int} {gen : List (List Int)} (h : CodeN B w v P M mod n gen) (hb : Below w.heap.size w w1) : CodeN B w1 v P M mod n gen := h.step (Tch.of_below hb _) (Nat.le_refl _)
set_option maxRecDepth 100000 in
theorem ccheck_calls (P M : Int) (mod : List Int) (F : Fr) (hN : NewSays P M mod F) (v : Value) (n : Nat) (rows : List (List Int)) (w : World) (hv : CodeV w v P M mod (n : Int) rows) (hK : Canon F n rows) (h64 : n ≤ 64) :
    Calls Try.prog 33 #[v] w fun e w' => e = .returned (.int .i64 0) ∧ Below w.heap.size w w' := by
  obtain ⟨Am, cm, Ag, cg, rfl, hcm, hCm, hcg, hCg⟩ := hv
  obtain ⟨W, hW⟩ : ∃ W, W = w.alloc (.cells #[.int .i64 P, .int .i64 M, .slice Am mod.length cm, .int .i64 (n : Int), .slice Ag rows.length cg] 28) := ⟨_, rfl⟩
  have b1 : Below w.heap.size w W := by rw [hW]; exact below_alloc (Below.refl w.heap.size w) _
  have hm0 : W.heap[w.heap.size]? = some (.cells #[.int .i64 P, .int .i64 M, .slice Am mod.length cm, .int .i64 (n : Int), .slice Ag rows.length cg] 28 (0, 0)) := by rw [hW]; exact blk_new w _
  have HFV := Aside0.mk (show FldV W (.agg #[.int .i64 P, .int .i64 M, .slice Am mod.length cm]) P M mod from ⟨Am, cm, rfl, hcm, Kd.C_below hCm b1⟩)
  have HG := Aside0.mk (Kd.C_below hCg b1)
  have HB := Aside0.mk b1
  have HM0 := Aside0.mk hm0
  have HK := Aside0.mk hK
  have HLE : Aside0 (lenE (n : Int) = 0) := ⟨if_pos (by have := hK.pos; omega)⟩
  have HW := Aside0.mk hW
  have HCH := Aside0.mk (hN.check _ W HFV.out)
  rw [hW] at HCH
  clear hCm hCg b1 hm0 hK hW
  go_enter Try.func33, Try.ntmps33
  go_wp2_with (first | (go_at_call 56; refine HCH.out.mono ?_; rintro e w2 ⟨rfl, hb2⟩; rw [← HW.out] at hb2; have HB2 := Aside0.mk hb2; have y0 : w2.cell? ⟨w.heap.size, 0, none⟩ = some (.int .i64 P) := (blk_cell (blk_below HM0.out hb2) 0).trans rfl; have y1 : w2.cell? ⟨w.heap.size, 1, none⟩ = some (.int .i64 M) := (blk_cell (blk_below HM0.out hb2) 1).trans rfl; have y2 : w2.cell? ⟨w.heap.size, 2, none⟩ = some (.slice Am mod.length cm) := (blk_cell (blk_below HM0.out hb2) 2).trans rfl; have y3 : w2.cell? ⟨w.heap.size, 3, none⟩ = some (.int .i64 (n : Int)) := (blk_cell (blk_below HM0.out hb2) 3).trans rfl; have y4 : w2.cell? ⟨w.heap.size, 4, none⟩ = some (.slice Ag rows.length cg) := (blk_cell (blk_below HM0.out hb2) 4).trans rfl; clear hb2) | (go_at_call 55; refine (length_calls _ _).mono ?_; rintro e w3 ⟨rfl, rfl⟩; rw [HLE.out]))
  refine rs_ 6 (fun X => X.cell? ⟨w.heap.size, 0, none⟩ = some (.int .i64 P) ∧ X.cell? ⟨w.heap.size, 1, none⟩ = some (.int .i64 M) ∧ X.cell? ⟨w.heap.size, 2, none⟩ = some (.slice Am mod.length cm) ∧ X.cell? ⟨w.heap.size, 3, none⟩ = some (.int .i64 (n : Int)) ∧ X.cell? ⟨w.heap.size, 4, none⟩ = some (.slice Ag rows.length cg)) [] ⟨y0, y1, y2, y3, y4⟩ (fun hHeld => ?_)
  refine rp_ 0 14 ?_
  refine rt_ 1 15 ?_
  refine rt_ 2 16 ?_
  refine rc2_ 3 17 Try.func35 ?_
  refine (gen_calls P M Am mod.length cm (n : Int) Ag rows.length cg _).mono ?_
  rintro e w4 ⟨rfl, hb4⟩
  replace hb4 := (pw_below_drewN (Below.refl w2.heap.size w2) 1).trans hb4
  refine ⟨_, rfl, ⟨cell_below hb4 y0, cell_below hb4 y1, cell_below hb4 y2, cell_below hb4 y3, cell_below hb4 y4⟩, fun hHeld => ?_⟩
  refine rn_ ?_
  have hb24 := HB2.out.trans (hb4.mono HB2.out.size)
  refine rc2_ 4 18 Try.func57 ?_
  refine (scheck_calls P M mod F hN _ n Ag cg rows w4 (HFV.out.below hb24) (Kd.C_below HG.out hb24) hcg HK.out).mono ?_
  rintro e w5 ⟨rfl, hb5⟩
  have hb6 := hb4.trans (hb5.mono hb4.size)
  refine ⟨_, rfl, ⟨cell_below hb6 y0, cell_below hb6 y1, cell_below hb6 y2, cell_below hb6 y3, cell_below hb6 y4⟩, fun hHeld => ?_⟩
  refine rn_ ?_
  refine rp_ 5 2 ?_
  refine rd2_ ?_
  have HB6 := Aside0.mk (HB2.out.trans (hb6.mono HB2.out.size))
  clear hb24 hb6 hb5 hb4
  go_wp2
  go_ret
  exact ⟨rfl, HB.out.trans (HB6.out.mono HB.out.size)⟩
end Go.Proofs.Ytekenifndicdeaa.P
