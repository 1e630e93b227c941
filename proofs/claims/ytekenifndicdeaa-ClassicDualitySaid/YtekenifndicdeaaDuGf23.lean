/- Walks: the reference's comparisons of equal things; the law's alive. -/
import Derived.Test.YtekenifndicdeaaDuGf22
namespace Go.Proofs.Ytekenifndicdeaa.P
open Go.RowKit Go.Proofs.YtekenifndicdeaaW.PrintWords Go.Proofs.YtekenifndicdeaaW.PrintLast Go.Proofs.YtekenifndicdeaaW.PrintMore Go.Proofs.Ytekenifndicdeaa.B
attribute [local go_sem] max2_int min2_int max_two min_two max_three min_three max_four min_four
set_option linter.unusedVariables false
set_option linter.unusedSimpArgs false
theorem sameI_calls (A B : Option Addr) (c d : Nat) (l : List Int) (w : World) (hA : Kd.C (Kd.int .i64) w A l.length l) (hB : Kd.C (Kd.int .i64) w B l.length l) (hl : l.length ≤ 1000000) :
    Calls Try.prog 63 #[.slice A l.length c, .slice B l.length d] w fun e w' => e = .returned (.bool true) ∧ Below w.heap.size w w' := by
  have HA := Aside0.mk hA
  have HB := Aside0.mk hB
  have HR0 : Aside0 (EqIn l.length w (.int .i64 0) w) := ⟨0, rfl, Nat.zero_le _, Below.refl _ _⟩
  have hne : ((l.length : Int) != (l.length : Int)) = false := by simp
  clear hA hB
  go_enter Try.func63, Try.ntmps63
  go_wp2_with fail
  go_loopw [5] (fun u wr => EqIn l.length w u wr) (fun u _ => l.length - (intOf u).toNat)
  case atStart => exact HR0.out
  case round =>
    clear HR0
    obtain ⟨i, rfl, hi, hbel⟩ := hrel
    have HBEL := Aside0.mk hbel
    clear hbel
    by_cases hlt : i < l.length
    · obtain ⟨ad, e, hc⟩ := rd_at (Kd.C_below HA.out HBEL.out) (i : Int) (by omega) (by omega)
      rw [toNat_nat] at hc
      subst e
      obtain ⟨ad2, e2, hc2⟩ := rd_at (Kd.C_below HB.out HBEL.out) (i : Int) (by omega) (by omega)
      rw [toNat_nat] at hc2
      subst e2
      generalize l.getD i 0 = x at *
      have hxx : (x != x) = false := by simp
      go_wp2_with fail
      go_quiet (fail)
      go_wp2_with fail
      exact ⟨⟨i + 1, by simp, hlt, pw_below_drewN HBEL.out _⟩, by simp [intOf]; omega⟩
    · go_wp2
      go_ret
      exact ⟨rfl, HBEL.out⟩
theorem sameR_calls (A B : Option Addr) (c d : Nat) (l : List (List Int)) (w : World) (hA : Kd.C (Kd.slice 3 (Kd.int .i64)) w A l.length l) (hB : Kd.C (Kd.slice 3 (Kd.int .i64)) w B l.length l) (hl : l.length ≤ 1000000) (hl2 : ∀ x ∈ l, x.length ≤ 1000000) :
    Calls Try.prog 38 #[.slice A l.length c, .slice B l.length d] w fun e w' => e = .returned (.bool true) ∧ Below w.heap.size w w' := by
  have HA := Aside0.mk hA
  have HB := Aside0.mk hB
  have HL2 := Aside0.mk hl2
  have HR0 : Aside0 (EqIn l.length w (.int .i64 0) w) := ⟨0, rfl, Nat.zero_le _, Below.refl _ _⟩
  have hne : ((l.length : Int) != (l.length : Int)) = false := by simp
  clear hA hB hl2
  go_enter Try.func38, Try.ntmps38
  go_wp2_with fail
  go_loopw [5] (fun u wr => EqIn l.length w u wr) (fun u _ => l.length - (intOf u).toNat)
  case atStart => exact HR0.out
  case round =>
    clear HR0
    obtain ⟨i, rfl, hi, hbel⟩ := hrel
    have HBEL := Aside0.mk hbel
    clear hbel
    by_cases hlt : i < l.length
    · obtain ⟨ad, A0, c0, e, hx, hc0, hC⟩ := at_L1 (Kd.C_below HA.out HBEL.out) (i : Int) (by omega) (by omega)
      rw [toNat_nat] at hx
      subst e
      obtain ⟨ad2, A2, c2, e2, hx2, hc2, hC2⟩ := at_L1 (Kd.C_below HB.out HBEL.out) (i : Int) (by omega) (by omega)
      rw [toNat_nat] at hx2
      subst e2
      have erow : rd_L1 l (i : Int) = l.getD i [] := rfl
      rw [erow] at hx hc0 hC hx2 hc2 hC2
      have hxl : (l.getD i []).length ≤ 1000000 := HL2.out _ (by rw [List.getD_eq_getElem?_getD, List.getElem?_eq_getElem hlt]; exact List.getElem_mem hlt)
      generalize l.getD i [] = x at *
      have HC := Aside0.mk (fun W (hW : Below wr.heap.size wr W) => sameI_calls A0 A2 c0 c2 x W (Kd.C_below hC hW) (Kd.C_below hC2 hW) hxl)
      clear hC hC2 erow
      go_wp2_with fail
      refine rs_ 10 (fun X => X.cell? (ad.add i) = some (.slice A0 x.length c0) ∧ X.cell? (ad2.add i) = some (.slice A2 x.length c2)) [] ⟨hx, hx2⟩ (fun hHeld => ?_)
      refine rp_ 0 17 ?_
      refine rp_ 1 18 ?_
      refine rp_ 2 19 ?_
      refine rt_ 3 20 ?_
      refine rp_ 4 21 ?_
      refine rp_ 5 22 ?_
      refine rp_ 6 23 ?_
      refine rt_ 7 24 ?_
      refine rc2_ 8 25 Try.func63 ?_
      have d1 := pw_below_drewN (Below.refl wr.heap.size wr) 1
      refine (HC.out _ d1).mono ?_
      rintro e w2 ⟨rfl, hb2⟩
      replace hb2 := d1.trans hb2
      refine ⟨_, rfl, ⟨cell_below hb2 hx, cell_below hb2 hx2⟩, fun hHeld => ?_⟩
      refine rn_ ?_
      refine rp_ 9 26 ?_
      refine rd2_ ?_
      have HB2 := Aside0.mk (HBEL.out.trans (hb2.mono HBEL.out.size))
      clear hb2 d1
      go_wp2_with fail
      exact ⟨⟨i + 1, by simp, hlt, HB2.out⟩, by simp [intOf]; omega⟩
    · go_wp2
      go_ret
      exact ⟨rfl, HBEL.out⟩
set_option maxRecDepth 100000 in
theorem sameF_calls (P M : Int) (mod : List Int) (v v2 : Value) (w : World) (hv : FldV w v P M mod) (hv2 : FldV w v2 P M mod) (hl : mod.length ≤ 1000000) :
    Calls Try.prog 37 #[v, v2] w fun e w' => e = .returned (.bool true) ∧ Below w.heap.size w w' := by
  obtain ⟨A, c, rfl, hc, hA⟩ := hv
  obtain ⟨B, d, rfl, hd, hB⟩ := hv2
  obtain ⟨W, hW⟩ : ∃ W, W = (w.alloc (.cells #[.int .i64 P, .int .i64 M, .slice A mod.length c] 25)).alloc (.cells #[.int .i64 P, .int .i64 M, .slice B mod.length d] 25) := ⟨_, rfl⟩
  have b1 : Below w.heap.size w W := by rw [hW]; exact below_alloc (below_alloc (Below.refl w.heap.size w) _) _
  have hm0 : W.heap[w.heap.size]? = some (.cells #[.int .i64 P, .int .i64 M, .slice A mod.length c] 25 (0, 0)) := by rw [hW]; exact blk_alloc (blk_new w _) _
  have hm1 : W.heap[w.heap.size + 1]? = some (.cells #[.int .i64 P, .int .i64 M, .slice B mod.length d] 25 (0, 0)) := by
    rw [hW]
    have := blk_new (w.alloc (.cells #[.int .i64 P, .int .i64 M, .slice A mod.length c] 25)) (.cells #[.int .i64 P, .int .i64 M, .slice B mod.length d] 25)
    simpa using this
  have HA := Aside0.mk (Kd.C_below hA b1)
  have HBB := Aside0.mk (Kd.C_below hB b1)
  have HB := Aside0.mk b1
  have HM0 := Aside0.mk hm0
  have HM1 := Aside0.mk hm1
  have HR0 : Aside0 (EqIn mod.length W (.int .i64 0) W) := ⟨0, rfl, Nat.zero_le _, Below.refl _ _⟩
  have hnP : (P != P) = false := by simp
  have hnM : (M != M) = false := by simp
  have hnL : ((mod.length : Int) != (mod.length : Int)) = false := by simp
  have HW := Aside0.mk hW
  rw [hW] at HR0
  clear hA hB b1 hm0 hm1 hW
  go_enter Try.func37, Try.ntmps37
  go_wp2_with fail
  go_loopw [5] (fun u wr => EqIn mod.length W u wr) (fun u _ => mod.length - (intOf u).toNat)
  case atStart => rw [← HW.out] at HR0 ⊢; exact HR0.out
  case round =>
    clear HR0
    obtain ⟨i, rfl, hi, hbel⟩ := hrel
    have HBEL := Aside0.mk hbel
    have x2 : wr.cell? ⟨w.heap.size, 2, none⟩ = some (.slice A mod.length c) := (blk_cell (blk_below HM0.out hbel) 2).trans rfl
    have x3 : wr.cell? ⟨w.heap.size + 1, 2, none⟩ = some (.slice B mod.length d) := (blk_cell (blk_below HM1.out hbel) 2).trans rfl
    clear hbel
    by_cases hlt : i < mod.length
    · obtain ⟨ad, e, hc⟩ := rd_at (Kd.C_below HA.out HBEL.out) (i : Int) (by omega) (by omega)
      rw [toNat_nat] at hc
      subst e
      obtain ⟨ad2, e2, hc2⟩ := rd_at (Kd.C_below HBB.out HBEL.out) (i : Int) (by omega) (by omega)
      rw [toNat_nat] at hc2
      subst e2
      generalize mod.getD i 0 = x at *
      have hxx : (x != x) = false := by simp
      go_wp2_with fail
      go_quiet (fail)
      go_wp2_with fail
      exact ⟨⟨i + 1, by simp, hlt, pw_below_drewN HBEL.out _⟩, by simp [intOf]; omega⟩
    · go_wp2
      go_ret
      exact ⟨rfl, HB.out.trans (HBEL.out.mono HB.out.size)⟩
set_option maxRecDepth 100000 in
theorem sameC_calls (P M : Int) (mod : List Int) (n : Int) (gen : List (List Int)) (v v2 : Value) (w : World) (hv : CodeV w v P M mod n gen) (hv2 : CodeV w v2 P M mod n gen) (hl : mod.length ≤ 1000000) (hg : gen.length ≤ 1000000) (hg2 : ∀ x ∈ gen, x.length ≤ 1000000) :
    Calls Try.prog 14 #[v, v2] w fun e w' => e = .returned (.bool true) ∧ Below w.heap.size w w' := by
  obtain ⟨Am, cm, Ag, cg, rfl, hcm, hCm, hcg, hCg⟩ := hv
  obtain ⟨Bm, dm, Bg, dg, rfl, hdm, hDm, hdg, hDg⟩ := hv2
  obtain ⟨W, hW⟩ : ∃ W, W = (w.alloc (.cells #[.int .i64 P, .int .i64 M, .slice Am mod.length cm, .int .i64 n, .slice Ag gen.length cg] 28)).alloc (.cells #[.int .i64 P, .int .i64 M, .slice Bm mod.length dm, .int .i64 n, .slice Bg gen.length dg] 28) := ⟨_, rfl⟩
  have b1 : Below w.heap.size w W := by rw [hW]; exact below_alloc (below_alloc (Below.refl w.heap.size w) _) _
  have hm0 : W.heap[w.heap.size]? = some (.cells #[.int .i64 P, .int .i64 M, .slice Am mod.length cm, .int .i64 n, .slice Ag gen.length cg] 28 (0, 0)) := by rw [hW]; exact blk_alloc (blk_new w _) _
  have hm1 : W.heap[w.heap.size + 1]? = some (.cells #[.int .i64 P, .int .i64 M, .slice Bm mod.length dm, .int .i64 n, .slice Bg gen.length dg] 28 (0, 0)) := by
    rw [hW]
    have := blk_new (w.alloc (.cells #[.int .i64 P, .int .i64 M, .slice Am mod.length cm, .int .i64 n, .slice Ag gen.length cg] 28)) (.cells #[.int .i64 P, .int .i64 M, .slice Bm mod.length dm, .int .i64 n, .slice Bg gen.length dg] 28)
    simpa using this
  have HF := Aside0.mk (sameF_calls P M mod _ _ W ⟨Am, cm, rfl, hcm, Kd.C_below hCm b1⟩ ⟨Bm, dm, rfl, hdm, Kd.C_below hDm b1⟩ hl)
  have HR := Aside0.mk (fun X (hX : Below W.heap.size W X) => sameR_calls Ag Bg cg dg gen X (Kd.C_below (Kd.C_below hCg b1) hX) (Kd.C_below (Kd.C_below hDg b1) hX) hg hg2)
  have HB := Aside0.mk b1
  have HM0 := Aside0.mk hm0
  have HM1 := Aside0.mk hm1
  have HW := Aside0.mk hW
  have hnn : (n == n) = true := by simp
  rw [hW] at HF
  clear hCm hCg hDm hDg b1 hm0 hm1 hW
  go_enter Try.func14, Try.ntmps14
  go_wp2_with (first | (go_at_call 37; refine HF.out.mono ?_; rintro e w2 ⟨rfl, hb2⟩; rw [← HW.out] at hb2; have HB2 := Aside0.mk hb2; have x3 : w2.cell? ⟨w.heap.size, 3, none⟩ = some (.int .i64 n) := (blk_cell (blk_below HM0.out hb2) 3).trans rfl; have x4 : w2.cell? ⟨w.heap.size, 4, none⟩ = some (.slice Ag gen.length cg) := (blk_cell (blk_below HM0.out hb2) 4).trans rfl; have z3 : w2.cell? ⟨w.heap.size + 1, 3, none⟩ = some (.int .i64 n) := (blk_cell (blk_below HM1.out hb2) 3).trans rfl; have z4 : w2.cell? ⟨w.heap.size + 1, 4, none⟩ = some (.slice Bg gen.length dg) := (blk_cell (blk_below HM1.out hb2) 4).trans rfl; clear hb2) | (go_at_call 38; refine (HR.out _ HB2.out).mono ?_; rintro e w3 ⟨rfl, hb3⟩; have HB3 := Aside0.mk (HB2.out.trans (hb3.mono HB2.out.size)); clear hb3))
  go_ret
  exact ⟨rfl, HB.out.trans (HB3.out.mono HB.out.size)⟩
theorem alive15_calls (w : World) : Calls Try.prog 11 #[] w fun e w' => e = .returned (.bool true) ∧ Below w.heap.size w w' := by
  have hb := below_alloc (Below.refl w.heap.size w) (.cells #[.int .i64 0, .int .i64 1] 3)
  have hx : IntX (w.alloc (.cells #[.int .i64 0, .int .i64 1] 3)) w.heap.size [0, 1] := blk_new w _
  have HE := Aside0.mk (ev_calls 2 (some ⟨w.heap.size, 0, none⟩) 2 [0, 1] _ (by omega) (by decide) (hx.row.C (by simp)) (by simp))
  have HB := Aside0.mk hb
  clear hb hx
  go_enter Try.func11, Try.ntmps11
  go_wp2_with (go_at_call 21; refine HE.out.mono ?_; rintro e w2 ⟨b, rfl, _, hr, hb2⟩; have HB2 := Aside0.mk (HB.out.trans (hb2.mono HB.out.size)); have k0 : w2.cell? ⟨b, 0, none⟩ = some (.int .i64 0) := hr.cell 0 (by decide); have k1 : w2.cell? ⟨b, 1, none⟩ = some (.int .i64 0) := hr.cell 1 (by decide); have k2 : w2.cell? ⟨b, 2, none⟩ = some (.int .i64 0) := hr.cell 2 (by decide); have k3 : w2.cell? ⟨b, 3, none⟩ = some (.int .i64 1) := hr.cell 3 (by decide); clear hr hb2)
  go_ret
  exact ⟨rfl, HB2.out⟩
end Go.Proofs.Ytekenifndicdeaa.P
