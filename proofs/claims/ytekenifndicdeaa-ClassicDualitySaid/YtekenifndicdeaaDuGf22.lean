/- Walk: code.Dual of a canonical code. -/
import Derived.Test.YtekenifndicdeaaDuGf19
namespace Go.Proofs.Ytekenifndicdeaa.P
open Go.RowKit Go.Proofs.YtekenifndicdeaaW.PrintWords Go.Proofs.YtekenifndicdeaaW.PrintLast Go.Proofs.YtekenifndicdeaaW.PrintMore Go.Proofs.Ytekenifndicdeaa.B
attribute [local go_sem] max2_int min2_int max_two min_two max_three min_three max_four min_four
set_option linter.unusedVariables false
set_option linter.unusedSimpArgs false
def DualPost (P M : Int) (mod : List Int) (F : Fr) (n : Nat) (rows : List (List Int)) (w : World) (e : Ending) (w' : World) : Prop := ∃ v, e = .returned (.tuple #[v, .int .i64 0]) ∧ CodeN w.heap.size w' v P M mod (n : Int) (nullS F n rows) ∧ Below w.heap.size w w'
def DualCut (F : Fr) (n : Nat) (rows : List (List Int)) (w2 : World) (v5 v6 : Value) (wc : World) : Prop := ∃ b A c, v5 = .pointer (some ⟨b, 0, none⟩) ∧ v6 = .int .i64 0 ∧ wc.heap[b]? = some (.cells #[.int .i64 (n : Int), .slice A (nullS F n rows).length c] 56 (0, 0)) ∧ MatN w2.heap.size wc (.slice A (nullS F n rows).length c) (nullS F n rows) ∧ Below w2.heap.size w2 wc ∧ w2.heap.size ≤ b
theorem dualcut {F : Fr} {n : Nat} {rows : List (List Int)} {w2 w5 w6 : World} {B b : Nat} {A : Option Addr} {c : Nat} (hb : w6.heap[b]? = some (.cells #[.int .i64 0, .slice none 0 0] 56 (0, 0))) (hM : MatN B w5 (.slice A (nullS F n rows).length c) (nullS F n rows)) (ht0 : Tch (fun k => k < B) w5 w6) (hB : w2.heap.size ≤ B) (h6 : Below w2.heap.size w2 w6) (hbl : w2.heap.size ≤ b) (hbB : b < B ∨ w5.heap.size ≤ b) :
    DualCut F n rows w2 (.pointer (some ⟨b, 0, none⟩)) (.int .i64 0) ((w6.setCell ⟨b, 0, none⟩ (.int .i64 (n : Int))).setCell ⟨b, 1, none⟩ (.slice A (nullS F n rows).length c)) := by
  have hfin := blk_set (blk_set hb 0 (.int .i64 (n : Int))) 1 (.slice A (nullS F n rows).length c)
  exact ⟨b, A, c, rfl, rfl, by simpa using hfin, hM.step ((ht0.set hbB _).set hbB _) hB, (h6.setCell hbl _).setCell hbl _, hbl⟩
set_option maxRecDepth 100000 in
set_option maxHeartbeats 1000000 in
theorem dual_calls (P M : Int) (mod : List Int) (F : Fr) (hN : NewSays P M mod F) (hml : mod.length ≤ 1000000) (v : Value) (n : Nat) (rows : List (List Int)) (w : World) (hv : CodeV w v P M mod (n : Int) rows) (hK : Canon F n rows) (h64 : n ≤ 64) :
    Calls Try.prog 13 #[v] w (DualPost P M mod F n rows w) := by
  have hv0 := hv
  obtain ⟨Am, cm, Ag, cg, rfl, hcm, hCm, hcg, hCg⟩ := hv
  obtain ⟨W, hW⟩ : ∃ W, W = (w.alloc (.cells #[.int .i64 P, .int .i64 M, .slice Am mod.length cm, .int .i64 (n : Int), .slice Ag rows.length cg] 28)).alloc (.cells #[.int .i64 0, .int .i64 0, .slice none 0 0, .int .i64 0, .slice none 0 0] 28) := ⟨_, rfl⟩
  have b1 : Below w.heap.size w W := by rw [hW]; exact below_alloc (below_alloc (Below.refl w.heap.size w) _) _
  have hm0 : W.heap[w.heap.size]? = some (.cells #[.int .i64 P, .int .i64 M, .slice Am mod.length cm, .int .i64 (n : Int), .slice Ag rows.length cg] 28 (0, 0)) := by rw [hW]; exact blk_alloc (blk_new w _) _
  have hm1 : W.heap[w.heap.size + 1]? = some (.cells #[.int .i64 0, .int .i64 0, .slice none 0 0, .int .i64 0, .slice none 0 0] 28 (0, 0)) := by
    rw [hW]
    have := blk_new (w.alloc (.cells #[.int .i64 P, .int .i64 M, .slice Am mod.length cm, .int .i64 (n : Int), .slice Ag rows.length cg] 28)) (.cells #[.int .i64 0, .int .i64 0, .slice none 0 0, .int .i64 0, .slice none 0 0] 28)
    simpa using this
  have HFV := Aside0.mk (show FldV W (.agg #[.int .i64 P, .int .i64 M, .slice Am mod.length cm]) P M mod from ⟨Am, cm, rfl, hcm, Kd.C_below hCm b1⟩)
  have HG := Aside0.mk (Kd.C_below hCg b1)
  have HB := Aside0.mk b1
  have HM0 := Aside0.mk hm0
  have HM1 := Aside0.mk hm1
  have HK := Aside0.mk hK
  have HW := Aside0.mk hW
  have HCH := Aside0.mk (ccheck_calls P M mod F hN _ n rows W (hv0.below b1) hK h64)
  rw [hW] at HCH
  clear hCm hCg b1 hm0 hm1 hK hW hv0
  unfold DualPost
  go_enter Try.func13, Try.ntmps13
  go_wp2_with (go_at_call 33; refine HCH.out.mono ?_; rintro e w2 ⟨rfl, hb2⟩; rw [← HW.out] at hb2; have HB2 := Aside0.mk hb2; have y0 : w2.cell? ⟨w.heap.size, 0, none⟩ = some (.int .i64 P) := (blk_cell (blk_below HM0.out hb2) 0).trans rfl; have y1 : w2.cell? ⟨w.heap.size, 1, none⟩ = some (.int .i64 M) := (blk_cell (blk_below HM0.out hb2) 1).trans rfl; have y2 : w2.cell? ⟨w.heap.size, 2, none⟩ = some (.slice Am mod.length cm) := (blk_cell (blk_below HM0.out hb2) 2).trans rfl; have y3 : w2.cell? ⟨w.heap.size, 3, none⟩ = some (.int .i64 (n : Int)) := (blk_cell (blk_below HM0.out hb2) 3).trans rfl; have y4 : w2.cell? ⟨w.heap.size, 4, none⟩ = some (.slice Ag rows.length cg) := (blk_cell (blk_below HM0.out hb2) 4).trans rfl; clear hb2)
  have HN2 := Aside0.mk (fun X (hX : Below w2.heap.size w2 X) => show X.cell? ⟨w.heap.size, 0, none⟩ = some (.int .i64 P) ∧ X.cell? ⟨w.heap.size, 1, none⟩ = some (.int .i64 M) ∧ X.cell? ⟨w.heap.size, 2, none⟩ = some (.slice Am mod.length cm) ∧ X.cell? ⟨w.heap.size, 3, none⟩ = some (.int .i64 (n : Int)) ∧ X.cell? ⟨w.heap.size, 4, none⟩ = some (.slice Ag rows.length cg) from ⟨cell_below (hX) y0, cell_below (hX) y1, cell_below (hX) y2, cell_below (hX) y3, cell_below (hX) y4⟩)
  have HGEN := Aside0.mk (fun X => gen_calls P M Am mod.length cm (n : Int) Ag rows.length cg X)
  have HKER := Aside0.mk (fun X (hX : Below w2.heap.size w2 X) => kernel_calls P M mod F hN _ n Ag cg rows X (HFV.out.below (HB2.out.trans (hX.mono HB2.out.size))) (Kd.C_below HG.out (HB2.out.trans (hX.mono HB2.out.size))) hcg HK.out.chk HK.out.pos)
  unfold KerPost at HKER
  have hal := fun (X : World) => below_alloc (Below.refl X.heap.size X) (.cells #[.int .i64 0, .slice none 0 0] 56)
  go_cut [5, 6] (fun v5 v6 wc => DualCut F n rows w2 v5 v6 wc)
  case first =>
    refine rs_ 11 (fun X => X.cell? ⟨w.heap.size, 0, none⟩ = some (.int .i64 P) ∧ X.cell? ⟨w.heap.size, 1, none⟩ = some (.int .i64 M) ∧ X.cell? ⟨w.heap.size, 2, none⟩ = some (.slice Am mod.length cm) ∧ X.cell? ⟨w.heap.size, 3, none⟩ = some (.int .i64 (n : Int)) ∧ X.cell? ⟨w.heap.size, 4, none⟩ = some (.slice Ag rows.length cg)) [9, 10] ⟨y0, y1, y2, y3, y4⟩ (fun hHeld => ?_)
    refine rp_ 0 14 ?_
    refine rt_ 1 15 ?_
    refine rt_ 2 16 ?_
    have d1 := pw_below_drewN (Below.refl w2.heap.size w2) 1
    refine r2_ 3 17 8 5 Try.func35 ?_ ?_
    · refine (HGEN.out _).mono ?_
      rintro e w4 ⟨rfl, hb4⟩
      replace hb4 := d1.trans hb4
      refine ⟨_, rfl, HN2.out _ hb4, fun hHeld => ?_⟩
      refine rn_ ?_
      refine r2_ 4 18 8 5 Try.func34 ?_ ?_
      · refine (HKER.out _ hb4).mono ?_
        rintro e w5 ⟨vm, rfl, hM, hb5⟩
        obtain ⟨A5, c5, rfl, hl5, hC5⟩ := id hM
        have hb6 := hb4.trans (hb5.mono hb4.size)
        refine ⟨_, rfl, HN2.out _ hb6, fun hHeld => ?_⟩
        refine rn_ ?_
        refine rp_ 5 13 ?_
        refine rp_ 6 19 ?_
        refine rp_ 7 20 ?_
        refine rv_ 8 5 ⟨HN2.out _ (hb6.trans ((hal w5).mono hb6.size)), fun hHeld => ?_⟩
        refine rn_ ?_
        have hbn := blk_new w5 (.cells #[.int .i64 0, .slice none 0 0] 56)
        have q0 : (w5.alloc (.cells #[.int .i64 0, .slice none 0 0] 56)).cell? ⟨w5.heap.size, 0, none⟩ = some (.int .i64 0) := (blk_cell hbn 0).trans rfl
        have q1 : (w5.alloc (.cells #[.int .i64 0, .slice none 0 0] 56)).cell? ⟨w5.heap.size, 1, none⟩ = some (.slice none 0 0) := (blk_cell hbn 1).trans rfl
        have q2 : (w5.alloc (.cells #[.int .i64 0, .slice none 0 0] 56)).frozen? ⟨w5.heap.size, 0, none⟩ = false := blk_frozen hbn 0
        have q3 : (w5.alloc (.cells #[.int .i64 0, .slice none 0 0] 56)).frozen? ⟨w5.heap.size, 1, none⟩ = false := blk_frozen hbn 1
        refine rl_ 9 ?_
        refine rp_ 10 6 ?_
        refine rd2_ ?_
        go_wp2_with fail
        go_meet
        case rel => exact ⟨w5.heap.size, A5, c5, rfl, rfl, blk_new w5 _, hM.step (Tch.of_below (below_alloc (Below.refl _ _) _) _) hb4.size, hb6.trans ((below_alloc (Below.refl w5.heap.size w5) _).mono hb6.size), hb6.size⟩
      · have hb5 := hb4.trans ((hal w4).mono hb4.size)
        refine ⟨HN2.out _ hb5, fun hHeld => ?_⟩
        refine rn_ ?_
        have hbn := blk_new w4 (.cells #[.int .i64 0, .slice none 0 0] 56)
        have hlt : w4.heap.size < (w4.alloc (.cells #[.int .i64 0, .slice none 0 0] 56)).heap.size := blk_lt hbn
        refine rc2_ 4 18 Try.func34 ?_
        refine (HKER.out _ hb5).mono ?_
        rintro e w5 ⟨vm, rfl, hM, hb7⟩
        obtain ⟨A5, c5, rfl, hl5, hC5⟩ := id hM
        have hb6 := hb5.trans (hb7.mono hb5.size)
        have hbn5 := blk_below hbn hb7
        refine ⟨_, rfl, HN2.out _ hb6, fun hHeld => ?_⟩
        refine rn_ ?_
        refine rp_ 5 13 ?_
        refine rp_ 6 19 ?_
        refine rp_ 7 20 ?_
        have q0 : w5.cell? ⟨w4.heap.size, 0, none⟩ = some (.int .i64 0) := (blk_cell hbn5 0).trans rfl
        have q1 : w5.cell? ⟨w4.heap.size, 1, none⟩ = some (.slice none 0 0) := (blk_cell hbn5 1).trans rfl
        have q2 : w5.frozen? ⟨w4.heap.size, 0, none⟩ = false := blk_frozen hbn5 0
        have q3 : w5.frozen? ⟨w4.heap.size, 1, none⟩ = false := blk_frozen hbn5 1
        refine rl_ 9 ?_
        refine rp_ 10 6 ?_
        refine rd2_ ?_
        go_wp2_with fail
        go_meet
        case rel => exact dualcut hbn5 hM (Tch.refl _ _) hb5.size hb6 hb4.size (.inl hlt)
    · have hb3 := d1.trans ((hal (w2.drewN 1)).mono d1.size)
      have hb3' : Below w2.heap.size w2 (w2.drew.alloc (.cells #[.int .i64 0, .slice none 0 0] 56)) := hb3
      have hbn := blk_new w2.drew (.cells #[.int .i64 0, .slice none 0 0] 56)
      refine ⟨HN2.out _ hb3, fun hHeld => ?_⟩
      refine rn_ ?_
      refine rc2_ 3 17 Try.func35 ?_
      refine (HGEN.out _).mono ?_
      rintro e w4 ⟨rfl, hb4⟩
      have hbn4 := blk_below hbn hb4
      have hb5 := hb3.trans (hb4.mono hb3.size)
      refine ⟨_, rfl, HN2.out _ hb5, fun hHeld => ?_⟩
      refine rn_ ?_
      refine rc2_ 4 18 Try.func34 ?_
      refine (HKER.out _ hb5).mono ?_
      rintro e w5 ⟨vm, rfl, hM, hb7⟩
      obtain ⟨A5, c5, rfl, hl5, hC5⟩ := id hM
      have hb6 := hb5.trans (hb7.mono hb5.size)
      have hbn5 := blk_below hbn4 hb7
      refine ⟨_, rfl, HN2.out _ hb6, fun hHeld => ?_⟩
      refine rn_ ?_
      refine rp_ 5 13 ?_
      refine rp_ 6 19 ?_
      refine rp_ 7 20 ?_
      have q0 : w5.cell? ⟨w2.heap.size, 0, none⟩ = some (.int .i64 0) := (blk_cell hbn5 0).trans rfl
      have q1 : w5.cell? ⟨w2.heap.size, 1, none⟩ = some (.slice none 0 0) := (blk_cell hbn5 1).trans rfl
      have q2 : w5.frozen? ⟨w2.heap.size, 0, none⟩ = false := blk_frozen hbn5 0
      have q3 : w5.frozen? ⟨w2.heap.size, 1, none⟩ = false := blk_frozen hbn5 1
      refine rl_ 9 ?_
      refine rp_ 10 6 ?_
      refine rd2_ ?_
      go_wp2_with fail
      go_meet
      case rel => exact dualcut hbn5 hM (Tch.refl _ _) hb5.size hb6 (Nat.le_refl _) (.inl (blk_lt hbn4))
  case rest =>
    obtain ⟨b, A, c, rfl, rfl, hb, hM, hbc, hlb⟩ := hcut
    have x0 : wc.cell? ⟨b, 0, none⟩ = some (.int .i64 (n : Int)) := (blk_cell hb 0).trans rfl
    have x1 : wc.cell? ⟨b, 1, none⟩ = some (.slice A (nullS F n rows).length c) := (blk_cell hb 1).trans rfl
    have hbw := HB2.out.trans (hbc.mono HB2.out.size)
    have HN3 := HN2.out _ hbc
    obtain ⟨y0, y1, y2, y3, y4⟩ := HN3
    have HOF := Aside0.mk (of_calls P M mod _ (n : Int) A (nullS F n rows).length c wc (HFV.out.below hbw) hml)
    have HMN := Aside0.mk hM
    have HBW := Aside0.mk hbw
    have HBC := Aside0.mk hbc
    have h1w : w.heap.size + 1 < W.heap.size := blk_lt HM1.out
    have s2 := HB2.out.size
    have s3 := hbc.size
    unfold OfPost at HOF
    clear hb hM hbc hbw hal
    go_wp2_with (go_at_call 36; refine HOF.out.mono ?_; rintro e w6 ⟨A6, c6, rfl, hI, hb6⟩; have HI := Aside0.mk hI; have g6 := blk_below (blk_below HM1.out HBW.out) hb6; have z0 : w6.cell? ⟨w.heap.size + 1, 0, none⟩ = some (.int .i64 0) := (blk_cell g6 0).trans rfl; have z1 : w6.cell? ⟨w.heap.size + 1, 1, none⟩ = some (.int .i64 0) := (blk_cell g6 1).trans rfl; have z2 : w6.cell? ⟨w.heap.size + 1, 2, none⟩ = some (.slice none 0 0) := (blk_cell g6 2).trans rfl; have z3 : w6.cell? ⟨w.heap.size + 1, 3, none⟩ = some (.int .i64 0) := (blk_cell g6 3).trans rfl; have z4 : w6.cell? ⟨w.heap.size + 1, 4, none⟩ = some (.slice none 0 0) := (blk_cell g6 4).trans rfl; have f0 : w6.frozen? ⟨w.heap.size + 1, 0, none⟩ = false := blk_frozen g6 0; have f1 : w6.frozen? ⟨w.heap.size + 1, 1, none⟩ = false := blk_frozen g6 1; have f2 : w6.frozen? ⟨w.heap.size + 1, 2, none⟩ = false := blk_frozen g6 2; have f3 : w6.frozen? ⟨w.heap.size + 1, 3, none⟩ = false := blk_frozen g6 3; have f4 : w6.frozen? ⟨w.heap.size + 1, 4, none⟩ = false := blk_frozen g6 4; have HG6 := Aside0.mk g6; have HB6 := Aside0.mk hb6; clear g6 hI hb6)
    have hfin := blk_set (blk_set (blk_set (blk_set (blk_set HG6.out 0 (.int .i64 P)) 1 (.int .i64 M)) 2 (.slice A6 mod.length c6)) 3 (.int .i64 (n : Int))) 4 (.slice A (nullS F n rows).length c)
    refine bodyPost_ret (results_list (rs := [.cell 2 28, .tmp 3]) rfl (by simp) (.cell (w.heap.size + 1) 28 #[.int .i64 P, .int .i64 M, .slice A6 mod.length c6, .int .i64 (n : Int), .slice A (nullS F n rows).length c] (0, 0) _ rfl (by simpa using hfin) Try.underlying28 rfl (by kernel_rfl) (.tmp .nil))) rfl ?_
    have ht : ∀ B, w.heap.size + 1 < B → Tch (fun k => k < B) w6 (((((w6.setCell ⟨w.heap.size + 1, 0, none⟩ (.int .i64 P)).setCell ⟨w.heap.size + 1, 1, none⟩ (.int .i64 M)).setCell ⟨w.heap.size + 1, 2, none⟩ (.slice A6 mod.length c6)).setCell ⟨w.heap.size + 1, 3, none⟩ (.int .i64 (n : Int))).setCell ⟨w.heap.size + 1, 4, none⟩ (.slice A (nullS F n rows).length c)) := fun B hB =>
      (((((Tch.refl (fun k => k < B) w6).set (.inl (by show w.heap.size + 1 < _; omega)) _).set (.inl (by show w.heap.size + 1 < _; omega)) _).set (.inl (by show w.heap.size + 1 < _; omega)) _).set (.inl (by show w.heap.size + 1 < _; omega)) _).set (.inl (by show w.heap.size + 1 < _; omega)) _
    have t1 := HB.out.trans (HBW.out.mono HB.out.size)
    have t2 := t1.trans (HB6.out.mono t1.size)
    refine ⟨_, rfl, ⟨_, _, _, _, rfl, HI.out.step (ht _ (by omega)) (by omega), (HMN.out.below HB6.out).step (ht _ (by omega)) (by omega)⟩, ?_⟩
    exact ((((t2.setCell (by simp) _).setCell (by simp) _).setCell (by simp) _).setCell (by simp) _).setCell (by simp) _
end Go.Proofs.Ytekenifndicdeaa.P
