/- The field of two elements: New, Check. -/
import Derived.Test.YtekenifndicdeaaDuGf16
namespace Go.Proofs.Ytekenifndicdeaa.P
open Go.RowKit Go.Proofs.YtekenifndicdeaaW.PrintWords Go.Proofs.YtekenifndicdeaaW.PrintLast Go.Proofs.YtekenifndicdeaaW.PrintMore Go.Proofs.Ytekenifndicdeaa.B
attribute [local go_sem] max2_int min2_int max_two min_two max_three min_three max_four min_four
set_option linter.unusedVariables false
set_option linter.unusedSimpArgs false
theorem F2_ok : F2.Ok := by
  refine ⟨by decide, by decide, by decide, rfl, rfl, fun i hi => ?_, fun i hi => ?_⟩
  · have : i = 0 := by simp [F2] at hi; omega
    subst this; decide
  · have : i = 0 ∨ i = 1 := by simp [F2] at hi; omega
    rcases this with rfl | rfl <;> decide
theorem F2_fld : Fld F2.ops := by
  have el : ∀ {x : Int}, F2.ops.El x → x = 0 ∨ x = 1 := fun {x} h => (el2 x).1 h
  have e0 : F2.ops.El 0 := (el2 0).2 (.inl rfl)
  have e1 : F2.ops.El 1 := (el2 1).2 (.inr rfl)
  have a00 : F2.ops.add 0 0 = 0 := by rfl
  have a01 : F2.ops.add 0 1 = 1 := by rfl
  have a10 : F2.ops.add 1 0 = 1 := by rfl
  have a11 : F2.ops.add 1 1 = 0 := by rfl
  have m00 : F2.ops.mul 0 0 = 0 := by rfl
  have m01 : F2.ops.mul 0 1 = 0 := by rfl
  have m10 : F2.ops.mul 1 0 = 0 := by rfl
  have m11 : F2.ops.mul 1 1 = 1 := by rfl
  have n0 : F2.ops.neg 0 = 0 := by rfl
  have n1 : F2.ops.neg 1 = 1 := by rfl
  have i1 : F2.ops.inv 1 = 1 := by rfl
  refine ⟨e0, e1, ?_, ?_, ?_, ?_, ?_, ?_, ?_, ?_, ?_, ?_, ?_, ?_, ?_⟩
  · intro a b ha hb; rcases el ha with rfl | rfl <;> rcases el hb with rfl | rfl <;> simp only [a00, a01, a10, a11, e0, e1]
  · intro a b ha hb; rcases el ha with rfl | rfl <;> rcases el hb with rfl | rfl <;> simp only [m00, m01, m10, m11, e0, e1]
  · intro a ha; rcases el ha with rfl | rfl <;> simp only [n0, n1, e0, e1]
  · intro a ha h; rcases el ha with rfl | rfl
    · exact absurd rfl h
    · rw [i1]; exact e1
  · intro a b ha hb; rcases el ha with rfl | rfl <;> rcases el hb with rfl | rfl <;> simp only [a00, a01, a10, a11]
  · intro a b c ha hb hc; rcases el ha with rfl | rfl <;> rcases el hb with rfl | rfl <;> rcases el hc with rfl | rfl <;> simp only [a00, a01, a10, a11]
  · intro a ha; rcases el ha with rfl | rfl <;> simp only [a00, a10]
  · intro a ha; rcases el ha with rfl | rfl <;> simp only [n0, n1, a00, a11]
  · intro a b ha hb; rcases el ha with rfl | rfl <;> rcases el hb with rfl | rfl <;> simp only [m00, m01, m10, m11]
  · intro a b c ha hb hc; rcases el ha with rfl | rfl <;> rcases el hb with rfl | rfl <;> rcases el hc with rfl | rfl <;> simp only [m00, m01, m10, m11]
  · intro a ha; rcases el ha with rfl | rfl <;> simp only [m10, m11]
  · intro a b c ha hb hc; rcases el ha with rfl | rfl <;> rcases el hb with rfl | rfl <;> rcases el hc with rfl | rfl <;> simp only [a00, a01, a10, a11, m00, m01, m10, m11]
  · intro a ha h; rcases el ha with rfl | rfl
    · exact absurd rfl h
    · rw [i1]; exact m11
theorem mk2_run (X : World) : (Instr.makeSlice 23 (.int .i64 2) (.int .i64 2)).run Try.prog X = .ok (.slice (some ⟨X.heap.size, 0, none⟩) 2 2) (X.alloc (.cells #[.int .i64 0, .int .i64 0] 3)) := by
  obtain ⟨i, hi, hz0, hz1, hz2⟩ := info_parts info3
  have hr := run_make (P := Try.prog) X 23 3 i _ Try.underlying23 hi hz0 .i64 .i64 (2 : Nat) (2 : Nat) (by omega) (Int.le_refl _) (by rw [hz2]; decide) (by decide)
  rw [hz1] at hr
  have e : madeCells (Value.int IntKind.i64 0).cells (((2 : Nat) : Int).toNat * 1) = #[.int .i64 0, .int .i64 0] := by
    apply Array.ext'
    simp [madeCells, Value.cells]
    rfl
  rw [e] at hr
  exact hr
def NewMid (w3 : World) (b : Nat) (v : Value) (wc : World) : Prop := ∃ g bm bl, v = .pointer (some ⟨g, 0, none⟩) ∧ wc.heap[g]? = some (.cells #[.int .i64 2, .int .i64 1, .slice (some ⟨bm, 0, none⟩) 0 0, .int .i64 2, .slice (some ⟨b, 0, none⟩) 1 1, .slice (some ⟨bl, 0, none⟩) 2 2] 112 (0, 0)) ∧ IntX wc bm [] ∧ IntX wc bl [0, 0] ∧ Below w3.heap.size w3 wc ∧ w3.heap.size ≤ bl ∧ w3.heap.size ≤ bm ∧ bl < g ∧ bm < g ∧ bm ≠ bl
theorem newmid1 (w3 : World) (b : Nat) : NewMid w3 b (.pointer (some ⟨w3.heap.size + 1 + 1, 0, none⟩)) (((w3.alloc (.cells #[] 3)).alloc (.cells #[.int .i64 0, .int .i64 0] 3)).alloc (.cells #[.int .i64 2, .int .i64 1, .slice (some ⟨w3.heap.size, 0, none⟩) 0 0, .int .i64 2, .slice (some ⟨b, 0, none⟩) 1 1, .slice (some ⟨w3.heap.size + 1, 0, none⟩) 2 2] 112)).drew := by
  refine ⟨w3.heap.size + 1 + 1, w3.heap.size, w3.heap.size + 1, rfl, ?_, ?_, ?_, below_drew1 (below_alloc (below_alloc (below_alloc (Below.refl _ _) _) _) _), by omega, by omega, by omega, by omega, by omega⟩
  · have := blk_new ((w3.alloc (.cells #[] 3)).alloc (.cells #[.int .i64 0, .int .i64 0] 3)) (.cells #[.int .i64 2, .int .i64 1, .slice (some ⟨w3.heap.size, 0, none⟩) 0 0, .int .i64 2, .slice (some ⟨b, 0, none⟩) 1 1, .slice (some ⟨w3.heap.size + 1, 0, none⟩) 2 2] 112)
    simp only [World.size_alloc] at this
    exact this
  · have := blk_new w3 (.cells #[] 3)
    exact blk_alloc (blk_alloc (by simpa using this) _) _
  · have := blk_new (w3.alloc (.cells #[] 3)) (.cells #[.int .i64 0, .int .i64 0] 3)
    exact blk_alloc (by simpa using this) _
theorem newmid2 (w3 : World) (b : Nat) : NewMid w3 b (.pointer (some ⟨w3.heap.size + 1 + 1, 0, none⟩)) (((w3.alloc (.cells #[.int .i64 0, .int .i64 0] 3)).alloc (.cells #[] 3)).alloc (.cells #[.int .i64 2, .int .i64 1, .slice (some ⟨w3.heap.size + 1, 0, none⟩) 0 0, .int .i64 2, .slice (some ⟨b, 0, none⟩) 1 1, .slice (some ⟨w3.heap.size, 0, none⟩) 2 2] 112)).drew := by
  refine ⟨w3.heap.size + 1 + 1, w3.heap.size + 1, w3.heap.size, rfl, ?_, ?_, ?_, below_drew1 (below_alloc (below_alloc (below_alloc (Below.refl _ _) _) _) _), by omega, by omega, by omega, by omega, by omega⟩
  · have := blk_new ((w3.alloc (.cells #[.int .i64 0, .int .i64 0] 3)).alloc (.cells #[] 3)) (.cells #[.int .i64 2, .int .i64 1, .slice (some ⟨w3.heap.size + 1, 0, none⟩) 0 0, .int .i64 2, .slice (some ⟨b, 0, none⟩) 1 1, .slice (some ⟨w3.heap.size, 0, none⟩) 2 2] 112)
    simp only [World.size_alloc] at this
    exact this
  · have := blk_new (w3.alloc (.cells #[.int .i64 0, .int .i64 0] 3)) (.cells #[] 3)
    exact blk_alloc (by simpa using this) _
  · have := blk_new w3 (.cells #[.int .i64 0, .int .i64 0] 3)
    exact blk_alloc (blk_alloc (by simpa using this) _) _
set_option maxHeartbeats 2000000 in
set_option maxRecDepth 100000 in
theorem new2 (v : Value) (w : World) (hv : FldV w v 2 1 []) : Calls Try.prog 83 #[v] w (NewPost F2 w) := by
  have hv0 := hv
  obtain ⟨A0, c0, rfl, hml, hmC⟩ := hv
  obtain ⟨W, hW⟩ : ∃ W, W = w.alloc (.cells #[.int .i64 2, .int .i64 1, .slice A0 0 c0] 25) := ⟨_, rfl⟩
  have hb : Below w.heap.size w W := by rw [hW]; exact below_alloc (Below.refl w.heap.size w) _
  have hf : W.heap[w.heap.size]? = some (.cells #[.int .i64 2, .int .i64 1, .slice A0 0 c0] 25 (0, 0)) := by rw [hW]; exact blk_new w _
  have HB := Aside0.mk hb
  have HF := Aside0.mk hf
  have HW := Aside0.mk hW
  have HFV := Aside0.mk (hv0.below hb)
  have hs : w.heap.size < W.heap.size := blk_lt hf
  clear hmC hb hf hv0
  have p0 : W.cell? ⟨w.heap.size, 0, none⟩ = some (.int .i64 2) := (blk_cell HF.out 0).trans rfl
  have p1 : W.cell? ⟨w.heap.size, 1, none⟩ = some (.int .i64 1) := (blk_cell HF.out 1).trans rfl
  have p2 : W.cell? ⟨w.heap.size, 2, none⟩ = some (.slice A0 0 c0) := (blk_cell HF.out 2).trans rfl
  rw [hW] at p0 p1 p2
  clear hW
  have heq := fun (X : World) b => Go.Lib.run_eql_slice_nil (P := Try.prog) X 23 3 (some ⟨b, 0, none⟩) 1 1 0 0 Try.underlying23
  have hmk := mk2_run
  have hst : ∀ (X : World) a, (storeCells a (#[] : Array Value).toList).run Try.prog X = .ok () X := fun X a => by simp [storeCells]
  have hst2 : ∀ (X : World) a, (storeCells a ([] : List Value)).run Try.prog X = .ok () X := fun X a => by simp [storeCells]
  go_enter Try.func83, Try.ntmps83
  go_wp2_with (first | (go_at_call 80; rw [← HW.out]; refine (shape2 _ _ HFV.out).mono ?_; rintro e w2 ⟨rfl, hb2⟩; rw [← HW.out] at p0 p1 p2; have HB2 := Aside0.mk hb2; have g0 := cell_below hb2 p0; have g1 := cell_below hb2 p1; have g2 := cell_below hb2 p2; clear hb2 p0 p1 p2) | (go_at_call 82; refine (order2 _).mono ?_; rintro e w' ⟨rfl, rfl⟩) | (go_at_call 81; refine (generator2 _ _ (HFV.out.below HB2.out)).mono ?_; rintro e w3 ⟨b, rfl, hlo, hx3, hb3⟩; have HX3 := Aside0.mk hx3; have HB3 := Aside0.mk hb3; have q0 := cell_below hb3 g0; have q1 := cell_below hb3 g1; have q2 := cell_below hb3 g2; clear g0 g1 g2 hb3 hx3))
  have r0 : ∀ o, (w3.alloc o).cell? ⟨w.heap.size, 0, none⟩ = some (.int .i64 2) := fun o => cell_below (below_alloc (Below.refl _ _) o) q0
  have r1 : ∀ o, (w3.alloc o).cell? ⟨w.heap.size, 1, none⟩ = some (.int .i64 1) := fun o => cell_below (below_alloc (Below.refl _ _) o) q1
  have r2 : ∀ o, (w3.alloc o).cell? ⟨w.heap.size, 2, none⟩ = some (.slice A0 0 c0) := fun o => cell_below (below_alloc (Below.refl _ _) o) q2
  have r3 : ∀ o o', ((w3.alloc o).alloc o').cell? ⟨w.heap.size, 0, none⟩ = some (.int .i64 2) := fun o o' => cell_below (below_alloc (below_alloc (Below.refl _ _) o) o') q0
  have r4 : ∀ o o', ((w3.alloc o).alloc o').cell? ⟨w.heap.size, 1, none⟩ = some (.int .i64 1) := fun o o' => cell_below (below_alloc (below_alloc (Below.refl _ _) o) o') q1
  have r5 : ∀ o o', ((w3.alloc o).alloc o').cell? ⟨w.heap.size, 2, none⟩ = some (.slice A0 0 c0) := fun o o' => cell_below (below_alloc (below_alloc (Below.refl _ _) o) o') q2
  cases A0
  all_goals
    go_cut [6] (fun v wc => NewMid w3 b v wc)
    case first =>
      go_region
      all_goals go_wp2_with fail
      all_goals go_meet
      all_goals (first | exact newmid1 w3 b | exact newmid2 w3 b)
    case rest =>
      obtain ⟨g, bm, bl, rfl, hg, hm, hl, hbc, hlo2, hlo3, hlg, hmg, hml2⟩ := hcut
      have x1 : wc.cell? ⟨b, 0, none⟩ = some (.int .i64 1) := (HX3.out.keep (hbc.block _ (blk_lt HX3.out))).row.cell 0 (by simp)
      have x2 : wc.cell? ⟨g, 5, none⟩ = some (.slice (some ⟨bl, 0, none⟩) 2 2) := (blk_cell hg 5).trans rfl
      have x3 : wc.cell? ⟨bl, 1, none⟩ = some (.int .i64 0) := hl.row.cell 1 (by simp)
      have x4 := hl.row.frozen 1
      have HG := Aside0.mk hg
      have HM := Aside0.mk hm
      have HL := Aside0.mk hl
      have HBC := Aside0.mk hbc
      clear hg hm hl hbc q0 q1 q2 r0 r1 r2 r3 r4 r5
      go_wp2_with fail
      refine wp_loop_rounds 2 ?_
      rw [rounds_succ]
      go_wp2_with fail
      rw [rounds_succ]
      go_wp2_with fail
      go_ret2
      have hb3 := blk_lt HX3.out
      have s2 := HB2.out.size
      have s1 := HB.out.size
      have s3 := HB3.out.size
      have ne1 : g ≠ bl := by omega
      have ht := (Tch.refl (fun k => k = bl) wc).set (p := ⟨bl, 1, none⟩) (.inl rfl) (.int .i64 0)
      have t2 := (HB.out.trans (HB2.out.mono HB.out.size))
      have t3 := t2.trans (HB3.out.mono t2.size)
      have k1 := (ht.block g (blk_lt HG.out) ne1).trans HG.out
      have k2 := HM.out.keep (ht.block bm (blk_lt HM.out) hml2)
      have k3 := (HX3.out.keep (HBC.out.block _ hb3)).keep (ht.block b (by have := HBC.out.size; omega) (by omega))
      have k4 := IntX.set HL.out 1 0
      refine ⟨g, rfl, fun X hX => ⟨some ⟨bm, 0, none⟩, 0, some ⟨b, 0, none⟩, 1, some ⟨bl, 0, none⟩, 2, ?_, ?_, ?_, ?_⟩, (t3.trans (HBC.out.mono t3.size)).setCell (by show w.heap.size ≤ bl; omega) _⟩
      · exact (hX.block g (blk_lt k1) (by show ¬ g < w.heap.size; omega)).trans k1
      · exact (k2.keep (hX.block bm (blk_lt k2) (by show ¬ bm < w.heap.size; omega))).row.C (by simp)
      · exact (k3.keep (hX.block b (blk_lt k3) (by show ¬ b < w.heap.size; omega))).row.C (by simp)
      · exact (k4.keep (hX.block bl (blk_lt k4) (by show ¬ bl < w.heap.size; omega))).row.C (by simp)
set_option maxRecDepth 100000 in
theorem check2 (v : Value) (w : World) (hv : FldV w v 2 1 []) : Calls Try.prog 56 #[v] w fun e w' => e = .returned (.int .i64 0) ∧ Below w.heap.size w w' := by
  have hv0 := hv
  obtain ⟨A0, c0, rfl, hml, hmC⟩ := hv
  obtain ⟨W, hW⟩ : ∃ W, W = w.alloc (.cells #[.int .i64 2, .int .i64 1, .slice A0 0 c0] 25) := ⟨_, rfl⟩
  have hb : Below w.heap.size w W := by rw [hW]; exact below_alloc (Below.refl w.heap.size w) _
  have hf : W.heap[w.heap.size]? = some (.cells #[.int .i64 2, .int .i64 1, .slice A0 0 c0] 25 (0, 0)) := by rw [hW]; exact blk_new w _
  have HB := Aside0.mk hb
  have HW := Aside0.mk hW
  have HFV := Aside0.mk (hv0.below hb)
  have p0 : W.cell? ⟨w.heap.size, 0, none⟩ = some (.int .i64 2) := (blk_cell hf 0).trans rfl
  have p1 : W.cell? ⟨w.heap.size, 1, none⟩ = some (.int .i64 1) := (blk_cell hf 1).trans rfl
  have p2 : W.cell? ⟨w.heap.size, 2, none⟩ = some (.slice A0 0 c0) := (blk_cell hf 2).trans rfl
  clear hmC hb hf hv0 hW
  have heq := fun (X : World) b => Go.Lib.run_eql_slice_nil (P := Try.prog) X 23 3 (some ⟨b, 0, none⟩) 1 1 0 0 Try.underlying23
  go_enter Try.func56, Try.ntmps56
  go_wp2_with fail
  rw [← HW.out]
  refine rs_ 13 (fun X => X.cell? ⟨w.heap.size, 0, none⟩ = some (.int .i64 2) ∧ X.cell? ⟨w.heap.size, 1, none⟩ = some (.int .i64 1) ∧ X.cell? ⟨w.heap.size, 2, none⟩ = some (.slice A0 0 c0)) [] ⟨p0, p1, p2⟩ (fun hHeld => ?_)
  refine rt_ 0 3 ?_
  refine rc2_ 1 4 Try.func80 ?_
  refine (shape2 _ _ (HFV.out.below (below_drew1 (Below.refl _ _)))).mono ?_
  rintro e w2 ⟨rfl, hb2⟩
  replace hb2 : Below W.heap.size W w2 := (pw_below_drewN (Below.refl _ _) 1).trans hb2
  refine ⟨_, rfl, ⟨cell_below hb2 p0, cell_below hb2 p1, cell_below hb2 p2⟩, fun hHeld => ?_⟩
  refine rn_ ?_
  refine rp_ 2 5 ?_
  refine rp_ 3 6 ?_
  refine rt_ 4 7 ?_
  refine rp_ 5 8 ?_
  refine rt_ 6 9 ?_
  refine rp_ 7 10 ?_
  refine rt_ 8 11 ?_
  refine rc2_ 9 12 Try.func82 ?_
  refine (order2 _).mono ?_
  rintro e w3 ⟨rfl, rfl⟩
  refine ⟨_, rfl, hHeld, fun hHeld => ?_⟩
  refine rn_ ?_
  refine rc2_ 10 13 Try.func81 ?_
  refine (generator2 _ _ (HFV.out.below hb2)).mono ?_
  rintro e w4 ⟨b, rfl, hlo, hx4, hb4⟩
  have hb5 := hb2.trans (hb4.mono hb2.size)
  refine ⟨_, rfl, ⟨cell_below hb5 p0, cell_below hb5 p1, cell_below hb5 p2⟩, fun hHeld => ?_⟩
  refine rn_ ?_
  refine rp_ 11 14 ?_
  refine rp_ 12 15 ?_
  refine rd2_ ?_
  have HB5 := Aside0.mk hb5
  clear hx4 hb5 hb4 hb2
  go_wp2
  go_ret
  exact ⟨rfl, HB.out.trans (HB5.out.mono HB.out.size)⟩
theorem says2 : NewSays 2 1 [] F2 := ⟨new2, check2, F2_ok, F2_fld⟩
end Go.Proofs.Ytekenifndicdeaa.P
