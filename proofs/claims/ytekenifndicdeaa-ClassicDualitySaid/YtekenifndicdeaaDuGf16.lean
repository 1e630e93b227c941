import Derived.Test.YtekenifndicdeaaDuGf14
import Derived.LoopN
namespace Go.Proofs.Ytekenifndicdeaa.P
open Go.RowKit Go.Proofs.YtekenifndicdeaaW.PrintWords Go.Proofs.YtekenifndicdeaaW.PrintLast Go.Proofs.YtekenifndicdeaaW.PrintMore Go.Proofs.Ytekenifndicdeaa.B
attribute [local go_sem] max2_int min2_int max_two min_two max_three min_three max_four min_four
set_option linter.unusedVariables false
set_option linter.unusedSimpArgs false
theorem order2 (w : World) : Calls Try.prog 82 #[.int .i64 2, .int .i64 1] w fun e w' => e = .returned (.int .i64 2) ∧ w' = w := by
  go_enter Try.func82, Try.ntmps82
  go_wp2
  refine wp_loop_rounds 2 ?_
  rw [rounds_succ]
  go_wp2
  rw [rounds_succ]
  go_wp2
  go_ret
  exact ⟨rfl, rfl⟩
theorem isPrime2 (w : World) : Calls Try.prog 106 #[.int .i64 2] w fun e w' => e = .returned (.bool true) ∧ w' = w := by
  go_enter Try.func106, Try.ntmps106
  go_wp2
  refine wp_loop_rounds 1 ?_
  rw [rounds_succ]
  go_wp2
  go_ret
  exact ⟨rfl, rfl⟩
theorem shape2 (v : Value) (w : World) (hv : FldV w v 2 1 []) : Calls Try.prog 80 #[v] w fun e w' => e = .returned (.bool true) ∧ Below w.heap.size w w' := by
  obtain ⟨A0, c0, rfl, hml, hmC⟩ := hv
  have hb := below_alloc (Below.refl w.heap.size w) (.cells #[.int .i64 2, .int .i64 1, .slice A0 0 c0] 25)
  have HB := Aside0.mk hb
  clear hb hmC
  go_enter Try.func80, Try.ntmps80
  go_wp2_with (first | (go_at_call 82; refine (order2 _).mono ?_; rintro e w' ⟨rfl, rfl⟩) | (go_at_call 106; refine (isPrime2 _).mono ?_; rintro e w' ⟨rfl, rfl⟩))
  go_ret
  exact ⟨rfl, HB.out⟩
theorem digits2 (x : Int) (h0 : 0 ≤ x) (h1 : x < 2) (w : World) : Calls Try.prog 129 #[.int .i64 x, .int .i64 2, .int .i64 1] w fun e w' => e = .returned (.slice (some ⟨w.heap.size, 0, none⟩) 1 1) ∧ IntX w' w.heap.size [x] ∧ Below w.heap.size w w' := by
  go_enter Try.func129, Try.ntmps129
  go_wp2_with ((with_reducible refine gate_dst (N := 10) rfl ?_); refine mk_intsX rfl (.tmp 9) rfl 1 rfl (by omega) ?_; intro w5 hr5 hb5; have cx := hr5.row.cell 0 (by simp [zeroS]); have cf := hr5.row.frozen 0; have HR5 := Aside0.mk hr5; have HB5 := Aside0.mk hb5; clear hr5 hb5)
  refine wp_loop_rounds 2 ?_
  rw [rounds_succ]
  go_wp2
  rw [rounds_succ]
  go_wp2
  go_ret
  have e : x % 2 = x := by omega
  have h := IntX.set HR5.out 0 x
  exact ⟨rfl, by simpa [e, zeroS] using h, HB5.out.setCell (Nat.le_refl _) _⟩
theorem value2 (x : Int) (h0 : 0 ≤ x) (h1 : x < 2) (b c : Nat) (w : World) (hx : IntX w b [x]) : Calls Try.prog 130 #[.slice (some ⟨b, 0, none⟩) 1 c, .int .i64 2] w fun e w' => e = .returned (.int .i64 x) ∧ w' = w := by
  have cx := hx.row.cell 0 (by simp)
  have cx : w.cell? ⟨b, 0, none⟩ = some (.int .i64 x) := cx
  clear hx
  go_enter Try.func130, Try.ntmps130
  go_wp2
  refine wp_loop_rounds 2 ?_
  rw [rounds_succ]
  go_wp2
  rw [rounds_succ]
  go_wp2
  go_ret
  exact ⟨by simp [i64_w], rfl⟩
set_option maxRecDepth 100000 in
theorem multiply2 (v : Value) (w : World) (hv : FldV w v 2 1 []) : Calls Try.prog 108 #[v, .int .i64 1, .int .i64 1] w fun e w' => e = .returned (.int .i64 1) ∧ Below w.heap.size w w' := by
  obtain ⟨A0, c0, rfl, hml, hmC⟩ := hv
  obtain ⟨W, hW⟩ : ∃ W, W = w.alloc (.cells #[.int .i64 2, .int .i64 1, .slice A0 0 c0] 25) := ⟨_, rfl⟩
  have hf : W.heap[w.heap.size]? = some (.cells #[.int .i64 2, .int .i64 1, .slice A0 0 c0] 25 (0, 0)) := by rw [hW]; exact blk_new w _
  have hb : Below w.heap.size w W := by rw [hW]; exact below_alloc (Below.refl w.heap.size w) _
  have HB := Aside0.mk hb
  have HF := Aside0.mk hf
  have HW := Aside0.mk hW
  have hlt : w.heap.size < W.heap.size := blk_lt hf
  clear hmC
  go_enter Try.func108, Try.ntmps108
  go_wp2_with (fail)
  rw [← HW.out]
  clear hW
  have p0 : W.cell? ⟨w.heap.size, 0, none⟩ = some (.int .i64 2) := (blk_cell hf 0).trans rfl
  have p1 : W.cell? ⟨w.heap.size, 1, none⟩ = some (.int .i64 1) := (blk_cell hf 1).trans rfl
  refine rs_ 14 (fun X => X.cell? ⟨w.heap.size, 0, none⟩ = some (.int .i64 2) ∧ X.cell? ⟨w.heap.size, 1, none⟩ = some (.int .i64 1)) [12, 13] ⟨p0, p1⟩ (fun hHeld => ?_)
  refine rp_ 0 14 ?_
  refine rp_ 1 15 ?_
  refine rt_ 2 16 ?_
  refine rp_ 3 17 ?_
  refine rt_ 4 18 ?_
  refine rp_ 6 20 ?_
  refine rp_ 7 21 ?_
  refine rt_ 8 22 ?_
  refine rp_ 9 23 ?_
  refine rt_ 10 24 ?_
  refine rc2_ 5 19 Try.func129 ?_
  refine (digits2 1 (by omega) (by omega) _).mono ?_
  rintro e w1 ⟨rfl, hx1, hb1⟩
  replace hb1 : Below W.heap.size W w1 := (pw_below_drewN (Below.refl _ _) 1).trans hb1
  replace hx1 : IntX w1 W.heap.size [1] := hx1
  refine ⟨_, rfl, ⟨cell_below hb1 p0, cell_below hb1 p1⟩, fun hHeld => ?_⟩
  refine rn_ ?_
  refine rc2_ 11 25 Try.func129 ?_
  refine (digits2 1 (by omega) (by omega) _).mono ?_
  rintro e w2 ⟨rfl, hx2, hb2⟩
  have s1 := hb1.size
  have hx1' := hx1.keep (hb2.block _ (blk_lt hx1))
  have hb3 := hb1.trans (hb2.mono s1)
  refine ⟨_, rfl, ⟨cell_below hb3 p0, cell_below hb3 p1⟩, fun hHeld => ?_⟩
  refine rn_ ?_
  refine rp_ 12 7 ?_
  refine rp_ 13 8 ?_
  refine rd2_ ?_
  have hf3 := blk_below hf hb3
  have q0 : w2.cell? ⟨w.heap.size, 0, none⟩ = some (.int .i64 2) := (blk_cell hf3 0).trans rfl
  have q1 : w2.cell? ⟨w.heap.size, 1, none⟩ = some (.int .i64 1) := (blk_cell hf3 1).trans rfl
  have ca : w2.cell? ⟨W.heap.size, 0, none⟩ = some (.int .i64 1) := hx1'.row.cell 0 (by simp)
  have cb : w2.cell? ⟨w1.heap.size, 0, none⟩ = some (.int .i64 1) := hx2.row.cell 0 (by simp)
  have HF3 := Aside0.mk hf3
  have HX1 := Aside0.mk hx1'
  have HX2 := Aside0.mk hx2
  have HB3 := Aside0.mk hb3
  clear hf hx1 hx1' hx2 hb1 hb2 hb3 hb hf3 p0 p1
  go_wp2_with ((with_reducible refine gate_dst (N := 28) rfl ?_); refine mk_intsX rfl (.tmp 27) rfl 1 rfl (by omega) ?_; intro w5 hr5 hb5; have cx : w5.cell? ⟨w2.heap.size, 0, none⟩ = some (.int .i64 0) := hr5.row.cell 0 (by simp [zeroS]); have cf := hr5.row.frozen 0; have HR5 := Aside0.mk hr5; have HB5 := Aside0.mk hb5; have r0 := cell_below hb5 q0; have r1 := cell_below hb5 q1; have ra := cell_below hb5 ca; have rb := cell_below hb5 cb; clear hr5 hb5 q0 q1 ca cb)
  refine wp_loop_rounds 2 ?_
  rw [rounds_succ]
  go_wp2_with (fail)
  refine rs_ 8 (fun X => X.cell? ⟨w.heap.size, 1, none⟩ = some (.int .i64 1)) [] r1 (fun hHeld => ?_)
  refine rp_ 0 42 ?_
  refine rp_ 1 43 ?_
  refine rp_ 2 44 ?_
  refine rp_ 3 45 ?_
  refine rt_ 4 46 ?_
  refine rp_ (v := .int .i64 0) 5 47 ?_ (hy := by (refine Or.inl ⟨by rfl, ?_⟩; intro w'; go_simp; decide))
  refine rp_ 6 48 ?_
  refine rv_ 7 49 ⟨hHeld, fun hHeld => ?_⟩ (w1 := w5.drew) (v := .int .i64 0) (hrun := by
    have h := run_copy_none (P := Try.prog) w5.drew 23 23 3 3 (some ⟨w2.heap.size, 0, none⟩) (some ⟨w2.heap.size, 0, none⟩) 0 0 0 1 Try.underlying23 rfl rfl
    go_simp)
  refine rn_ ?_
  refine rd2_ ?_
  go_wp2_with (fail)
  have HX5 : Aside0 (IntX (w5.setCell ⟨w2.heap.size, 0, none⟩ (.int .i64 0)).drew w2.heap.size [0]) := ⟨(IntX.set HR5.out 0 0).keep rfl⟩
  have HB6 : Aside0 (Below w2.heap.size w2 (w5.setCell ⟨w2.heap.size, 0, none⟩ (.int .i64 0)).drew) := ⟨below_drew1 (HB5.out.setCell (Nat.le_refl _) _)⟩
  obtain ⟨w6, e6⟩ : ∃ w6, w6 = (w5.setCell ⟨w2.heap.size, 0, none⟩ (.int .i64 0)).drew := ⟨_, rfl⟩
  rw [← e6] at HX5 HB6 ⊢
  have s2 := HB6.out
  have g0 : w6.cell? ⟨w.heap.size, 0, none⟩ = some (.int .i64 2) := (blk_cell (blk_below HF3.out HB6.out) 0).trans rfl
  have g1 : w6.cell? ⟨w.heap.size, 1, none⟩ = some (.int .i64 1) := (blk_cell (blk_below HF3.out HB6.out) 1).trans rfl
  have ga : w6.cell? ⟨W.heap.size, 0, none⟩ = some (.int .i64 1) := (HX1.out.keep (HB6.out.block _ (blk_lt HX1.out))).row.cell 0 (by simp)
  have gb : w6.cell? ⟨w1.heap.size, 0, none⟩ = some (.int .i64 1) := (HX2.out.keep (HB6.out.block _ (blk_lt HX2.out))).row.cell 0 (by simp)
  have gc : w6.cell? ⟨w2.heap.size, 0, none⟩ = some (.int .i64 0) := HX5.out.row.cell 0 (by simp)
  have gf := HX5.out.row.frozen 0
  clear r0 r1 ra rb cx cf e6 hHeld HR5 HB5 s2
  refine wp_loop_rounds 2 ?_
  rw [rounds_succ]
  go_wp2_with (fail)
  refine rs_ 28 (fun X => X.cell? ⟨w.heap.size, 0, none⟩ = some (.int .i64 2) ∧ X.cell? ⟨W.heap.size, 0, none⟩ = some (.int .i64 1) ∧ X.cell? ⟨w1.heap.size, 0, none⟩ = some (.int .i64 1) ∧ X.cell? ⟨w2.heap.size, 0, none⟩ = some (.int .i64 0)) [26, 27] ⟨g0, ga, gb, gc⟩ (fun hHeld => ?_)
  refine rp_ 0 65 ?_
  refine rp_ 1 66 ?_
  refine rp_ 2 67 ?_
  refine rp_ 3 68 ?_
  refine rp_ 4 69 ?_
  refine rt_ 5 70 ?_
  refine rp_ 6 71 ?_
  refine rt_ 7 72 ?_
  refine rp_ 8 73 ?_
  refine rp_ 9 74 ?_
  refine rp_ 10 75 ?_
  refine rp_ 11 76 ?_
  refine rp_ 12 77 ?_
  refine rp_ 13 78 ?_
  refine rp_ 14 79 ?_
  refine rp_ 15 80 ?_
  refine rt_ 16 81 ?_
  refine rp_ 17 82 ?_
  refine rp_ 18 83 ?_
  refine rp_ 19 84 ?_
  refine rt_ 20 85 ?_
  refine rp_ 21 86 ?_
  refine rp_ 22 87 ?_
  refine rp_ 23 88 ?_
  refine rt_ 24 89 ?_
  refine rp_ 25 90 ?_
  refine rp_ 26 91 ?_
  refine rl_ 27 ?_
  refine rd2_ ?_
  go_wp2_with (fail)
  have HX6 : Aside0 (IntX (w6.setCell ⟨w2.heap.size, 0, none⟩ (.int .i64 ((0 + 1) % 2))).drew w2.heap.size [1]) := ⟨(IntX.set HX5.out 0 1).keep rfl⟩
  have HB7 : Aside0 (Below w2.heap.size w2 (w6.setCell ⟨w2.heap.size, 0, none⟩ (.int .i64 ((0 + 1) % 2))).drew) := ⟨below_drew1 (HB6.out.setCell (Nat.le_refl _) _)⟩
  obtain ⟨w7, e7⟩ : ∃ w7, w7 = (w6.setCell ⟨w2.heap.size, 0, none⟩ (.int .i64 ((0 + 1) % 2))).drew := ⟨_, rfl⟩
  rw [← e7] at HX6 HB7 ⊢
  have j0 : w7.cell? ⟨w.heap.size, 0, none⟩ = some (.int .i64 2) := (blk_cell (blk_below HF3.out HB7.out) 0).trans rfl
  clear e7 g0 g1 ga gb gc gf hHeld HX5 HB6
  rw [rounds_succ]
  go_wp2_with (fail)
  rw [rounds_succ]
  go_wp2_with (go_at_call 130; refine (value2 1 (by omega) (by omega) _ _ _ HX6.out).mono ?_; rintro e w8 ⟨rfl, rfl⟩)
  go_ret
  have t1 := HB.out.trans (HB3.out.mono HB.out.size)
  exact ⟨rfl, t1.trans (HB7.out.mono t1.size)⟩
end Go.Proofs.Ytekenifndicdeaa.P
namespace Go.Proofs.Ytekenifndicdeaa.P
open Go.RowKit Go.Proofs.YtekenifndicdeaaW.PrintWords Go.Proofs.YtekenifndicdeaaW.PrintLast Go.Proofs.YtekenifndicdeaaW.PrintMore Go.Proofs.Ytekenifndicdeaa.B
attribute [local go_sem] max2_int min2_int max_two min_two max_three min_three max_four min_four
set_option linter.unusedVariables false
set_option linter.unusedSimpArgs false
theorem powers2 (v : Value) (w : World) (hv : FldV w v 2 1 []) : Calls Try.prog 107 #[v, .int .i64 2, .int .i64 1] w fun e w' => e = .returned (.slice (some ⟨w.heap.size + 1, 0, none⟩) 1 1) ∧ IntX w' (w.heap.size + 1) [1] ∧ Below w.heap.size w w' := by
  obtain ⟨A0, c0, rfl, hml, hmC⟩ := hv
  obtain ⟨W, hW⟩ : ∃ W, W = (w.alloc (.cells #[.int .i64 2, .int .i64 1, .slice A0 0 c0] 25)).alloc (.cells #[.int .i64 1] 3) := ⟨_, rfl⟩
  have hb : Below w.heap.size w W := by rw [hW]; exact below_alloc (below_alloc (Below.refl w.heap.size w) _) _
  have hx : IntX W (w.heap.size + 1) [1] := by
    rw [hW]
    have := blk_new (w.alloc (.cells #[.int .i64 2, .int .i64 1, .slice A0 0 c0] 25)) (.cells #[.int .i64 1] 3)
    simpa [IntX] using this
  have HB := Aside0.mk hb
  have HX := Aside0.mk hx
  have HW := Aside0.mk hW
  have hs : w.heap.size + 1 < W.heap.size := blk_lt hx
  clear hmC hW hb hx
  go_enter Try.func107, Try.ntmps107
  go_wp2_with ((with_reducible refine gate_dst (N := 12) rfl ?_); rw [← HW.out]; refine mk_cells rfl (.tmp 11) rfl Try.underlying134 info4 rfl 2 rfl (by omega) (by omega) ?_; rintro w5 ⟨cs, h1, h2⟩ hb5; obtain rfl : cs = #[.bool false, .bool false] := (by rw [← Array.toArray_toList (xs := cs), h2]; rfl); have c1 : w5.cell? ⟨W.heap.size, 1, none⟩ = some (.bool false) := (blk_cell h1 1).trans rfl; have f1 : w5.frozen? ⟨W.heap.size, 1, none⟩ = false := blk_frozen h1 1; have H1 := Aside0.mk h1; have HB5 := Aside0.mk hb5; clear h1 h2 hb5)
  have u1 : (w5.setCell ⟨W.heap.size, 1, none⟩ (.bool true)).cell? ⟨W.heap.size, 1, none⟩ = some (.bool true) := (blk_cell (blk_set H1.out 1 (.bool true)) 1).trans rfl
  refine wp_loop_rounds 1 ?_
  rw [rounds_succ]
  go_wp2_with (fail)
  go_ret
  have hbl : Below W.heap.size W (w5.setCell ⟨W.heap.size, 1, none⟩ (.bool true)) := HB5.out.setCell (Nat.le_refl _) _
  exact ⟨rfl, HX.out.keep (hbl.block _ hs), HB.out.trans (hbl.mono HB.out.size)⟩
set_option maxRecDepth 100000 in
theorem generator2 (v : Value) (w : World) (hv : FldV w v 2 1 []) : Calls Try.prog 81 #[v, .int .i64 2] w fun e w' => ∃ b, e = .returned (.slice (some ⟨b, 0, none⟩) 1 1) ∧ w.heap.size ≤ b ∧ IntX w' b [1] ∧ Below w.heap.size w w' := by
  have hv0 := hv
  obtain ⟨A0, c0, rfl, hml, hmC⟩ := hv
  obtain ⟨W, hW⟩ : ∃ W, W = w.alloc (.cells #[.int .i64 2, .int .i64 1, .slice A0 0 c0] 25) := ⟨_, rfl⟩
  have hb : Below w.heap.size w W := by rw [hW]; exact below_alloc (Below.refl w.heap.size w) _
  have hf : W.heap[w.heap.size]? = some (.cells #[.int .i64 2, .int .i64 1, .slice A0 0 c0] 25 (0, 0)) := by rw [hW]; exact blk_new w _
  have HB := Aside0.mk hb
  have HF := Aside0.mk hf
  have HW := Aside0.mk hW
  have HFV := Aside0.mk (hv0.below hb)
  have hs : w.heap.size < W.heap.size := blk_lt hf
  clear hmC hW hb hf hv0
  go_enter Try.func81, Try.ntmps81
  go_wp2_with (fail)
  rw [← HW.out]
  have p0 : W.cell? ⟨w.heap.size, 0, none⟩ = some (.int .i64 2) := (blk_cell HF.out 0).trans rfl
  have p1 : W.cell? ⟨w.heap.size, 1, none⟩ = some (.int .i64 1) := (blk_cell HF.out 1).trans rfl
  have p2 : W.cell? ⟨w.heap.size, 2, none⟩ = some (.slice A0 0 c0) := (blk_cell HF.out 2).trans rfl
  refine wp_loop_rounds 1 ?_
  rw [rounds_succ]
  go_wp2_with (go_at_call 107; refine (powers2 _ _ HFV.out).mono ?_; rintro e w2 ⟨rfl, hx2, hb2⟩; have HX2 := Aside0.mk hx2; have HB2 := Aside0.mk hb2; have cx : w2.cell? ⟨W.heap.size + 1, 0, none⟩ = some (.int .i64 1) := hx2.row.cell 0 (by simp); have g0 := cell_below hb2 p0; have g1 := cell_below hb2 p1; have g2 := cell_below hb2 p2; clear hx2 hb2)
  refine rs_ 16 (fun X => X.cell? ⟨w.heap.size, 0, none⟩ = some (.int .i64 2) ∧ X.cell? ⟨w.heap.size, 1, none⟩ = some (.int .i64 1) ∧ X.cell? ⟨w.heap.size, 2, none⟩ = some (.slice A0 0 c0) ∧ X.cell? ⟨W.heap.size + 1, 0, none⟩ = some (.int .i64 1)) [] ⟨g0, g1, g2, cx⟩ (fun hHeld => ?_)
  refine rp_ 0 16 ?_
  refine rp_ 1 17 ?_
  refine rp_ 2 18 ?_
  refine rp_ (v := .int .i64 1) 3 19 ?_ (hy := by (refine Or.inl ⟨by rfl, ?_⟩; intro w'; go_simp; decide))
  refine rp_ 4 20 ?_
  refine rp_ 5 21 ?_
  refine rt_ 6 22 ?_
  refine rp_ 7 23 ?_
  refine rp_ 8 24 ?_
  refine rp_ (v := .int .i64 0) 9 25 ?_ (hy := by (refine Or.inl ⟨by rfl, ?_⟩; intro w'; go_simp; decide))
  refine rp_ 10 26 ?_
  refine rt_ 11 27 ?_
  refine rp_ 12 28 ?_
  refine rc2_ 13 29 Try.func108 ?_
  refine (multiply2 _ _ ((HFV.out.below HB2.out).below (below_drew1 (Below.refl _ _)))).mono ?_
  rintro e w3 ⟨rfl, hb3⟩
  replace hb3 : Below w2.heap.size w2 w3 := (pw_below_drewN (Below.refl _ _) 1).trans hb3
  refine ⟨_, rfl, ⟨cell_below hb3 g0, cell_below hb3 g1, cell_below hb3 g2, cell_below hb3 cx⟩, fun hHeld => ?_⟩
  refine rn_ ?_
  refine rp_ 14 30 ?_
  refine rp_ 15 31 ?_
  refine rd2_ ?_
  have HB3 := Aside0.mk hb3
  clear hb3
  go_wp2_with (fail)
  go_ret
  have t1 := HB.out.trans (HB2.out.mono HB.out.size)
  exact ⟨_, rfl, by omega, HX2.out.keep (HB3.out.block _ (blk_lt HX2.out)), t1.trans (HB3.out.mono t1.size)⟩
end Go.Proofs.Ytekenifndicdeaa.P
