/- Walks: code.own, code.length, code.gen, code.of, code.New. -/
import Derived.Test.YtekenifndicdeaaDuGf10
namespace Go.Proofs.Ytekenifndicdeaa.P
open Go.RowKit Go.Proofs.YtekenifndicdeaaW.PrintWords Go.Proofs.YtekenifndicdeaaW.PrintLast Go.Proofs.YtekenifndicdeaaW.PrintMore Go.Proofs.Ytekenifndicdeaa.B
attribute [local go_sem] max2_int min2_int max_two min_two max_three min_three max_four min_four
set_option linter.unusedVariables false
set_option linter.unusedSimpArgs false
theorem IntN.of_R {w : World} {B : Nat} {ok : Nat → Prop} {v : Value} {xs : List Int} (h : Kd.R (Kd.int .i64) 3 w B ok v xs) : IntN B w v xs := by
  have h2 := Kd.R_bound h
  obtain ⟨A, c, e, hl, hC⟩ := Kd.R_reads h
  refine ⟨A, c, e, hl, fun W hW => ?_⟩
  have h3 := Kd.R_step h2 (w1 := W) (fun k hk hlt => hW.block k hlt (by have := hk.2.1; omega))
  obtain ⟨A', c', e', _, hC'⟩ := Kd.R_reads h3
  rw [e] at e'
  injection e' with e1 _ _
  rw [e1]; exact hC'
theorem IntN.below {B : Nat} {w w1 : World} {v : Value} {l : List Int} (h : IntN B w v l) (hb : Below w.heap.size w w1) : IntN B w1 v l := h.step (Tch.of_below hb _) (Nat.le_refl _)
theorem MatN.below {B : Nat} {w w1 : World} {v : Value} {l : List (List Int)} (h : MatN B w v l) (hb : Below w.heap.size w w1) : MatN B w1 v l := h.step (Tch.of_below hb _) (Nat.le_refl _)
theorem cloneN (A0 : Option Addr) (c0 : Nat) (l0 : List Int) (w : World) (hr0 : Kd.C (Kd.int .i64) w A0 l0.length l0) (hc0 : l0.length ≤ c0) (hl : l0.length ≤ 1000000) :
    Calls Try.prog 53 #[.slice A0 l0.length c0] w fun e w' => ∃ A c, e = .returned (.slice A l0.length c) ∧ IntN w.heap.size w' (.slice A l0.length c) l0 ∧ Below w.heap.size w w' := by
  refine (slices_Clone_int_int.calls A0 c0 l0 l0 w hr0 hc0 ?_).mono ?_
  · unfold slices_Clone_int_int.f
    simp only [Option.bind_some, List.nil_append]
    rw [if_pos (by simp; omega)]
  · rintro e w' ⟨v, rfl, hR, hb⟩
    obtain ⟨A, c, rfl⟩ := Kd.R_slice hR
    exact ⟨A, c, rfl, IntN.of_R hR, hb⟩
def OwnPost (P M : Int) (mod : List Int) (w : World) (e : Ending) (w' : World) : Prop := ∃ A c, e = .returned (.agg #[.int .i64 P, .int .i64 M, .slice A mod.length c]) ∧ IntN w.heap.size w' (.slice A mod.length c) mod ∧ Below w.heap.size w w'
set_option maxHeartbeats 1000000 in
theorem own_calls (P M : Int) (mod : List Int) (v : Value) (w : World) (hv : FldV w v P M mod) (hl : mod.length ≤ 1000000) : Calls Try.prog 62 #[v] w (OwnPost P M mod w) := by
  obtain ⟨A0, c0, rfl, hml, hmC⟩ := id hv
  obtain ⟨W, hW⟩ : ∃ W, W = (w.alloc (.cells #[.int .i64 P, .int .i64 M, .slice A0 mod.length c0] 25)).alloc (.cells #[.int .i64 0, .int .i64 0, .slice none 0 0] 25) := ⟨_, rfl⟩
  have b1 : Below w.heap.size w W := by rw [hW]; exact below_alloc (below_alloc (Below.refl w.heap.size w) _) _
  have h1 : W.heap[w.heap.size]? = some (.cells #[.int .i64 P, .int .i64 M, .slice A0 mod.length c0] 25 (0, 0)) := by rw [hW]; exact blk_alloc (blk_new w _) _
  have h2 : W.heap[w.heap.size + 1]? = some (.cells #[.int .i64 0, .int .i64 0, .slice none 0 0] 25 (0, 0)) := by
    rw [hW]
    have := blk_new (w.alloc (.cells #[.int .i64 P, .int .i64 M, .slice A0 mod.length c0] 25)) (.cells #[.int .i64 0, .int .i64 0, .slice none 0 0] 25)
    simpa using this
  have HC := Aside0.mk (cloneN A0 c0 mod W (Kd.C_below hmC b1) hml hl)
  have hsz : w.heap.size + 1 < W.heap.size := blk_lt h2
  have HW := Aside0.mk hW
  have HB := Aside0.mk b1
  have H1 := Aside0.mk h1
  have H2 := Aside0.mk h2
  rw [hW] at HC
  clear hv hmC b1 h1 h2
  go_enter Try.func62, Try.ntmps62
  go_wp2_with (go_at_call 53; refine HC.out.mono ?_; rintro e w3 ⟨A, c, rfl, hN, hb3⟩; rw [← HW.out] at hb3 hN; have g1 := blk_below H1.out hb3; have g2 := blk_below H2.out hb3; have q0 : w3.cell? ⟨w.heap.size, 0, none⟩ = some (.int .i64 P) := (blk_cell g1 0).trans rfl; have q1 : w3.cell? ⟨w.heap.size, 1, none⟩ = some (.int .i64 M) := (blk_cell g1 1).trans rfl; have q2 : w3.cell? ⟨w.heap.size, 2, none⟩ = some (.slice A0 mod.length c0) := (blk_cell g1 2).trans rfl; have f2 : w3.frozen? ⟨w.heap.size, 2, none⟩ = false := blk_frozen g1 2; have r0 : w3.cell? ⟨w.heap.size + 1, 0, none⟩ = some (.int .i64 0) := (blk_cell g2 0).trans rfl; have r1 : w3.cell? ⟨w.heap.size + 1, 1, none⟩ = some (.int .i64 0) := (blk_cell g2 1).trans rfl; have r2 : w3.cell? ⟨w.heap.size + 1, 2, none⟩ = some (.slice none 0 0) := (blk_cell g2 2).trans rfl; have s0 : w3.frozen? ⟨w.heap.size + 1, 0, none⟩ = false := blk_frozen g2 0; have s1 : w3.frozen? ⟨w.heap.size + 1, 1, none⟩ = false := blk_frozen g2 1; have s2 : w3.frozen? ⟨w.heap.size + 1, 2, none⟩ = false := blk_frozen g2 2; have HN := Aside0.mk hN; have HB3 := Aside0.mk hb3; have HG := Aside0.mk g2; clear g1 g2 hN hb3)
  have hfin := blk_set (blk_set (blk_set (blk_far HG.out (p := ⟨w.heap.size, 2, none⟩) (by simp) (.slice A mod.length c)) 0 (.int .i64 P)) 1 (.int .i64 M)) 2 (.slice A mod.length c)
  refine bodyPost_ret (results_single (r := .cell 2 25) rfl (.cell (w.heap.size + 1) 25 #[.int .i64 P, .int .i64 M, .slice A mod.length c] (0, 0) _ rfl (by simpa using hfin) Try.underlying25 rfl (by kernel_rfl) .nil)) rfl ?_
  refine ⟨A, c, rfl, ?_, ?_⟩
  · exact HN.out.step (((((Tch.refl (fun k => k < W.heap.size) w3).set (.inl (by show w.heap.size < W.heap.size; omega)) _).set (.inl hsz) _).set (.inl hsz) _).set (.inl hsz) _) (by omega)
  · exact (((((HB.out.trans (HB3.out.mono HB.out.size)).setCell (Nat.le_refl _) _).setCell (by simp) _).setCell (by simp) _).setCell (by simp) _)
def lenE (n : Int) : Int := if 1 ≤ n ∧ n ≤ 64 then 0 else 4
theorem length_calls (n : Int) (w : World) : Calls Try.prog 55 #[.int .i64 n] w fun e w' => e = .returned (.int .i64 (lenE n)) ∧ w = w' := by
  by_cases h1 : n < 1
  · have HE : Aside0 (lenE n = 4) := ⟨if_neg (by omega)⟩
    go_enter Try.func55, Try.ntmps55
    go_wp2
    go_ret
    exact ⟨ret_int HE.out.symm, rfl⟩
  by_cases h2 : 64 < n
  · have HE : Aside0 (lenE n = 4) := ⟨if_neg (by omega)⟩
    go_enter Try.func55, Try.ntmps55
    go_wp2
    go_ret
    exact ⟨ret_int HE.out.symm, rfl⟩
  · have HE : Aside0 (lenE n = 0) := ⟨if_pos (by omega)⟩
    have h3 : 1 ≤ n := by omega
    have h4 : n ≤ 64 := by omega
    clear h1 h2
    go_enter Try.func55, Try.ntmps55
    go_wp2
    go_ret
    exact ⟨ret_int HE.out.symm, rfl⟩
theorem gen_calls (P M : Int) (Am : Option Addr) (km cm : Nat) (n : Int) (Ag : Option Addr) (kg cg : Nat) (w : World) :
    Calls Try.prog 35 #[.agg #[.int .i64 P, .int .i64 M, .slice Am km cm, .int .i64 n, .slice Ag kg cg]] w fun e w' => e = .returned (.agg #[.int .i64 n, .slice Ag kg cg]) ∧ Below w.heap.size w w' := by
  have b1 := below_alloc (below_alloc (Below.refl w.heap.size w) (.cells #[.int .i64 P, .int .i64 M, .slice Am km cm, .int .i64 n, .slice Ag kg cg] 28)) (.cells #[.int .i64 n, .slice Ag kg cg] 56)
  have HB := Aside0.mk b1
  have hm := blk_new (w.alloc (.cells #[.int .i64 P, .int .i64 M, .slice Am km cm, .int .i64 n, .slice Ag kg cg] 28)) (.cells #[.int .i64 n, .slice Ag kg cg] 56)
  have HM := Aside0.mk hm
  clear b1 hm
  go_enter Try.func35, Try.ntmps35
  go_wp2
  refine bodyPost_ret (results_single (r := .cell 2 56) rfl (.cell (w.heap.size + 1) 56 #[.int .i64 n, .slice Ag kg cg] (0, 0) _ rfl (by simpa using HM.out) Try.underlying56 rfl (by kernel_rfl) .nil)) rfl ⟨rfl, HB.out⟩
def OfPost (P M : Int) (mod : List Int) (cols : Int) (Ag : Option Addr) (kg cg : Nat) (w : World) (e : Ending) (w' : World) : Prop := ∃ A c, e = .returned (.tuple #[.agg #[.int .i64 P, .int .i64 M, .slice A mod.length c, .int .i64 cols, .slice Ag kg cg], .int .i64 0]) ∧ IntN w.heap.size w' (.slice A mod.length c) mod ∧ Below w.heap.size w w'
set_option maxHeartbeats 1000000 in
theorem of_calls (P M : Int) (mod : List Int) (v : Value) (cols : Int) (Ag : Option Addr) (kg cg : Nat) (w : World) (hv : FldV w v P M mod) (hl : mod.length ≤ 1000000) :
    Calls Try.prog 36 #[v, .agg #[.int .i64 cols, .slice Ag kg cg], .int .i64 0] w (OfPost P M mod cols Ag kg cg w) := by
  obtain ⟨A0, c0, rfl, hml, hmC⟩ := id hv
  obtain ⟨W, hW⟩ : ∃ W, W = ((w.alloc (.cells #[.int .i64 P, .int .i64 M, .slice A0 mod.length c0] 25)).alloc (.cells #[.int .i64 cols, .slice Ag kg cg] 56)).alloc (.cells #[.int .i64 0, .int .i64 0, .slice none 0 0, .int .i64 0, .slice none 0 0] 28) := ⟨_, rfl⟩
  have b1 : Below w.heap.size w W := by rw [hW]; exact below_alloc (below_alloc (below_alloc (Below.refl w.heap.size w) _) _) _
  have h1 : W.heap[w.heap.size]? = some (.cells #[.int .i64 P, .int .i64 M, .slice A0 mod.length c0] 25 (0, 0)) := by rw [hW]; exact blk_alloc (blk_alloc (blk_new w _) _) _
  have h2 : W.heap[w.heap.size + 1]? = some (.cells #[.int .i64 cols, .slice Ag kg cg] 56 (0, 0)) := by
    rw [hW]
    have := blk_new (w.alloc (.cells #[.int .i64 P, .int .i64 M, .slice A0 mod.length c0] 25)) (.cells #[.int .i64 cols, .slice Ag kg cg] 56)
    exact blk_alloc (by simpa using this) _
  have h3 : W.heap[w.heap.size + 1 + 1]? = some (.cells #[.int .i64 0, .int .i64 0, .slice none 0 0, .int .i64 0, .slice none 0 0] 28 (0, 0)) := by
    rw [hW]
    have := blk_new ((w.alloc (.cells #[.int .i64 P, .int .i64 M, .slice A0 mod.length c0] 25)).alloc (.cells #[.int .i64 cols, .slice Ag kg cg] 56)) (.cells #[.int .i64 0, .int .i64 0, .slice none 0 0, .int .i64 0, .slice none 0 0] 28)
    simpa using this
  have HV := Aside0.mk (hv.below b1)
  have hsz : w.heap.size + 1 + 1 < W.heap.size := blk_lt h3
  have HB := Aside0.mk b1
  have H3 := Aside0.mk h3
  have q0 : W.cell? ⟨w.heap.size, 0, none⟩ = some (.int .i64 P) := (blk_cell h1 0).trans rfl
  have q1 : W.cell? ⟨w.heap.size, 1, none⟩ = some (.int .i64 M) := (blk_cell h1 1).trans rfl
  have q2 : W.cell? ⟨w.heap.size, 2, none⟩ = some (.slice A0 mod.length c0) := (blk_cell h1 2).trans rfl
  have q3 : W.cell? ⟨w.heap.size + 1, 0, none⟩ = some (.int .i64 cols) := (blk_cell h2 0).trans rfl
  have q4 : W.cell? ⟨w.heap.size + 1, 1, none⟩ = some (.slice Ag kg cg) := (blk_cell h2 1).trans rfl
  have HW := Aside0.mk hW
  clear hv hmC b1 h1 h2 h3 hW
  go_enter Try.func36, Try.ntmps36
  go_wp2
  rw [← HW.out]
  refine rs_ 9 (fun X => X.cell? ⟨w.heap.size, 0, none⟩ = some (.int .i64 P) ∧ X.cell? ⟨w.heap.size, 1, none⟩ = some (.int .i64 M) ∧ X.cell? ⟨w.heap.size, 2, none⟩ = some (.slice A0 mod.length c0) ∧ X.cell? ⟨w.heap.size + 1, 0, none⟩ = some (.int .i64 cols) ∧ X.cell? ⟨w.heap.size + 1, 1, none⟩ = some (.slice Ag kg cg)) [7, 8] ⟨q0, q1, q2, q3, q4⟩ (fun hHeld => ?_)
  refine rt_ 0 12 ?_
  refine rp_ 2 14 ?_
  refine rt_ 3 15 ?_
  refine rp_ 4 16 ?_
  refine rt_ 5 17 ?_
  refine rc2_ 1 13 Try.func62 ?_
  refine (own_calls P M mod _ _ (HV.out.below (pw_below_drewN (Below.refl _ _) 1)) hl).mono ?_
  rintro e w3 ⟨A, c, rfl, hN, hb3⟩
  replace hb3 : Below W.heap.size W w3 := (pw_below_drewN (Below.refl _ _) 1).trans hb3
  refine ⟨_, rfl, ⟨cell_below hb3 q0, cell_below hb3 q1, cell_below hb3 q2, cell_below hb3 q3, cell_below hb3 q4⟩, fun hHeld => ?_⟩
  have g3 := blk_below H3.out hb3
  have z0 : w3.cell? ⟨w.heap.size + 1 + 1, 0, none⟩ = some (.int .i64 0) := (blk_cell g3 0).trans rfl
  have z1 : w3.cell? ⟨w.heap.size + 1 + 1, 1, none⟩ = some (.int .i64 0) := (blk_cell g3 1).trans rfl
  have z2 : w3.cell? ⟨w.heap.size + 1 + 1, 2, none⟩ = some (.slice none 0 0) := (blk_cell g3 2).trans rfl
  have z3 : w3.cell? ⟨w.heap.size + 1 + 1, 3, none⟩ = some (.int .i64 0) := (blk_cell g3 3).trans rfl
  have z4 : w3.cell? ⟨w.heap.size + 1 + 1, 4, none⟩ = some (.slice none 0 0) := (blk_cell g3 4).trans rfl
  have f0 : w3.frozen? ⟨w.heap.size + 1 + 1, 0, none⟩ = false := blk_frozen g3 0
  have f1 : w3.frozen? ⟨w.heap.size + 1 + 1, 1, none⟩ = false := blk_frozen g3 1
  have f2 : w3.frozen? ⟨w.heap.size + 1 + 1, 2, none⟩ = false := blk_frozen g3 2
  have f3 : w3.frozen? ⟨w.heap.size + 1 + 1, 3, none⟩ = false := blk_frozen g3 3
  have f4 : w3.frozen? ⟨w.heap.size + 1 + 1, 4, none⟩ = false := blk_frozen g3 4
  have HN := Aside0.mk hN
  have HB3 := Aside0.mk hb3
  have HG := Aside0.mk g3
  clear hb3 g3 hN
  refine rn_ ?_
  refine rp_ 6 18 ?_
  refine rl_ 7 ?_
  refine rp_ 8 7 ?_
  refine rd2_ ?_
  go_wp2
  have hfin := blk_set (blk_set (blk_set (blk_set (blk_set HG.out 0 (.int .i64 P)) 1 (.int .i64 M)) 2 (.slice A mod.length c)) 3 (.int .i64 cols)) 4 (.slice Ag kg cg)
  refine bodyPost_ret (results_list (rs := [.cell 6 28, .tmp 7]) rfl (by simp) (.cell (w.heap.size + 1 + 1) 28 #[.int .i64 P, .int .i64 M, .slice A mod.length c, .int .i64 cols, .slice Ag kg cg] (0, 0) _ rfl (by simpa using hfin) Try.underlying28 rfl (by kernel_rfl) (.tmp .nil))) rfl ?_
  refine ⟨A, c, rfl, ?_, ?_⟩
  · exact HN.out.step (B' := W.heap.size) ((((((Tch.refl (fun k => k < W.heap.size) w3).set (.inl hsz) _).set (.inl hsz) _).set (.inl hsz) _).set (.inl hsz) _).set (.inl hsz) _) (by omega)
  · exact (((((HB.out.trans (HB3.out.mono HB.out.size)).setCell (by simp; omega) _).setCell (by simp; omega) _).setCell (by simp; omega) _).setCell (by simp; omega) _).setCell (by simp; omega) _
/-- A code, as a value, that does not hang on the blocks below B. -/
def CodeN (B : Nat) (w : World) (v : Value) (P M : Int) (mod : List Int) (n : Int) (gen : List (List Int)) : Prop :=
  ∃ Am cm Ag cg, v = .agg #[.int .i64 P, .int .i64 M, .slice Am mod.length cm, .int .i64 n, .slice Ag gen.length cg] ∧ IntN B w (.slice Am mod.length cm) mod ∧ MatN B w (.slice Ag gen.length cg) gen
def CNewPost (P M : Int) (mod : List Int) (n : Int) (gen : List (List Int)) (w : World) (e : Ending) (w' : World) : Prop := ∃ v, e = .returned (.tuple #[v, .int .i64 0]) ∧ CodeN w.heap.size w' v P M mod n gen ∧ Below w.heap.size w w'
set_option maxHeartbeats 1000000 in
theorem cnew_calls (P M : Int) (mod : List Int) (F : Fr) (hN : NewSays P M mod F) (v : Value) (cols : Int) (A : Option Addr) (c : Nat) (rows : List (List Int)) (w : World) (hv : FldV w v P M mod) (hml2 : mod.length ≤ 1000000) (hr : Kd.C (Kd.slice 3 (Kd.int .i64)) w A rows.length rows) (hc : rows.length ≤ c) (hl : rows.length ≤ 9223372036854775807) (hl2 : ∀ r ∈ rows, r.length ≤ 9223372036854775807)
    (hk : mchk F cols rows = 0) (h1 : 1 ≤ cols) (h64 : cols ≤ 64) :
    Calls Try.prog 31 #[v, .agg #[.int .i64 cols, .slice A rows.length c]] w (CNewPost P M mod cols (canonS F.ops cols.toNat rows) w) := by
  obtain ⟨A0, c0, rfl, hml, hmC⟩ := id hv
  obtain ⟨W, hW⟩ : ∃ W, W = ((w.alloc (.cells #[.int .i64 P, .int .i64 M, .slice A0 mod.length c0] 25)).alloc (.cells #[.int .i64 cols, .slice A rows.length c] 56)).alloc (.cells #[.int .i64 0, .int .i64 0, .slice none 0 0, .int .i64 0, .slice none 0 0] 28) := ⟨_, rfl⟩
  have b1 : Below w.heap.size w W := by rw [hW]; exact below_alloc (below_alloc (below_alloc (Below.refl w.heap.size w) _) _) _
  have h1b : W.heap[w.heap.size]? = some (.cells #[.int .i64 P, .int .i64 M, .slice A0 mod.length c0] 25 (0, 0)) := by rw [hW]; exact blk_alloc (blk_alloc (blk_new w _) _) _
  have h2 : W.heap[w.heap.size + 1]? = some (.cells #[.int .i64 cols, .slice A rows.length c] 56 (0, 0)) := by
    rw [hW]
    have := blk_new (w.alloc (.cells #[.int .i64 P, .int .i64 M, .slice A0 mod.length c0] 25)) (.cells #[.int .i64 cols, .slice A rows.length c] 56)
    exact blk_alloc (by simpa using this) _
  have h3 : W.heap[w.heap.size + 1 + 1]? = some (.cells #[.int .i64 0, .int .i64 0, .slice none 0 0, .int .i64 0, .slice none 0 0] 28 (0, 0)) := by
    rw [hW]
    have := blk_new ((w.alloc (.cells #[.int .i64 P, .int .i64 M, .slice A0 mod.length c0] 25)).alloc (.cells #[.int .i64 cols, .slice A rows.length c] 56)) (.cells #[.int .i64 0, .int .i64 0, .slice none 0 0, .int .i64 0, .slice none 0 0] 28)
    simpa using this
  have HC := Aside0.mk (canonical_calls P M mod F hN _ cols A c rows W (hv.below b1) (Kd.C_below hr b1) hc hl hl2 (fun _ => h1))
  have HV := Aside0.mk (hv.below b1)
  have HB := Aside0.mk b1
  have H1 := Aside0.mk h1b
  have H2 := Aside0.mk h2
  have H3 := Aside0.mk h3
  have HW := Aside0.mk hW
  have HK := Aside0.mk hk
  have hsz : w.heap.size + 1 + 1 < W.heap.size := blk_lt h3
  have HLE : Aside0 (lenE cols = 0) := ⟨if_pos ⟨h1, h64⟩⟩
  have HLC := Aside0.mk (fun X => length_calls cols X)
  rw [hW] at HC
  clear hv hmC hr b1 h1b h2 h3 hW hk hl2
  go_enter Try.func31, Try.ntmps31
  go_wp2_with (first | (go_at_call 54; refine HC.out.mono ?_; rintro e w3 ⟨(⟨hno, _⟩ | ⟨_, vm, vp, rfl, hvm, hvp⟩), hb3⟩; (exact absurd HK.out hno); rw [← HW.out] at hb3 hvm hvp; obtain ⟨Ag, cg, rfl, _⟩ := id hvm; obtain ⟨Ap, cp, rfl, _⟩ := id hvp; have g1 := blk_below H1.out hb3; have g2 := blk_below H2.out hb3; have q0 : w3.cell? ⟨w.heap.size, 0, none⟩ = some (.int .i64 P) := (blk_cell g1 0).trans rfl; have q1 : w3.cell? ⟨w.heap.size, 1, none⟩ = some (.int .i64 M) := (blk_cell g1 1).trans rfl; have q2 : w3.cell? ⟨w.heap.size, 2, none⟩ = some (.slice A0 mod.length c0) := (blk_cell g1 2).trans rfl; have q3 : w3.cell? ⟨w.heap.size + 1, 0, none⟩ = some (.int .i64 cols) := (blk_cell g2 0).trans rfl; have al := below_alloc (Below.refl w3.heap.size w3) (.cells #[.int .i64 cols, .slice Ag (canonS F.ops cols.toNat rows).length cg] 56); have u0 := cell_below al q0; have u1 := cell_below al q1; have u2 := cell_below al q2; have u3 := cell_below al q3; have HAL := Aside0.mk al; have HVM := Aside0.mk hvm; have HB3 := Aside0.mk hb3; clear g1 g2 hvm hvp hb3 al) | (go_at_call 36; refine (of_calls P M mod _ cols Ag _ cg _ (HV.out.below (HB3.out.trans (HAL.out.mono HB3.out.size))) hml2).mono ?_; rintro e w5 ⟨Am, cm, rfl, hNm, hb5⟩; have g3 := blk_below (blk_below (blk_below H3.out HB3.out) HAL.out) hb5; have z0 : w5.cell? ⟨w.heap.size + 1 + 1, 0, none⟩ = some (.int .i64 0) := (blk_cell g3 0).trans rfl; have z1 : w5.cell? ⟨w.heap.size + 1 + 1, 1, none⟩ = some (.int .i64 0) := (blk_cell g3 1).trans rfl; have z2 : w5.cell? ⟨w.heap.size + 1 + 1, 2, none⟩ = some (.slice none 0 0) := (blk_cell g3 2).trans rfl; have z3 : w5.cell? ⟨w.heap.size + 1 + 1, 3, none⟩ = some (.int .i64 0) := (blk_cell g3 3).trans rfl; have z4 : w5.cell? ⟨w.heap.size + 1 + 1, 4, none⟩ = some (.slice none 0 0) := (blk_cell g3 4).trans rfl; have f0 : w5.frozen? ⟨w.heap.size + 1 + 1, 0, none⟩ = false := blk_frozen g3 0; have f1 : w5.frozen? ⟨w.heap.size + 1 + 1, 1, none⟩ = false := blk_frozen g3 1; have f2 : w5.frozen? ⟨w.heap.size + 1 + 1, 2, none⟩ = false := blk_frozen g3 2; have f3 : w5.frozen? ⟨w.heap.size + 1 + 1, 3, none⟩ = false := blk_frozen g3 3; have f4 : w5.frozen? ⟨w.heap.size + 1 + 1, 4, none⟩ = false := blk_frozen g3 4; have HNM := Aside0.mk hNm; have HB5 := Aside0.mk hb5; have HG := Aside0.mk g3; clear g3 hNm hb5) | (go_at_call 55; refine (HLC.out _).mono ?_; rintro e w4 ⟨rfl, rfl⟩; rw [HLE.out]))
  have hfin := blk_set (blk_set (blk_set (blk_set (blk_set HG.out 0 (.int .i64 P)) 1 (.int .i64 M)) 2 (.slice Am mod.length cm)) 3 (.int .i64 cols)) 4 (.slice Ag (canonS F.ops cols.toNat rows).length cg)
  refine bodyPost_ret (results_list (rs := [.cell 4 28, .tmp 5]) rfl (by simp) (.cell (w.heap.size + 1 + 1) 28 #[.int .i64 P, .int .i64 M, .slice Am mod.length cm, .int .i64 cols, .slice Ag (canonS F.ops cols.toNat rows).length cg] (0, 0) _ rfl (by simpa using hfin) Try.underlying28 rfl (by kernel_rfl) (.tmp .nil))) rfl ?_
  have hw3 := HB3.out.size
  have hal : w3.heap.size ≤ (w3.alloc (.cells #[.int .i64 cols, .slice Ag (canonS F.ops cols.toNat rows).length cg] 56)).heap.size := HAL.out.size
  refine ⟨_, rfl, ⟨Am, cm, Ag, cg, rfl, ?_, ?_⟩, ?_⟩
  · exact HNM.out.step (B' := (w3.alloc (.cells #[.int .i64 cols, .slice Ag (canonS F.ops cols.toNat rows).length cg] 56)).heap.size) ((((((Tch.refl (fun k => k < (w3.alloc (.cells #[.int .i64 cols, .slice Ag (canonS F.ops cols.toNat rows).length cg] 56)).heap.size) w5).set (.inl (by show w.heap.size + 1 + 1 < _; omega)) _).set (.inl (by show w.heap.size + 1 + 1 < _; omega)) _).set (.inl (by show w.heap.size + 1 + 1 < _; omega)) _).set (.inl (by show w.heap.size + 1 + 1 < _; omega)) _).set (.inl (by show w.heap.size + 1 + 1 < _; omega)) _) (by omega)
  · exact ((HVM.out.below HAL.out).below HB5.out).step (B' := W.heap.size) ((((((Tch.refl (fun k => k < W.heap.size) w5).set (.inl hsz) _).set (.inl hsz) _).set (.inl hsz) _).set (.inl hsz) _).set (.inl hsz) _) (by omega)
  · have hb := (HB.out.trans (HB3.out.mono HB.out.size)).trans ((HAL.out.trans (HB5.out.mono HAL.out.size)).mono (by omega))
    exact (((((hb.setCell (by simp; omega) _).setCell (by simp; omega) _).setCell (by simp; omega) _).setCell (by simp; omega) _).setCell (by simp; omega) _)
end Go.Proofs.Ytekenifndicdeaa.P
