/- Walks: matrix.open of one matrix, matrix.Canonical. -/
import Derived.Test.YtekenifndicdeaaDuGf9
namespace Go.Proofs.Ytekenifndicdeaa.P
open Go.RowKit Go.Proofs.YtekenifndicdeaaW.PrintWords Go.Proofs.YtekenifndicdeaaW.PrintLast Go.Proofs.YtekenifndicdeaaW.PrintMore Go.Proofs.Ytekenifndicdeaa.B
attribute [local go_sem] max2_int min2_int max_two min_two max_three min_three max_four min_four
set_option linter.unusedVariables false
set_option linter.unusedSimpArgs false
/-- A description of a field, as a value. -/
def FldV (w : World) (v : Value) (P M : Int) (mod : List Int) : Prop := ∃ A c, v = .agg #[.int .i64 P, .int .i64 M, .slice A mod.length c] ∧ mod.length ≤ c ∧ Kd.C (Kd.int .i64) w A mod.length mod
theorem FldV.below {w w1 : World} {v : Value} {P M : Int} {mod : List Int} (h : FldV w v P M mod) (hb : Below w.heap.size w w1) : FldV w1 v P M mod := by
  obtain ⟨A, c, e, hl, hC⟩ := h
  exact ⟨A, c, e, hl, Kd.C_below hC hb⟩
/-- The record, whatever becomes of the blocks below B. -/
def GFatN (B : Nat) (w : World) (g : Nat) (F : Fr) : Prop := ∀ W, Tch (fun k => k < B) w W → GFat W g F
theorem GFatN.now {B : Nat} {w : World} {g : Nat} {F : Fr} (h : GFatN B w g F) : GFat w g F := h w (Tch.refl _ _)
theorem GFatN.step {B B' : Nat} {w w1 : World} {g : Nat} {F : Fr} (h : GFatN B' w g F) (ht : Tch (fun k => k < B') w w1) (hB : B ≤ B') : GFatN B w1 g F := fun W hW => h W (ht.trans (hW.mono (fun k _ hk => Nat.lt_of_lt_of_le hk hB)))
theorem GFatN.below {B : Nat} {w w1 : World} {g : Nat} {F : Fr} (h : GFatN B w g F) (hb : Below w.heap.size w w1) : GFatN B w1 g F := h.step (Tch.of_below hb _) (Nat.le_refl _)
def NewPost (F : Fr) (w : World) (e : Ending) (w' : World) : Prop := ∃ g, e = .returned (.tuple #[.pointer (some ⟨g, 0, none⟩), .int .i64 0]) ∧ GFatN w.heap.size w' g F ∧ Below w.heap.size w w'
/-- field.New makes the field F. -/
structure NewSays (P M : Int) (mod : List Int) (F : Fr) : Prop where
  new : ∀ (v : Value) (w : World), FldV w v P M mod → Calls Try.prog 83 #[v] w (NewPost F w)
  check : ∀ (v : Value) (w : World), FldV w v P M mod → Calls Try.prog 56 #[v] w fun e w' => e = .returned (.int .i64 0) ∧ Below w.heap.size w w'
  ok : F.Ok
  fld : Fld F.ops
def OpenPost (F : Fr) (cols : Int) (rows : List (List Int)) (w : World) (e : Ending) (w' : World) : Prop := ∃ v, e = .returned (.tuple #[v, .int .i64 (mchk F cols rows)]) ∧ (mchk F cols rows = 0 → ∃ g, v = .pointer (some ⟨g, 0, none⟩) ∧ GFat w' g F) ∧ Below w.heap.size w w'
def OpIn (Q : Int) (w : World) (u : Value) (wr : World) : Prop := (u = .int .i64 0 ∧ wr = w) ∨ (u = .int .i64 1 ∧ Q = 0 ∧ Below w.heap.size w wr)
set_option maxHeartbeats 1000000 in
theorem open_calls (P M : Int) (mod : List Int) (F : Fr) (hN : NewSays P M mod F) (v : Value) (bm c1 : Nat) (cols : Int) (A : Option Addr) (c : Nat) (rows : List (List Int)) (w : World) (hv : FldV w v P M mod) (hb : w.heap[bm]? = some (.cells #[.int .i64 cols, .slice A rows.length c] 56 (0, 0))) (hr : Kd.C (Kd.slice 3 (Kd.int .i64)) w A rows.length rows) (hl : rows.length ≤ 9223372036854775807) (hl2 : ∀ r ∈ rows, r.length ≤ 9223372036854775807) :
    Calls Try.prog 58 #[v, .slice (some ⟨bm, 0, none⟩) 1 c1] w (OpenPost F cols rows w) := by
  obtain ⟨A0, c0, rfl, hml, hmC⟩ := id hv
  obtain ⟨W, hW⟩ : ∃ W, W = w.alloc (.cells #[.int .i64 P, .int .i64 M, .slice A0 mod.length c0] 25) := ⟨_, rfl⟩
  have b1 : Below w.heap.size w W := by rw [hW]; exact below_alloc (Below.refl _ _) _
  have hbW := blk_below hb b1
  have HNW := Aside0.mk (hN.new _ W (hv.below b1))
  have HR := Aside0.mk (Kd.C_below hr b1)
  have HL2 := Aside0.mk hl2
  have HB := Aside0.mk b1
  have HW := Aside0.mk hW
  have HBW := Aside0.mk hbW
  rw [hW] at HNW HB HR HBW
  clear hv hb hr hl2 b1 hW hbW HW hmC W
  go_enter Try.func58, Try.ntmps58
  go_wp2_with (go_at_call 83; refine HNW.out.mono ?_; rintro e w2 ⟨g, rfl, hG, hb2⟩; have HG := Aside0.mk hG.now; have HB2 := Aside0.mk (HB.out.trans (hb2.mono HB.out.size)); have HR2 := Aside0.mk (Kd.C_below HR.out hb2); have HM2 := Aside0.mk (blk_below HBW.out hb2); clear hG hb2)
  clear HR HB HBW HNW
  have HR0 : Aside0 (OpIn (mchk F cols rows) w2 (.int .i64 0) w2) := ⟨.inl ⟨rfl, rfl⟩⟩
  go_loopw [20] (fun u wr => OpIn (mchk F cols rows) w2 u wr) (fun u _ => 2 - (intOf u).toNat)
  case atStart => exact HR0.out
  case round =>
    clear HR0
    rcases hrel with ⟨rfl, rfl⟩ | ⟨rfl, hz, hb⟩
    · have q0 : wr.cell? ⟨bm, 0, none⟩ = some (.int .i64 cols) := (blk_cell HM2.out 0).trans rfl
      have q1 : wr.cell? ⟨bm, 1, none⟩ = some (.slice A rows.length c) := (blk_cell HM2.out 1).trans rfl
      have ba := below_alloc (Below.refl wr.heap.size wr) (.cells #[.int .i64 cols, .slice A rows.length c] 56)
      have HCK := Aside0.mk (check_calls g F cols A c rows _ (HG.out.below ba) (Kd.C_below HR2.out ba) hl HL2.out)
      have HBA := Aside0.mk ba
      clear ba
      obtain ⟨Q, hQ⟩ : ∃ Q, Q = mchk F cols rows := ⟨_, rfl⟩
      have HQ := Aside0.mk hQ
      rw [← hQ] at HCK
      clear hQ
      by_cases hz : Q = 0
      · have hzb : (Q != 0) = false := bne_eq_false_iff_eq.2 hz
        have HZ := Aside0.mk hz
        clear hz
        go_wp2_with (go_at_call 84; refine HCK.out.mono ?_; rintro e w3 ⟨rfl, hb3⟩; have HB3 := Aside0.mk (HBA.out.trans (hb3.mono HBA.out.size)); clear hb3)
        exact ⟨.inr ⟨rfl, by rw [← HQ.out]; exact HZ.out, HB3.out⟩, by simp [intOf]⟩
      · have hzb : (Q != 0) = true := bne_iff_ne.2 hz
        have HZ := Aside0.mk hz
        clear hz
        go_wp2_with (go_at_call 84; refine HCK.out.mono ?_; rintro e w3 ⟨rfl, hb3⟩; have HB3 := Aside0.mk (HBA.out.trans (hb3.mono HBA.out.size)); clear hb3)
        go_ret2
        exact ⟨_, by rw [← HQ.out]; rfl, fun h => absurd (HQ.out.trans h) HZ.out, HB2.out.trans (HB3.out.mono HB2.out.size)⟩
    · have HZ := Aside0.mk hz
      have HB3 := Aside0.mk hb
      clear hz hb
      go_wp2
      go_ret2
      exact ⟨_, by rw [HZ.out]; rfl, fun _ => ⟨g, rfl, HG.out.below HB3.out⟩, HB2.out.trans (HB3.out.mono HB2.out.size)⟩
/-- What Canonical answers. -/
def CanPost (F : Fr) (cols : Int) (rows : List (List Int)) (w : World) (e : Ending) (w' : World) : Prop :=
  (mchk F cols rows ≠ 0 ∧ e = .returned (.tuple #[.agg #[.int .i64 0, .slice none 0 0], .slice none 0 0, .int .i64 (mchk F cols rows)]) ∨
   mchk F cols rows = 0 ∧ ∃ v p, e = .returned (.tuple #[.agg #[.int .i64 cols, v], p, .int .i64 0]) ∧ MatN w.heap.size w' v (canonS F.ops cols.toNat rows) ∧ IntN w.heap.size w' p (elimS F.ops rows cols.toNat).2) ∧ Below w.heap.size w w'
theorem mchk_ok {F : Fr} {cols : Int} {rows : List (List Int)} (h : mchk F cols rows = 0) : 0 ≤ cols ∧ cols ≤ 256 ∧ rows.length ≤ 256 ∧ Mat F.ops cols.toNat rows := by
  unfold mchk at h
  by_cases h1 : cols < 0 ∨ 256 < cols ∨ 256 < rows.length
  · rw [if_pos h1] at h; cases h
  · rw [if_neg h1] at h
    by_cases h2 : rows.all (fun r => decide ((r.length : Int) = cols)) = true
    · rw [if_pos h2] at h
      by_cases h3 : rows.all (entOk F) = true
      · refine ⟨by omega, by omega, by omega, fun r hr => ⟨?_, fun v hv => ?_⟩⟩
        · have := List.all_eq_true.1 h2 r hr
          have := of_decide_eq_true this
          omega
        · have h4 := List.all_eq_true.1 h3 r hr
          have h5 : decide (F.El v) = true := List.all_eq_true.1 h4 v hv
          have h6 : F.El v := of_decide_eq_true h5
          exact h6
      · rw [if_neg h3] at h; cases h
    · rw [if_neg h2] at h; cases h
set_option maxHeartbeats 1000000 in
theorem canonical_calls (P M : Int) (mod : List Int) (F : Fr) (hN : NewSays P M mod F) (v : Value) (cols : Int) (A : Option Addr) (c : Nat) (rows : List (List Int)) (w : World) (hv : FldV w v P M mod) (hr : Kd.C (Kd.slice 3 (Kd.int .i64)) w A rows.length rows) (hc : rows.length ≤ c) (hl : rows.length ≤ 9223372036854775807) (hl2 : ∀ r ∈ rows, r.length ≤ 9223372036854775807) (h1 : mchk F cols rows = 0 → 1 ≤ cols) :
    Calls Try.prog 54 #[v, .agg #[.int .i64 cols, .slice A rows.length c]] w (CanPost F cols rows w) := by
  obtain ⟨A0, c0, rfl, hml, hmC⟩ := id hv
  obtain ⟨W, hW⟩ : ∃ W, W = (((w.alloc (.cells #[.int .i64 P, .int .i64 M, .slice A0 mod.length c0] 25)).alloc (.cells #[.int .i64 cols, .slice A rows.length c] 56)).alloc (.cells #[.int .i64 0, .slice none 0 0] 56)).alloc (.cells #[.int .i64 cols, .slice A rows.length c] 56) := ⟨_, rfl⟩
  have b1 : Below w.heap.size w W := by rw [hW]; exact below_alloc (below_alloc (below_alloc (below_alloc (Below.refl w.heap.size w) _) _) _) _
  have hm1 : W.heap[w.heap.size + 1]? = some (.cells #[.int .i64 cols, .slice A rows.length c] 56 (0, 0)) := by
    rw [hW]
    have := blk_new (w.alloc (.cells #[.int .i64 P, .int .i64 M, .slice A0 mod.length c0] 25)) (.cells #[.int .i64 cols, .slice A rows.length c] 56)
    exact blk_alloc (blk_alloc (by simpa using this) _) _
  have hm2 : W.heap[w.heap.size + 2]? = some (.cells #[.int .i64 0, .slice none 0 0] 56 (0, 0)) := by
    rw [hW]
    have := blk_new ((w.alloc (.cells #[.int .i64 P, .int .i64 M, .slice A0 mod.length c0] 25)).alloc (.cells #[.int .i64 cols, .slice A rows.length c] 56)) (.cells #[.int .i64 0, .slice none 0 0] 56)
    exact blk_alloc (by simpa using this) _
  have hm3 : W.heap[w.heap.size + 3]? = some (.cells #[.int .i64 cols, .slice A rows.length c] 56 (0, 0)) := by
    rw [hW]
    have := blk_new (((w.alloc (.cells #[.int .i64 P, .int .i64 M, .slice A0 mod.length c0] 25)).alloc (.cells #[.int .i64 cols, .slice A rows.length c] 56)).alloc (.cells #[.int .i64 0, .slice none 0 0] 56)) (.cells #[.int .i64 cols, .slice A rows.length c] 56)
    simpa using this
  have HOP := Aside0.mk (open_calls P M mod F hN _ (w.heap.size + 3) 1 cols A c rows W (hv.below b1) hm3 (Kd.C_below hr b1) hl hl2)
  have HR := Aside0.mk (Kd.C_below hr b1)
  have HB := Aside0.mk b1
  have HM1 := Aside0.mk hm1
  have HM2 := Aside0.mk hm2
  obtain ⟨Q, hQ⟩ : ∃ Q, Q = mchk F cols rows := ⟨_, rfl⟩
  have HQ := Aside0.mk hQ
  unfold OpenPost at HOP
  rw [← hQ] at HOP
  have HW := Aside0.mk hW
  rw [hW] at HOP
  clear hv hr hmC b1 hm1 hm2 hm3 hQ hl2
  by_cases hz : Q = 0
  · have hzb : (Q != 0) = false := bne_eq_false_iff_eq.2 hz
    have HZ := Aside0.mk hz
    obtain ⟨hc0, hc1, hrl, hmat⟩ := mchk_ok (HQ.out.symm.trans hz)
    have hc2 := h1 (HQ.out.symm.trans hz)
    obtain ⟨n, rfl⟩ := Int.eq_ofNat_of_zero_le hc0
    rw [toNat_nat] at hmat
    have HMAT := Aside0.mk hmat
    clear hmat h1 hz
    go_enter Try.func54, Try.ntmps54
    go_wp2_with (first | (go_at_call 58; refine HOP.out.mono ?_; rintro e w3 ⟨vg, rfl, hg, hb3⟩; rw [← HW.out] at hb3; obtain ⟨g, rfl, hG⟩ := hg HZ.out; have q1 : w3.cell? ⟨w.heap.size + 1, 0, none⟩ = some (.int .i64 (n : Int)) := (blk_cell (blk_below HM1.out hb3) 0).trans rfl; have q2 : w3.cell? ⟨w.heap.size + 1, 1, none⟩ = some (.slice A rows.length c) := (blk_cell (blk_below HM1.out hb3) 1).trans rfl; have HG := Aside0.mk hG; have HB3 := Aside0.mk hb3; clear hG hg hb3) | (go_at_call 59; refine (canon_calls g F A c rows n _ hN.ok hN.fld HG.out (Kd.C_below HR.out HB3.out) hc (by omega) HMAT.out (by omega) (by omega)).mono ?_; rintro e w4 ⟨v1, p1, rfl, hv1, hp1, hb4⟩; have HV := Aside0.mk hv1; have HP := Aside0.mk hp1; obtain ⟨Av, cv, rfl, _⟩ := hv1; obtain ⟨Ap, cp, rfl, _⟩ := hp1; have hm4 := blk_below (blk_below HM2.out HB3.out) hb4; have z0 : w4.cell? ⟨w.heap.size + 1 + 1, 0, none⟩ = some (.int .i64 0) := (blk_cell hm4 0).trans rfl; have z1 : w4.cell? ⟨w.heap.size + 1 + 1, 1, none⟩ = some (.slice none 0 0) := (blk_cell hm4 1).trans rfl; have zf := blk_frozen hm4; have zf0 : w4.frozen? ⟨w.heap.size + 1 + 1, 0, none⟩ = false := zf 0; have zf1 : w4.frozen? ⟨w.heap.size + 1 + 1, 1, none⟩ = false := zf 1; have y1 := cell_below hb4 q1; have y2 := cell_below hb4 q2; have HB4 := Aside0.mk (HB3.out.trans (hb4.mono HB3.out.size)); have HM4 := Aside0.mk hm4; clear hm4 zf hb4))
    have hfin := blk_set (blk_set HM4.out 0 (.int .i64 (n : Int))) 1 (.slice Av (canonS F.ops n rows).length cv)
    refine bodyPost_ret (results_list (rs := [.cell 4 56, .tmp 5, .tmp 6]) rfl (by simp) (.cell (w.heap.size + 1 + 1) 56 #[.int .i64 (n : Int), .slice Av (canonS F.ops n rows).length cv] (0, 0) _ rfl (by simpa using hfin) Try.underlying56 rfl (by kernel_rfl) (.tmp (.tmp .nil)))) rfl ?_
    have hb13 : w.heap.size + 1 + 1 < w3.heap.size := by have := HB3.out.size; have := HW.out; rw [this] at HB3; have := HB3.out.size; simp at this; omega
    have ht : Tch (fun k => k < w3.heap.size) w4 ((w4.setCell ⟨w.heap.size + 1 + 1, 0, none⟩ (.int .i64 (n : Int))).setCell ⟨w.heap.size + 1 + 1, 1, none⟩ (.slice Av (canonS F.ops n rows).length cv)) := ((Tch.refl (fun k => k < w3.heap.size) w4).set (.inl hb13) _).set (.inl hb13) _
    exact ⟨.inr ⟨by rw [← HQ.out]; exact HZ.out, _, _, rfl, HV.out.step ht (by omega), HP.out.step ht (by omega)⟩, ((HB.out.trans (HB4.out.mono HB.out.size)).setCell (by simp; omega) _).setCell (by simp; omega) _⟩
  · have hzb : (Q != 0) = true := bne_iff_ne.2 hz
    have HZ := Aside0.mk hz
    clear hz h1
    go_enter Try.func54, Try.ntmps54
    go_wp2_with (go_at_call 58; refine HOP.out.mono ?_; rintro e w3 ⟨vg, rfl, hg, hb3⟩; rw [← HW.out] at hb3; have hm3 := blk_below HM2.out hb3; have z0 : w3.cell? ⟨w.heap.size + 1 + 1, 0, none⟩ = some (.int .i64 0) := (blk_cell hm3 0).trans rfl; have z1 : w3.cell? ⟨w.heap.size + 1 + 1, 1, none⟩ = some (.slice none 0 0) := (blk_cell hm3 1).trans rfl; have zf0 : w3.frozen? ⟨w.heap.size + 1 + 1, 0, none⟩ = false := blk_frozen hm3 0; have zf1 : w3.frozen? ⟨w.heap.size + 1 + 1, 1, none⟩ = false := blk_frozen hm3 1; have HB3 := Aside0.mk hb3; have HM3 := Aside0.mk hm3; clear hg hb3 hm3)
    have hfin := blk_set (blk_set HM3.out 0 (.int .i64 0)) 1 (.slice none 0 0)
    refine bodyPost_ret (results_list (rs := [.cell 4 56, .tmp 5, .tmp 6]) rfl (by simp) (.cell (w.heap.size + 1 + 1) 56 #[.int .i64 0, .slice none 0 0] (0, 0) _ rfl (by simpa using hfin) Try.underlying56 rfl (by kernel_rfl) (.tmp (.tmp .nil)))) rfl ?_
    exact ⟨.inl ⟨by rw [← HQ.out]; exact HZ.out, by rw [← HQ.out]; rfl⟩, ((HB.out.trans (HB3.out.mono HB.out.size)).setCell (by simp; omega) _).setCell (by simp; omega) _⟩
end Go.Proofs.Ytekenifndicdeaa.P
