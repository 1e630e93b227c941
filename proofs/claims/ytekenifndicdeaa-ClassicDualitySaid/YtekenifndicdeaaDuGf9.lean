/- Walks: matrix.entries, matrix.check, matrix.open of one matrix, matrix.Canonical. -/
import Derived.Test.YtekenifndicdeaaDuGf8
namespace Go.Proofs.Ytekenifndicdeaa.P
open Go.RowKit Go.Proofs.YtekenifndicdeaaW.PrintWords Go.Proofs.YtekenifndicdeaaW.PrintLast Go.Proofs.YtekenifndicdeaaW.PrintMore Go.Proofs.Ytekenifndicdeaa.B
attribute [local go_sem] max2_int min2_int max_two min_two max_three min_three max_four min_four
set_option linter.unusedVariables false
set_option linter.unusedSimpArgs false
def entOk (F : Fr) (x : List Int) : Bool := x.all fun v => decide (F.El v)
theorem all_take {α : Type} (p : α → Bool) (l : List α) (i : Nat) (hi : i < l.length) : (l.take (i + 1)).all p = ((l.take i).all p && p (l[i]'hi)) := by
  rw [List.take_add_one, List.getElem?_eq_getElem hi, List.all_append]; simp
theorem all_drop_no {α : Type} (p : α → Bool) (l : List α) (i : Nat) (hi : i < l.length) (h : p (l[i]'hi) = false) : l.all p = false := by
  rw [List.all_eq_false]
  exact ⟨_, List.getElem_mem hi, by simp [h]⟩
def enE (F : Fr) (x : List Int) : Int := if entOk F x = true then 0 else 2
def EnIn (F : Fr) (x : List Int) (w : World) (u : Value) (wr : World) : Prop := ∃ i : Nat, u = .int .i64 (i : Int) ∧ i ≤ x.length ∧ (x.take i).all (fun v => decide (F.El v)) = true ∧ wr = w
theorem entries_calls (g : Nat) (F : Fr) (A : Option Addr) (c : Nat) (x : List Int) (w : World) (hG : GFat w g F) (hx : Kd.C (Kd.int .i64) w A x.length x) (hl : x.length ≤ 9223372036854775807) :
    Calls Try.prog 109 #[.pointer (some ⟨g, 0, none⟩), .slice A x.length c] w fun e w' => e = .returned (.int .i64 (enE F x)) ∧ w = w' := by
  have HG := Aside0.mk hG
  have HX := Aside0.mk hx
  clear hG hx
  have HR0 : Aside0 (EnIn F x w (.int .i64 0) w) := ⟨0, rfl, Nat.zero_le _, rfl, rfl⟩
  go_enter Try.func109, Try.ntmps109
  go_wp2
  go_loopw [9] (fun u wr => EnIn F x w u wr) (fun u _ => x.length - (intOf u).toNat)
  case atStart => exact HR0.out
  case round =>
    clear HR0
    obtain ⟨i, rfl, hi, hall, rfl⟩ := hrel
    by_cases hlt : i < x.length
    · obtain ⟨ad, e, hc⟩ := rd_at HX.out (i : Int) (by omega) (by omega)
      rw [toNat_nat] at hc
      subst e
      have hxi : x.getD i 0 = x[i] := by rw [List.getD_eq_getElem?_getD, List.getElem?_eq_getElem hlt]; rfl
      have HALL := Aside0.mk hall
      by_cases hE : F.El (x.getD i 0)
      · have HN : Aside0 (EnIn F x wr (.int .i64 ((i : Int) + 1)) wr) := ⟨i + 1, by simp, hlt, by rw [all_take _ _ _ hlt, HALL.out, ← hxi, decide_eq_true hE]; rfl, rfl⟩
        have hd : decide (F.El (x.getD i 0)) = true := decide_eq_true hE
        have HI := gf_Is g F (x.getD i 0) wr HG.out
        rw [hd] at HI
        have HI := Aside0.mk HI
        clear hE hall hd hxi
        generalize x.getD i 0 = v at *
        go_wp2_with (go_at_call 93; refine HI.out.mono ?_; rintro e w' ⟨rfl, rfl⟩)
        exact ⟨HN.out, by simp [intOf]; omega⟩
      · have HN : Aside0 (entOk F x = false) := ⟨all_drop_no _ _ i hlt (by rw [← hxi]; exact decide_eq_false hE)⟩
        have hd : decide (F.El (x.getD i 0)) = false := decide_eq_false hE
        have HI := gf_Is g F (x.getD i 0) wr HG.out
        rw [hd] at HI
        have HI := Aside0.mk HI
        clear hE hall hd hxi
        generalize x.getD i 0 = v at *
        go_wp2_with (go_at_call 93; refine HI.out.mono ?_; rintro e w' ⟨rfl, rfl⟩)
        go_ret
        exact ⟨ret_int (by unfold enE; rw [HN.out]; rfl), rfl⟩
    · have HN : Aside0 (entOk F x = true) := ⟨by rw [List.take_of_length_le (by omega)] at hall; exact hall⟩
      clear hall
      go_wp2
      go_ret
      exact ⟨ret_int (by unfold enE; rw [HN.out]; rfl), rfl⟩
/-- What check says of a matrix. -/
def mchk (F : Fr) (cols : Int) (rows : List (List Int)) : Int :=
  if cols < 0 ∨ 256 < cols ∨ 256 < rows.length then 3 else if rows.all (fun r => decide ((r.length : Int) = cols)) = true then (if rows.all (entOk F) = true then 0 else 2) else 3
def Ck1 (cols : Int) (rows : List (List Int)) (w : World) (u : Value) (wr : World) : Prop := ∃ i : Nat, u = .int .i64 (i : Int) ∧ i ≤ rows.length ∧ (rows.take i).all (fun r => decide ((r.length : Int) = cols)) = true ∧ wr = w
def Ck2 (F : Fr) (rows : List (List Int)) (w : World) (u : Value) (wr : World) : Prop := ∃ i : Nat, u = .int .i64 (i : Int) ∧ i ≤ rows.length ∧ (rows.take i).all (entOk F) = true ∧ wr = w
set_option maxHeartbeats 1000000 in
theorem check_calls (g : Nat) (F : Fr) (cols : Int) (A : Option Addr) (c : Nat) (rows : List (List Int)) (w : World) (hG : GFat w g F) (hr : Kd.C (Kd.slice 3 (Kd.int .i64)) w A rows.length rows) (hl : rows.length ≤ 9223372036854775807) (hl2 : ∀ r ∈ rows, r.length ≤ 9223372036854775807) :
    Calls Try.prog 84 #[.pointer (some ⟨g, 0, none⟩), .agg #[.int .i64 cols, .slice A rows.length c]] w fun e w' => e = .returned (.int .i64 (mchk F cols rows)) ∧ Below w.heap.size w w' := by
  obtain ⟨W, hW⟩ : ∃ W, W = w.alloc (.cells #[.int .i64 cols, .slice A rows.length c] 56) := ⟨_, rfl⟩
  have b1 : Below w.heap.size w W := by rw [hW]; exact below_alloc (Below.refl _ _) _
  have HG := Aside0.mk (hG.below b1)
  have HR := Aside0.mk (Kd.C_below hr b1)
  have HL2 := Aside0.mk hl2
  have HB := Aside0.mk b1
  have hbk : W.heap[w.heap.size]? = some (.cells #[.int .i64 cols, .slice A rows.length c] 56 (0, 0)) := by rw [hW]; exact blk_new _ _
  have q0 : W.cell? ⟨w.heap.size, 0, none⟩ = some (.int .i64 cols) := (blk_cell hbk 0).trans rfl
  have q1 : W.cell? ⟨w.heap.size, 1, none⟩ = some (.slice A rows.length c) := (blk_cell hbk 1).trans rfl
  have HW := Aside0.mk hW
  have HR1 : Aside0 (Ck1 cols rows W (.int .i64 0) W) := ⟨0, rfl, Nat.zero_le _, rfl, rfl⟩
  have HR2 : Aside0 (Ck2 F rows W (.int .i64 0) W) := ⟨0, rfl, Nat.zero_le _, rfl, rfl⟩
  clear hG hr hl2 b1 hbk hW
  by_cases hbad : cols < 0 ∨ 256 < cols ∨ 256 < (rows.length : Int)
  · have HM : Aside0 (mchk F cols rows = 3) := ⟨by unfold mchk; rw [if_pos (by omega)]⟩
    go_enter Try.func84, Try.ntmps84
    by_cases h1 : cols < 0
    · clear hbad
      go_wp2
      go_ret
      exact ⟨ret_int HM.out.symm, by rw [← HW.out]; exact HB.out⟩
    by_cases h2 : 256 < cols
    · clear hbad
      go_wp2
      go_ret
      exact ⟨ret_int HM.out.symm, by rw [← HW.out]; exact HB.out⟩
    have h3 : 256 < (rows.length : Int) := by omega
    clear hbad
    go_wp2
    go_ret
    exact ⟨ret_int HM.out.symm, by rw [← HW.out]; exact HB.out⟩
  · have h1 : 0 ≤ cols := by omega
    have h2 : cols ≤ 256 := by omega
    have h3 : (rows.length : Int) ≤ 256 := by omega
    have HM : Aside0 (mchk F cols rows = if rows.all (fun r => decide ((r.length : Int) = cols)) = true then (if rows.all (entOk F) = true then 0 else 2) else 3) := ⟨by unfold mchk; rw [if_neg (by omega)]⟩
    clear hbad
    go_enter Try.func84, Try.ntmps84
    go_wp2
    rw [← HW.out]
    go_loopw [27] (fun u wr => Ck1 cols rows W u wr) (fun u _ => rows.length - (intOf u).toNat)
    case atStart => exact HR1.out
    case round =>
      clear HR1
      obtain ⟨i, rfl, hi, hall, rfl⟩ := hrel
      by_cases hlt : i < rows.length
      · obtain ⟨ad, A0, c0, e, hx, hc0, hC⟩ := at_L1 HR.out (i : Int) (by omega) (by omega)
        rw [toNat_nat] at hx
        subst e
        have hri : rd_L1 rows (i : Int) = rows[i] := by
          show rows.getD i [] = _
          rw [List.getD_eq_getElem?_getD, List.getElem?_eq_getElem hlt]; rfl
        rw [hri] at hx hc0 hC
        have HALL := Aside0.mk hall
        by_cases hE : ((rows[i].length : Int) = cols)
        · have HN : Aside0 (Ck1 cols rows wr (.int .i64 ((i : Int) + 1)) wr) := ⟨i + 1, by simp, hlt, by rw [all_take _ _ _ hlt, HALL.out]; simp [hE], rfl⟩
          have hd : ((rows[i].length : Int) != cols) = false := bne_eq_false_iff_eq.2 hE
          clear hE hall hri hc0 hC
          generalize rows[i].length = k at *
          go_wp2
          exact ⟨HN.out, by simp [intOf]; omega⟩
        · have HN : Aside0 (rows.all (fun r => decide ((r.length : Int) = cols)) = false) := ⟨all_drop_no _ _ i hlt (by simp [hE])⟩
          have hd : ((rows[i].length : Int) != cols) = true := bne_iff_ne.mpr hE
          clear hE hall hri hc0 hC
          generalize rows[i].length = k at *
          go_wp2
          go_ret
          exact ⟨ret_int (by rw [HM.out, HN.out]; rfl), HB.out⟩
      · have HN : Aside0 (rows.all (fun r => decide ((r.length : Int) = cols)) = true) := ⟨by rw [List.take_of_length_le (by omega)] at hall; exact hall⟩
        clear hall
        go_wp2
        go_loopw [40] (fun u wo => Ck2 F rows wr u wo) (fun u _ => rows.length - (intOf u).toNat)
        case atStart => exact HR2.out
        case round =>
          clear HR2
          obtain ⟨j, rfl, hj, hall, rfl⟩ := hrel
          by_cases hlt : j < rows.length
          · obtain ⟨ad, A0, c0, e, hx, hc0, hC⟩ := at_L1 HR.out (j : Int) (by omega) (by omega)
            rw [toNat_nat] at hx
            subst e
            have hri : rd_L1 rows (j : Int) = rows[j] := by
              show rows.getD j [] = _
              rw [List.getD_eq_getElem?_getD, List.getElem?_eq_getElem hlt]; rfl
            rw [hri] at hx hc0 hC
            have HALL := Aside0.mk hall
            have hC2 := hC
            have HEN := entries_calls g F A0 c0 rows[j] wr HG.out hC (HL2.out _ (List.getElem_mem hlt))
            unfold enE at HEN
            by_cases hE : entOk F rows[j] = true
            · rw [if_pos hE] at HEN
              have HEN := Aside0.mk HEN
              have HN2 : Aside0 (Ck2 F rows wr (.int .i64 ((j : Int) + 1)) wr) := ⟨j + 1, by simp, hlt, by rw [all_take _ _ _ hlt, HALL.out, hE]; rfl, rfl⟩
              clear hE hall hri hc0 hC hC2
              go_wp2_with (go_at_call 109; refine HEN.out.mono ?_; rintro e w' ⟨rfl, rfl⟩)
              exact ⟨HN2.out, by simp [intOf]; omega⟩
            · rw [if_neg hE] at HEN
              have HEN := Aside0.mk HEN
              have HN2 : Aside0 (rows.all (entOk F) = false) := ⟨all_drop_no _ _ j hlt (by simpa using hE)⟩
              clear hE hall hri hc0 hC hC2
              go_wp2_with (go_at_call 109; refine HEN.out.mono ?_; rintro e w' ⟨rfl, rfl⟩)
              go_ret
              exact ⟨ret_int (by rw [HM.out, HN.out, HN2.out]; rfl), HB.out⟩
          · have HN2 : Aside0 (rows.all (entOk F) = true) := ⟨by rw [List.take_of_length_le (by omega)] at hall; exact hall⟩
            clear hall
            go_wp2
            go_ret
            exact ⟨ret_int (by rw [HM.out, HN.out, HN2.out]; rfl), HB.out⟩
end Go.Proofs.Ytekenifndicdeaa.P
