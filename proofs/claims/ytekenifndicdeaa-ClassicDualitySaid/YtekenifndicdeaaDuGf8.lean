/- Walks: matrix.clone, matrix.canon. -/
import Derived.Test.YtekenifndicdeaaDuGf7
import Derived.Test.YtekenifndicdeaaDuMem
import Derived.Test.YtekenifndicdeaaDuHClone
namespace Go.Proofs.Ytekenifndicdeaa.P
open Go.RowKit Go.Proofs.YtekenifndicdeaaW.PrintWords Go.Proofs.YtekenifndicdeaaW.PrintLast Go.Proofs.YtekenifndicdeaaW.PrintMore Go.Proofs.Ytekenifndicdeaa.B
attribute [local go_sem] max2_int min2_int max_two min_two max_three min_three max_four min_four
set_option linter.unusedVariables false
set_option linter.unusedSimpArgs false
theorem clone_any (A0 : Option Addr) (c0 : Nat) (l0 : List Int) (w : World) (hr0 : Kd.C (Kd.int .i64) w A0 l0.length l0) (hc0 : l0.length ≤ c0) (hl : l0.length ≤ 1000000) (hne : l0 ≠ []) :
    Calls Try.prog 53 #[.slice A0 l0.length c0] w fun e w' => ∃ b c, e = .returned (.slice (some ⟨b, 0, none⟩) l0.length c) ∧ l0.length ≤ c ∧ w.heap.size ≤ b ∧ IntRow w' b l0 ∧ Below w.heap.size w w' := by
  refine (slices_Clone_int_int.calls A0 c0 l0 l0 w hr0 hc0 ?_).mono ?_
  · unfold slices_Clone_int_int.f
    simp only [Option.bind_some, List.nil_append]
    rw [if_pos (by simp; omega)]
  · rintro e w' ⟨v, rfl, hR, hb⟩
    obtain ⟨b, c, rfl, h1, h2, h3⟩ := IntRow.of_R hR hne
    exact ⟨b, c, rfl, h1, h2, h3, hb⟩
def ClIn (w : World) (b : Nat) (rows : List (List Int)) (u : Value) (wr : World) : Prop :=
  ∃ (i : Nat) (rs : Nat → Nat), u = .int .i64 (i : Int) ∧ i ≤ rows.length ∧ MX wr b rs (rows.take i) ∧ (∃ cs, wr.heap[b]? = some (.cells cs 23 (0, 0)) ∧ cs.size = rows.length) ∧ Below w.heap.size w wr ∧ ∀ j, j < i → w.heap.size ≤ rs j
set_option maxHeartbeats 1000000 in
theorem clone_calls (A : Option Addr) (c : Nat) (rows : List (List Int)) (n : Nat) (w : World) (hr : Kd.C (Kd.slice 3 (Kd.int .i64)) w A rows.length rows) (hc : rows.length ≤ c) (hm : rows.length ≤ 1000000) (hn : ∀ r ∈ rows, r.length = n) (hn1 : 1 ≤ n) (hn2 : n ≤ 1000000) :
    Calls Try.prog 85 #[.slice A rows.length c] w fun e w' => ∃ b rs, e = .returned (.slice (some ⟨b, 0, none⟩) rows.length rows.length) ∧ w.heap.size ≤ b ∧ MX w' b rs rows ∧ (∀ j, j < rows.length → w.heap.size ≤ rs j) ∧ Below w.heap.size w w' := by
  have HR := Aside0.mk hr
  have HN := Aside0.mk hn
  obtain ⟨m, em⟩ : ∃ m, m = rows.length := ⟨_, rfl⟩
  have HM := Aside0.mk em
  rw [← em] at hm hc ⊢
  clear hr hn em
  go_enter Try.func85, Try.ntmps85
  go_wp2_with ((with_reducible refine gate_dst (N := 8) rfl ?_); refine mk_cells rfl (.tmp 7) rfl Try.underlying26 (z := .slice none 0 0) (bytes := 24) (by kernel_rfl) rfl m rfl hm (by omega) ?_; intro w1 hr1 hb1; have HR1 := Aside0.mk hr1; have HB1 := Aside0.mk hb1; clear hr1 hb1)
  have HR0 : Aside0 (ClIn w w.heap.size rows (.int .i64 0) w1) := ⟨by
    obtain ⟨cs, h1, h2⟩ := HR1.out
    refine ⟨0, fun _ => 0, rfl, Nat.zero_le _, ⟨fun i j hi => by simp at hi, ⟨cs, h1, fun i hi => by simp at hi⟩, fun i hi => by simp at hi⟩, ⟨cs, h1, ?_⟩, HB1.out, fun j hj => by omega⟩
    rw [← Array.length_toList, h2, List.length_replicate, HM.out]⟩
  clear HR1 HB1
  go_loopw [11] (fun u wr => ClIn w w.heap.size rows u wr) (fun u _ => m - (intOf u).toNat)
  case atStart => exact HR0.out
  case round =>
    clear HR0
    obtain ⟨i, rs, rfl, hi, hM, hsz, hbel, hlo⟩ := hrel
    rw [← HM.out] at hi
    by_cases hlt : i < m
    · have hlt2 : i < rows.length := by rw [← HM.out]; exact hlt
      obtain ⟨ad, A0, c0, e, hx, hc0, hC⟩ := at_L1 (Kd.C_below HR.out hbel) (i : Int) (by omega) (by omega)
      rw [toNat_nat] at hx
      have erow : rd_L1 rows (i : Int) = rows.getD i [] := rfl
      rw [erow] at hx hc0 hC
      subst e
      have hrn : (rows.getD i []).length = n := by
        rw [List.getD_eq_getElem?_getD, List.getElem?_eq_getElem hlt2]; exact HN.out _ (List.getElem_mem hlt2)
      have htk : rows.take (i + 1) = rows.take i ++ [rows.getD i []] := by
        rw [List.take_add_one, List.getElem?_eq_getElem hlt2, List.getD_eq_getElem?_getD, List.getElem?_eq_getElem hlt2]; rfl
      have htl : (rows.take i).length = i := by rw [List.length_take]; omega
      obtain ⟨x, ex⟩ : ∃ x, x = rows.getD i [] := ⟨_, rfl⟩
      rw [← ex] at hx hc0 hC hrn htk
      have hwl := hM.lt
      obtain ⟨cs, hcs, hcsz⟩ := hsz
      have HST : Aside0 (∀ nb cc W, wr.heap.size ≤ nb → IntRow W nb x → x.length ≤ cc → Below wr.heap.size wr W → ClIn w w.heap.size rows (.int .i64 ((i : Int) + 1)) (W.setCell ⟨w.heap.size, i, none⟩ (.slice (some ⟨nb, 0, none⟩) x.length cc))) := ⟨fun nb cc W hnb hxr hcc hbW => by
        have hs := (hM.below hbW).snoc (nb := nb) (c := cc) (m := rows.length) (x := x) ⟨cs, blk_below hcs hbW, hcsz⟩ (by rw [htl]; exact hlt2) hxr hcc (fun j hj e => by have := (hM.row j hj).lt; omega)
        rw [htl, ← htk] at hs
        refine ⟨i + 1, _, by simp, by omega, hs.1, hs.2, (hbel.trans (hbW.mono hbel.size)).setCell (Nat.le_refl _) _, fun j hj => ?_⟩
        unfold rput
        split
        · exact Nat.le_trans hbel.size hnb
        · exact hlo j (by omega)⟩
      have HC0 : Aside0 (x.length ≤ c0 ∧ x ≠ [] ∧ x.length ≤ 1000000 ∧ Kd.C (Kd.int .i64) wr A0 x.length x) := ⟨hc0, by rintro rfl; simp at hrn; omega, by omega, hC⟩
      have ui : wr.cell? ⟨w.heap.size, i, none⟩ = cs[i]? := blk_cell hcs i
      have uz := blk_frozen hcs i
      obtain ⟨vi, hvi⟩ : ∃ v, cs[i]? = some v := ⟨cs[i]'(by omega), Array.getElem?_eq_getElem (by omega)⟩
      rw [hvi] at ui
      clear hM hcs hcsz hbel hlo hC hc0 hrn htk htl ex hvi
      go_wp2_with (go_at_call 53; refine (clone_any _ _ _ _ HC0.out.2.2.2 HC0.out.1 HC0.out.2.2.1 HC0.out.2.1).mono ?_; rintro e w5 ⟨nb, cc, rfl, hcc, hnb, hxr, hbW⟩; have y1 := cell_below hbW ui; have y2 := frozen_below hbW ui uz; have HN1 := Aside0.mk (HST.out nb cc w5 hnb hxr hcc hbW); clear hcc hnb hxr hbW)
      exact ⟨HN1.out, by simp [intOf]; omega⟩
    · have hie : i = m := by omega
      have HE : Aside0 (∃ rs, MX wr w.heap.size rs rows ∧ (∀ j, j < m → w.heap.size ≤ rs j) ∧ Below w.heap.size w wr) := ⟨rs, by
        rw [List.take_of_length_le (by rw [← HM.out]; omega)] at hM
        exact hM, fun j hj => hlo j (by omega), hbel⟩
      clear hM hsz hbel hlo
      go_wp2
      go_ret
      obtain ⟨rs', h1, h2, h3⟩ := HE.out
      exact ⟨_, rs', rfl, Nat.le_refl _, h1, h2, h3⟩
/-- The canonical rows of a matrix. -/
def MatV (w : World) (v : Value) (l : List (List Int)) : Prop := ∃ A c, v = .slice A l.length c ∧ l.length ≤ c ∧ Kd.C (Kd.slice 3 (Kd.int .i64)) w A l.length l
def IntV (w : World) (v : Value) (l : List Int) : Prop := ∃ A c, v = .slice A l.length c ∧ l.length ≤ c ∧ Kd.C (Kd.int .i64) w A l.length l
theorem MatV.below {w w1 : World} {v : Value} {l : List (List Int)} (h : MatV w v l) (hb : Below w.heap.size w w1) : MatV w1 v l := by
  obtain ⟨A, c, e, hl, hC⟩ := h
  exact ⟨A, c, e, hl, Kd.C_below hC hb⟩
theorem IntV.below {w w1 : World} {v : Value} {l : List Int} (h : IntV w v l) (hb : Below w.heap.size w w1) : IntV w1 v l := by
  obtain ⟨A, c, e, hl, hC⟩ := h
  exact ⟨A, c, e, hl, Kd.C_below hC hb⟩
/-- The same, whatever becomes of the blocks below B. -/
def MatN (B : Nat) (w : World) (v : Value) (l : List (List Int)) : Prop := ∃ A c, v = .slice A l.length c ∧ l.length ≤ c ∧ ∀ W, Tch (fun k => k < B) w W → Kd.C (Kd.slice 3 (Kd.int .i64)) W A l.length l
def IntN (B : Nat) (w : World) (v : Value) (l : List Int) : Prop := ∃ A c, v = .slice A l.length c ∧ l.length ≤ c ∧ ∀ W, Tch (fun k => k < B) w W → Kd.C (Kd.int .i64) W A l.length l
theorem MatN.at {B : Nat} {w W : World} {v : Value} {l : List (List Int)} (h : MatN B w v l) (ht : Tch (fun k => k < B) w W) : MatV W v l := by
  obtain ⟨A, c, e, hl, hC⟩ := h
  exact ⟨A, c, e, hl, hC W ht⟩
theorem IntN.at {B : Nat} {w W : World} {v : Value} {l : List Int} (h : IntN B w v l) (ht : Tch (fun k => k < B) w W) : IntV W v l := by
  obtain ⟨A, c, e, hl, hC⟩ := h
  exact ⟨A, c, e, hl, hC W ht⟩
theorem MatN.step {B B' : Nat} {w w1 : World} {v : Value} {l : List (List Int)} (h : MatN B' w v l) (ht : Tch (fun k => k < B') w w1) (hB : B ≤ B') : MatN B w1 v l := by
  obtain ⟨A, c, e, hl, hC⟩ := h
  exact ⟨A, c, e, hl, fun W hW => hC W (ht.trans (hW.mono (fun k _ hk => Nat.lt_of_lt_of_le hk hB)))⟩
theorem IntN.step {B B' : Nat} {w w1 : World} {v : Value} {l : List Int} (h : IntN B' w v l) (ht : Tch (fun k => k < B') w w1) (hB : B ≤ B') : IntN B w1 v l := by
  obtain ⟨A, c, e, hl, hC⟩ := h
  exact ⟨A, c, e, hl, fun W hW => hC W (ht.trans (hW.mono (fun k _ hk => Nat.lt_of_lt_of_le hk hB)))⟩
set_option maxHeartbeats 1000000 in
theorem canon_calls (g : Nat) (F : Fr) (A : Option Addr) (c : Nat) (rows : List (List Int)) (n : Nat) (w : World) (hF : F.Ok) (hK : Fld F.ops) (hG : GFat w g F) (hr : Kd.C (Kd.slice 3 (Kd.int .i64)) w A rows.length rows) (hc : rows.length ≤ c) (hm : rows.length ≤ 1000000) (hmat : Mat F.ops n rows) (hn1 : 1 ≤ n) (hn2 : n ≤ 1000000) :
    Calls Try.prog 59 #[.pointer (some ⟨g, 0, none⟩), .slice A rows.length c, .int .i64 (n : Int)] w fun e w' => ∃ v p, e = .returned (.tuple #[v, p]) ∧ MatN w.heap.size w' v (canonS F.ops n rows) ∧ IntN w.heap.size w' p (elimS F.ops rows n).2 ∧ Below w.heap.size w w' := by
  have HG := Aside0.mk hG
  have HK := Aside0.mk hK
  have HMAT := Aside0.mk hmat
  have HC := Aside0.mk (clone_calls A c rows n w hr hc hm (fun r h => (hmat r h).1) hn1 hn2)
  obtain ⟨L, ps, c', e1, r1, r2, r3, _⟩ := elim_inv hK n n 0 0 rows [] (by omega) hmat {
    len := rfl
    le := Nat.zero_le _
    asc := fun i j _ h => by omega
    lt := fun i h => by omega
    one := fun i h => by omega
    clr := fun i j h => by omega
    left := fun i c h => by omega
    low := fun i c h1 h2 h3 => by omega }
  have e2 : elimS F.ops rows n = (L, castS ps) := e1
  have HCL : Aside0 ((elimS F.ops rows n).2.length ≤ rows.length ∧ (elimS F.ops rows n).1.length = rows.length ∧ Mat F.ops n (elimS F.ops rows n).1) := ⟨by
    rw [e2]
    refine ⟨?_, r2, r1⟩
    have := r3.le
    simp only [castS, List.length_map]
    omega⟩
  obtain ⟨m, em⟩ : ∃ m, m = rows.length := ⟨_, rfl⟩
  have HM := Aside0.mk em
  rw [← em] at HC HCL hm hc ⊢
  clear hG hK hmat hr em r1 r2 r3 e1 e2
  go_enter Try.func59, Try.ntmps59
  go_wp2_with (first | (go_at_call 85; refine HC.out.mono ?_; rintro e w1 ⟨b, rs, rfl, hb, hM, hlo, hbel⟩; have hbb := hb; have HX := Aside0.mk (eliminate_calls g b m m n n F rs rows w w1 hF HK.out HG.out hbel hM HMAT.out HM.out.symm hlo hb (Nat.le_refl _) hm hn2 (Nat.le_refl _)); clear hb hM hlo hbel) | (go_at_call 86; refine HX.out.mono ?_; rintro e w2 ⟨vP, det, rfl, hp⟩; obtain ⟨rs', hb, hM, hlo, hR⟩ := hp; have hR2 := Kd.R_bound hR; obtain ⟨AP, cP, eP, hlP, hCP⟩ := Kd.R_reads hR; subst eP; have HP := Aside0.mk hlP; have HCP := Aside0.mk hR2; have HM2 := Aside0.mk hM; have HLO2 := Aside0.mk hlo;  have HB2 := Aside0.mk hb; have hpl := HCL.out.1; clear hb hM hlo hR hlP hCP hR2))
  have e : (canonS F.ops n rows).length = (elimS F.ops rows n).2.length := by unfold canonS; rw [List.length_take, HCL.out.2.1]; omega
  have hl1 := HCL.out.2.1
  have HV : MatN w.heap.size w2 (.slice (some ⟨b, 0, none⟩) (elimS F.ops rows n).2.length (elimS F.ops rows n).2.length) (canonS F.ops n rows) := ⟨some ⟨b, 0, none⟩, (elimS F.ops rows n).2.length, by rw [e], by omega, fun W hW => by
    rw [e]
    refine (HM2.out.tch hW (by omega) (fun i hi => by have := HLO2.out i (by omega); omega)).C _ (by omega) (fun i hi => by rw [(Mat_get HCL.out.2.2 i hi).1]; exact hn2) (by omega)⟩
  have HI : IntN w.heap.size w2 (.slice AP (elimS F.ops rows n).2.length cP) (elimS F.ops rows n).2 := ⟨AP, cP, rfl, HP.out, fun W hW => by
    have h1 := Kd.R_step HCP.out (w1 := W) (fun k hk hlt => hW.block k hlt (by have := hk.2.1; omega))
    obtain ⟨A', c', e', _, hC⟩ := Kd.R_reads h1
    injection e' with e1 _ _
    rw [e1]; exact hC⟩
  clear e hl1 hbb
  go_ret2
  exact ⟨_, _, rfl, HV, HI, HB2.out⟩
end Go.Proofs.Ytekenifndicdeaa.P
