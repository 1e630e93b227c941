import Derived.Test.YtekenifndicdeaaDuGf2
import Derived.RegionTactic
import Derived.BigRegion
import Derived.Test.YtekenifndicdeaaDuRg
namespace Go.Proofs.Ytekenifndicdeaa.P
open Go.RowKit Go.Proofs.YtekenifndicdeaaW.PrintWords Go.Proofs.YtekenifndicdeaaW.PrintLast Go.Proofs.YtekenifndicdeaaW.PrintMore Go.Proofs.Ytekenifndicdeaa.B
attribute [local go_sem] max2_int min2_int max_two min_two max_three min_three max_four min_four
set_option linter.unusedVariables false
set_option linter.unusedSimpArgs false
/-- A captured number. -/
def BoxI (w : World) (b : Nat) (x : Int) : Prop := w.heap[b]? = some (.cells #[.int .i64 x] 3 (0, 0))
def SwPost (bl : Nat) (rs : Nat → Nat) (l : List (List Int)) (a k : Nat) (w w' : World) : Prop := MX w' bl (rswap rs a k) (swapS l a k) ∧ Tch (fun i => i = bl) w w'
theorem sw_calls (bl : Nat) (rs : Nat → Nat) (l : List (List Int)) (cl a k ba bk : Nat) (w : World) (hM : MX w bl rs l) (ha : a < l.length) (hk : k < l.length) (hak : a ≠ k) (hcl : l.length ≤ cl) (hba : BoxI w ba a) (hbk : BoxI w bk k) :
    Calls Try.prog 111 #[.slice (some ⟨bl, 0, none⟩) l.length cl, .pointer (some ⟨bk, 0, none⟩), .pointer (some ⟨ba, 0, none⟩)] w fun e w' => e = .returned (.tuple #[]) ∧ SwPost bl rs l a k w w' := by
  have HM := Aside0.mk hM
  have HAK := Aside0.mk hak
  obtain ⟨ca, ea, hca⟩ := hM.cell a ha
  obtain ⟨ck, ek, hck⟩ := hM.cell k hk
  have fa := hM.frozen a
  have fk := hM.frozen k
  have xa : w.cell? ⟨ba, 0, none⟩ = some (.int .i64 (a : Int)) := (blk_cell hba 0).trans rfl
  have xk : w.cell? ⟨bk, 0, none⟩ = some (.int .i64 (k : Int)) := (blk_cell hbk 0).trans rfl
  have a1 : (0 : Int) ≤ (a : Int) := by omega
  have a2 : (a : Int) < (l.length : Int) := by omega
  have k1 : (0 : Int) ≤ (k : Int) := by omega
  have k2 : (k : Int) < (l.length : Int) := by omega
  have HSW := Aside0.mk (fun W (hW : MX W bl rs l) => hW.swap ha hk hak hca hck)
  have s1 : (w.setCell ⟨bl, a, none⟩ (.slice (some ⟨rs k, 0, none⟩) (l.getD k []).length ck)).cell? ⟨bl, k, none⟩ = some (.slice (some ⟨rs k, 0, none⟩) (l.getD k []).length ck) := (World.cell?_setCell_other w _ _ _ (by simp [hak])).trans ek
  have s2 : (w.setCell ⟨bl, k, none⟩ (.slice (some ⟨rs a, 0, none⟩) (l.getD a []).length ca)).cell? ⟨bl, a, none⟩ = some (.slice (some ⟨rs a, 0, none⟩) (l.getD a []).length ca) := (World.cell?_setCell_other w _ _ _ (by simp [Ne.symm hak])).trans ea
  have nba : ba ≠ bl := blk_ne hba hM.hd.choose_spec.1 (by decide)
  have nbk : bk ≠ bl := blk_ne hbk hM.hd.choose_spec.1 (by decide)
  have s3 : (w.setCell ⟨bl, a, none⟩ (.slice (some ⟨rs k, 0, none⟩) (l.getD k []).length ck)).cell? ⟨bk, 0, none⟩ = some (.int .i64 (k : Int)) := (World.cell?_setCell_other w _ _ _ (by simp [Ne.symm nbk])).trans xk
  have s4 : (w.setCell ⟨bl, k, none⟩ (.slice (some ⟨rs a, 0, none⟩) (l.getD a []).length ca)).cell? ⟨ba, 0, none⟩ = some (.int .i64 (a : Int)) := (World.cell?_setCell_other w _ _ _ (by simp [Ne.symm nba])).trans xa
  clear nba nbk
  generalize (l.getD a []).length = na at *
  generalize (l.getD k []).length = nk at *
  clear hM hba hbk hak hca hck
  go_enter Try.func111, Try.ntmps111
  go_wp2
  go_region
  all_goals
    go_end0
    exact ⟨rfl, (HSW.out _ HM.out).drew 1, (((Tch.refl (fun i => i = bl) w).set (.inl rfl) _).set (.inl rfl) _).drew⟩
def BoxG (w : World) (b g : Nat) : Prop := w.heap[b]? = some (.cells #[.pointer (some ⟨g, 0, none⟩)] 80 (0, 0))
def ScPost (F : Fr) (bl : Nat) (rs : Nat → Nat) (l : List (List Int)) (a : Nat) (v : Int) (w w' : World) : Prop := ∃ nb, w.heap.size ≤ nb ∧ MX w' bl (rput rs a nb) (l.set a (scaleS F.ops v (l.getD a []))) ∧ Tch (fun i => i = bl) w w'
theorem cell_below {w w1 : World} (hb : Below w.heap.size w w1) {p : Addr} {v : Value} (h : w.cell? p = some v) : w1.cell? p = some v := by
  have hlt : p.block < w.heap.size := by
    unfold World.cell? at h
    split at h
    · rename_i c _ _ e; exact (Array.getElem?_eq_some_iff.1 e).1
    · cases h
  exact (hb.cell hlt).trans h
theorem frozen_below {w w1 : World} (hb : Below w.heap.size w w1) {p : Addr} {v : Value} (hc : w.cell? p = some v) (h : w.frozen? p = false) : w1.frozen? p = false := by
  have hlt : p.block < w.heap.size := by
    unfold World.cell? at hc
    split at hc
    · rename_i c _ _ e; exact (Array.getElem?_eq_some_iff.1 e).1
    · cases hc
  exact (hb.frozen hlt).trans h
theorem sc_calls (g : Nat) (F : Fr) (bl : Nat) (rs : Nat → Nat) (l : List (List Int)) (cl a ba bi bg : Nat) (v : Int) (w : World) (hF : F.Ok) (hG : GFat w g F) (hM : MX w bl rs l) (ha : a < l.length) (hcl : l.length ≤ cl) (hba : BoxI w ba a) (hbi : BoxI w bi v) (hbg : BoxG w bg g) (hv : F.El v) (hE : ElL F.ops (l.getD a [])) (hl : (l.getD a []).length ≤ 1000000) :
    Calls Try.prog 114 #[.slice (some ⟨bl, 0, none⟩) l.length cl, .pointer (some ⟨bg, 0, none⟩), .pointer (some ⟨bi, 0, none⟩), .pointer (some ⟨ba, 0, none⟩)] w fun e w' => e = .returned (.tuple #[]) ∧ ScPost F bl rs l a v w w' := by
  have HM := Aside0.mk hM
  have HG := Aside0.mk hG
  have HV := Aside0.mk hv
  have HE := Aside0.mk hE
  have HL := Aside0.mk hl
  obtain ⟨ca, ea, hca⟩ := hM.cell a ha
  have HCA := Aside0.mk hca
  have fa := hM.frozen a
  have xa : w.cell? ⟨ba, 0, none⟩ = some (.int .i64 (a : Int)) := (blk_cell hba 0).trans rfl
  have xi : w.cell? ⟨bi, 0, none⟩ = some (.int .i64 v) := (blk_cell hbi 0).trans rfl
  have xg : w.cell? ⟨bg, 0, none⟩ = some (.pointer (some ⟨g, 0, none⟩)) := (blk_cell hbg 0).trans rfl
  have a1 : (0 : Int) ≤ (a : Int) := by omega
  have a2 : (a : Int) < (l.length : Int) := by omega
  have HA := Aside0.mk ha
  have hR := hM.row a ha
  obtain ⟨ra, era⟩ : ∃ ra, ra = l.getD a [] := ⟨_, rfl⟩
  rw [← era] at ea HE HL HCA hR
  have HR := Aside0.mk hR
  have HRA := Aside0.mk era
  clear hG hv hE hl hM hba hbi hbg hca ha hR era
  go_enter Try.func114, Try.ntmps114
  go_wp2
  refine rs_ 11 (fun W => W.cell? ⟨ba, 0, none⟩ = some (.int .i64 (a : Int)) ∧ W.cell? ⟨bi, 0, none⟩ = some (.int .i64 v) ∧ W.cell? ⟨bg, 0, none⟩ = some (.pointer (some ⟨g, 0, none⟩)) ∧ W.cell? ⟨bl, a, none⟩ = some (.slice (some ⟨rs a, 0, none⟩) ra.length ca)) [10] ⟨xa, xi, xg, ea⟩ (fun hHeld => ?_)
  refine rp_ 0 5 ?_
  refine rt_ 1 6 ?_
  refine rt_ 2 7 ?_
  refine rt_ 3 8 ?_
  refine rp_ 4 9 ?_
  refine rt_ 5 10 ?_
  refine rp_ 6 11 ?_
  refine rt_ 7 12 ?_
  refine rc2_ 8 13 Try.func115 ?_
  refine (gf_Scale _ F _ _ _ _ _ hF (HG.out.drew 1) (Kd.C_drewN (HR.out.C (by have := HL.out; omega)) 1) HCA.out HL.out HV.out HE.out).mono ?_
  rintro e w' ⟨nb, rfl, hnb, hr, hb⟩
  replace hb : Below w.heap.size w w' := (pw_below_drewN (Below.refl _ _) 1).trans hb
  have y2 := cell_below hb ea
  have y3 := frozen_below hb ea fa
  have HP : Aside0 (ScPost F bl rs l a v w (w'.setCell ⟨bl, a, none⟩ (.slice (some ⟨nb, 0, none⟩) ra.length ra.length))) := ⟨nb, hnb, HRA.out ▸ (show (scaleS F.ops v ra).length = ra.length by simp [scaleS]) ▸ (HM.out.below hb).put (c := ra.length) HA.out hr (by simp [scaleS]) (fun j hj _ e => by have := (HM.out.row j hj).lt; have : w.heap.size ≤ nb := hnb; omega), (Tch.of_below hb (fun i => i = bl)).set (.inl rfl) _⟩
  refine ⟨_, rfl, ⟨cell_below hb xa, cell_below hb xi, cell_below hb xg, y2⟩, fun hHeld => ?_⟩
  clear hb hr hnb
  refine rn_ ?_
  refine rp_ 9 14 ?_
  refine rl_ 10 ?_
  refine rd2_ ?_
  go_end0
  exact ⟨rfl, HP.out⟩
def AdPost (F : Fr) (bl : Nat) (rs : Nat → Nat) (l : List (List Int)) (a i : Nat) (x : Int) (w w' : World) : Prop := MX w' bl rs (l.set i (addToS F.ops (l.getD i []) (F.neg x) (l.getD a []))) ∧ Tch (fun k => k = rs i) w w'
theorem ad_calls (g : Nat) (F : Fr) (bl : Nat) (rs : Nat → Nat) (l : List (List Int)) (cl a i n ba bi bx bg : Nat) (x : Int) (w0 w : World) (hF : F.Ok) (hcl2 : ∀ x y, F.El x → F.El y → F.El (F.mul x y)) (hneg : F.El (F.neg x)) (hG : GFat w0 g F) (hB : Below w0.heap.size w0 w) (hbase : ∀ j, j < l.length → w0.heap.size ≤ rs j) (hM : MX w bl rs l) (hmat : Mat F.ops n l)
    (ha : a < l.length) (hi : i < l.length) (hai : a ≠ i) (hcl : l.length ≤ cl) (hba : BoxI w ba a) (hbi : BoxI w bi i) (hbx : BoxI w bx x) (hbg : BoxG w bg g) (hx : F.El x) (hn : n ≤ 1000000) :
    Calls Try.prog 116 #[.slice (some ⟨bl, 0, none⟩) l.length cl, .pointer (some ⟨bg, 0, none⟩), .pointer (some ⟨bi, 0, none⟩), .pointer (some ⟨bx, 0, none⟩), .pointer (some ⟨ba, 0, none⟩)] w fun e w' => e = .returned (.tuple #[]) ∧ AdPost F bl rs l a i x w w' := by
  obtain ⟨ca, ea, hca⟩ := hM.cell a ha
  obtain ⟨ci, ei, hci⟩ := hM.cell i hi
  have hra := Mat_get hmat a ha
  have hri := Mat_get hmat i hi
  have xa : w.cell? ⟨ba, 0, none⟩ = some (.int .i64 (a : Int)) := (blk_cell hba 0).trans rfl
  have xi : w.cell? ⟨bi, 0, none⟩ = some (.int .i64 (i : Int)) := (blk_cell hbi 0).trans rfl
  have xx : w.cell? ⟨bx, 0, none⟩ = some (.int .i64 x) := (blk_cell hbx 0).trans rfl
  have xg : w.cell? ⟨bg, 0, none⟩ = some (.pointer (some ⟨g, 0, none⟩)) := (blk_cell hbg 0).trans rfl
  have HW := Aside0.mk (hG.below hB)
  have HGS : Aside0 (∀ W, Tch (fun k => k = rs i) w W → GFat W g F) := ⟨fun W hW => hG.below (hB.trans (hW.below (fun k _ e => by rw [e]; exact hbase i hi) hB.size))⟩
  have HUS : Aside0 (∀ W, Tch (fun k => k = rs i) w W → Kd.C (Kd.int .i64) W (some ⟨rs a, 0, none⟩) (l.getD a []).length (l.getD a [])) := ⟨fun W hW => ((hM.row a ha).tch hW (fun e => hai (hM.nd a i ha hi e))).C (by rw [hra.1]; omega)⟩
  have HRI := Aside0.mk (hM.row i hi)
  have HP : Aside0 (∀ W, IntRow W (rs i) (addToS F.ops (l.getD i []) (F.neg x) (l.getD a [])) → Tch (fun k => k = rs i) w W → AdPost F bl rs l a i x w W) := ⟨fun W h1 h2 => ⟨hM.upd hi h2 h1 (by unfold addToS; simp), h2⟩⟩
  have a1 : (0 : Int) ≤ (a : Int) := by omega
  have a2 : (a : Int) < (l.length : Int) := by omega
  have i1 : (0 : Int) ≤ (i : Int) := by omega
  have i2 : (i : Int) < (l.length : Int) := by omega
  have HX := Aside0.mk hx
  have HN := Aside0.mk hneg
  have HC := Aside0.mk hcl2
  obtain ⟨la, ela⟩ : ∃ la, la = l.getD a [] := ⟨_, rfl⟩
  obtain ⟨li, eli⟩ : ∃ li, li = l.getD i [] := ⟨_, rfl⟩
  rw [← ela] at hra ea hca HUS HP
  rw [← eli] at hri ei hci HRI HP
  have HRA := Aside0.mk hra
  have HRII := Aside0.mk hri
  have HCA := Aside0.mk hca
  have HCI := Aside0.mk hci
  clear hG hB hbase hM hmat ha hi hai hba hbi hbx hbg hx hneg hcl2 hra hri ela eli hca hci
  go_enter Try.func116, Try.ntmps116
  go_wp2
  refine rs_ 13 (fun W => W.cell? ⟨ba, 0, none⟩ = some (.int .i64 (a : Int)) ∧ W.cell? ⟨bi, 0, none⟩ = some (.int .i64 (i : Int)) ∧ W.cell? ⟨bx, 0, none⟩ = some (.int .i64 x) ∧ W.cell? ⟨bg, 0, none⟩ = some (.pointer (some ⟨g, 0, none⟩)) ∧ W.cell? ⟨bl, a, none⟩ = some (.slice (some ⟨rs a, 0, none⟩) la.length ca) ∧ W.cell? ⟨bl, i, none⟩ = some (.slice (some ⟨rs i, 0, none⟩) li.length ci)) [12] ⟨xa, xi, xx, xg, ea, ei⟩ (fun hHeld => ?_)
  refine rt_ 0 6 ?_
  refine rp_ 1 7 ?_
  refine rt_ 2 8 ?_
  refine rp_ 3 9 ?_
  refine rt_ 4 10 ?_
  refine rt_ 5 11 ?_
  refine rt_ 6 12 ?_
  refine rp_ 8 14 ?_
  refine rt_ 9 15 ?_
  refine rp_ 10 16 ?_
  refine rt_ 11 17 ?_
  refine rc2_ 7 13 Try.func61 ?_
  refine (gf_Neg _ F _ _ (HW.out.drew 1) hF HX.out).mono ?_
  rintro e w' ⟨rfl, m, rfl⟩
  refine ⟨_, rfl, ⟨xa, xi, xx, xg, ea, ei⟩, fun hHeld => ?_⟩
  have HT := Aside0.mk (((Tch.refl (fun k => k = rs i) w).drewN 1).drewN m)
  have HRW := Aside0.mk (HRI.out.tch (((Tch.refl (fun _ => False) w).drewN 1).drewN m) (fun h => h))
  change wpAnyLast _ _ _ _ _ _ _ _ _ ((w.drewN 1).drewN m)
  generalize (w.drewN 1).drewN m = w2 at HT HRW ⊢
  refine rn_ ?_
  refine re_ 12 Try.func117 ?_
  refine (mat_add g F (rs i) ci li (F.neg x) _ ca la _ hF HC.out (fun W hW => HGS.out W (HT.out.trans hW)) (fun W hW => HUS.out W (HT.out.trans hW)) HRW.out (by rw [HRA.out.1, HRII.out.1]) HCI.out HCA.out (by rw [HRII.out.1]; omega) HN.out HRA.out.2 HRII.out.2).mono ?_
  rintro e w' ⟨rfl, hr, ht⟩
  have HQ := Aside0.mk (HP.out w' hr (HT.out.trans ht))
  clear hr ht
  refine ⟨_, rfl, ?_⟩
  refine rn_ ?_
  refine rd2_ ?_
  go_end0
  exact ⟨rfl, HQ.out⟩
end Go.Proofs.Ytekenifndicdeaa.P
namespace Go.Proofs.Ytekenifndicdeaa.P
open Go.RowKit Go.Proofs.YtekenifndicdeaaW.PrintWords Go.Proofs.YtekenifndicdeaaW.PrintLast Go.Proofs.YtekenifndicdeaaW.PrintMore Go.Proofs.Ytekenifndicdeaa.B
attribute [local go_sem] max2_int min2_int max_two min_two max_three min_three max_four min_four
set_option linter.unusedVariables false
set_option linter.unusedSimpArgs false
def BoxS (w : World) (b : Nat) (v : Value) : Prop := w.heap[b]? = some (.cells #[v] 26 (0, 0))
theorem each_sw (br bs : Nat) (v : Value) (p0 p1 : Nat) (R : World → Prop) (w : World) (hr : BoxS w br v) (hs : BoxS w bs (.slice none 0 0)) (hc : Calls Try.prog 111 #[v, .pointer (some ⟨p0, 0, none⟩), .pointer (some ⟨p1, 0, none⟩)] w fun e w' => e = .returned (.tuple #[]) ∧ R w') (hR : ∀ W, R W → BoxS W bs (.slice none 0 0)) :
    Calls Try.prog 110 #[.func (.func 111) #[] #[.pointer (some ⟨p0, 0, none⟩), .pointer (some ⟨p1, 0, none⟩)], .pointer (some ⟨br, 0, none⟩), .pointer (some ⟨bs, 0, none⟩)] w fun e w' => e = .returned (.tuple #[]) ∧ R w' := by
  have xr : w.cell? ⟨br, 0, none⟩ = some v := (blk_cell hr 0).trans rfl
  have HC := Aside0.mk hc
  have HR := Aside0.mk hR
  clear hc hR hr hs
  go_enter Try.func110, Try.ntmps110
  go_wp2_with (go_at_call 111; refine HC.out.mono ?_; rintro e w' ⟨rfl, hr⟩; have x2 : w'.cell? ⟨bs, 0, none⟩ = some (.slice none 0 0) := (blk_cell (HR.out _ hr) 0).trans rfl; have HQ := Aside0.mk hr; clear hr)
  go_end0
  exact ⟨rfl, HQ.out⟩
theorem each_sc (br bs : Nat) (v : Value) (p0 p1 p2 : Nat) (R : World → Prop) (w : World) (hr : BoxS w br v) (hs : BoxS w bs (.slice none 0 0)) (hc : Calls Try.prog 114 #[v, .pointer (some ⟨p0, 0, none⟩), .pointer (some ⟨p1, 0, none⟩), .pointer (some ⟨p2, 0, none⟩)] w fun e w' => e = .returned (.tuple #[]) ∧ R w') (hR : ∀ W, R W → BoxS W bs (.slice none 0 0)) :
    Calls Try.prog 110 #[.func (.func 114) #[] #[.pointer (some ⟨p0, 0, none⟩), .pointer (some ⟨p1, 0, none⟩), .pointer (some ⟨p2, 0, none⟩)], .pointer (some ⟨br, 0, none⟩), .pointer (some ⟨bs, 0, none⟩)] w fun e w' => e = .returned (.tuple #[]) ∧ R w' := by
  have xr : w.cell? ⟨br, 0, none⟩ = some v := (blk_cell hr 0).trans rfl
  have HC := Aside0.mk hc
  have HR := Aside0.mk hR
  clear hc hR hr hs
  go_enter Try.func110, Try.ntmps110
  go_wp2_with (go_at_call 114; refine HC.out.mono ?_; rintro e w' ⟨rfl, hr⟩; have x2 : w'.cell? ⟨bs, 0, none⟩ = some (.slice none 0 0) := (blk_cell (HR.out _ hr) 0).trans rfl; have HQ := Aside0.mk hr; clear hr)
  go_end0
  exact ⟨rfl, HQ.out⟩
theorem each_ad (br bs : Nat) (v : Value) (p0 p1 p2 p3 : Nat) (R : World → Prop) (w : World) (hr : BoxS w br v) (hs : BoxS w bs (.slice none 0 0)) (hc : Calls Try.prog 116 #[v, .pointer (some ⟨p0, 0, none⟩), .pointer (some ⟨p1, 0, none⟩), .pointer (some ⟨p2, 0, none⟩), .pointer (some ⟨p3, 0, none⟩)] w fun e w' => e = .returned (.tuple #[]) ∧ R w') (hR : ∀ W, R W → BoxS W bs (.slice none 0 0)) :
    Calls Try.prog 110 #[.func (.func 116) #[] #[.pointer (some ⟨p0, 0, none⟩), .pointer (some ⟨p1, 0, none⟩), .pointer (some ⟨p2, 0, none⟩), .pointer (some ⟨p3, 0, none⟩)], .pointer (some ⟨br, 0, none⟩), .pointer (some ⟨bs, 0, none⟩)] w fun e w' => e = .returned (.tuple #[]) ∧ R w' := by
  have xr : w.cell? ⟨br, 0, none⟩ = some v := (blk_cell hr 0).trans rfl
  have HC := Aside0.mk hc
  have HR := Aside0.mk hR
  clear hc hR hr hs
  go_enter Try.func110, Try.ntmps110
  go_wp2_with (go_at_call 116; refine HC.out.mono ?_; rintro e w' ⟨rfl, hr⟩; have x2 : w'.cell? ⟨bs, 0, none⟩ = some (.slice none 0 0) := (blk_cell (HR.out _ hr) 0).trans rfl; have HQ := Aside0.mk hr; clear hr)
  go_end0
  exact ⟨rfl, HQ.out⟩
end Go.Proofs.Ytekenifndicdeaa.P
