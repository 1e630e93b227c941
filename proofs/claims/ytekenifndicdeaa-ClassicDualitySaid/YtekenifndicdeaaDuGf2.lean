import Derived.Test.YtekenifndicdeaaDuMem
import Derived.Test.YtekenifndicdeaaDuBase
import Derived.Deep.RegionLaw
namespace Go.Proofs.Ytekenifndicdeaa.P
open Go.RowKit Go.Proofs.YtekenifndicdeaaW.PrintWords Go.Proofs.YtekenifndicdeaaW.PrintLast Go.Proofs.YtekenifndicdeaaW.PrintMore Go.Proofs.Ytekenifndicdeaa.B
attribute [local go_sem] max2_int min2_int max_two min_two max_three min_three max_four min_four
set_option linter.unusedVariables false
set_option linter.unusedSimpArgs false
/-- Its operations, as a field of numbers. -/
def Fr.ops (F : Fr) : Ops := { El := F.El, mul := F.mul, add := F.add, neg := F.neg, inv := F.inv }
theorem ElL_at {G : Ops} {x : List Int} (h : ElL G x) {i : Nat} (hi : i < x.length) : G.El (x.getD i 0) := by
  rw [List.getD_eq_getElem?_getD, List.getElem?_eq_getElem hi]; exact h _ (List.getElem_mem hi)
def AddIn (F : Fr) (a : Int) (xu xv : List Int) (bv : Nat) (w : World) (u : Value) (wr : World) : Prop :=
  ∃ i : Nat, u = .int .i64 i ∧ i ≤ xu.length ∧ IntRow wr bv (tab xv.length fun j => if j < i then (addToS F.ops xv a xu).getD j 0 else xv.getD j 0) ∧ Tch (fun k => k = bv) w wr
theorem mat_add (g : Nat) (F : Fr) (bv cv : Nat) (xv : List Int) (a : Int) (Au : Option Addr) (cu : Nat) (xu : List Int) (w : World) (hF : F.Ok) (hcl : ∀ x y, F.El x → F.El y → F.El (F.mul x y)) (hG : ∀ W, Tch (fun k => k = bv) w W → GFat W g F)
    (hu : ∀ W, Tch (fun k => k = bv) w W → Kd.C (Kd.int .i64) W Au xu.length xu) (hv : IntRow w bv xv) (hl : xu.length = xv.length) (hcv : xv.length ≤ cv) (hcu : xu.length ≤ cu) (hl2 : xv.length ≤ 9223372036854775807) (ha : F.El a) (hxu : ElL F.ops xu) (hxv : ElL F.ops xv) :
    Calls Try.prog 117 #[.pointer (some ⟨g, 0, none⟩), .slice (some ⟨bv, 0, none⟩) xv.length cv, .int .i64 a, .slice Au xu.length cu] w fun e w' => e = .returned (.tuple #[]) ∧ IntRow w' bv (addToS F.ops xv a xu) ∧ Tch (fun k => k = bv) w w' := by
  have HG := Aside0.mk hG
  have HU := Aside0.mk hu
  have HV := Aside0.mk hv
  have HA := Aside0.mk ha
  have HXU := Aside0.mk hxu
  have HXV := Aside0.mk hxv
  have HL := Aside0.mk hl
  have HCL := Aside0.mk hcl
  have hlu : xu.length ≤ 9223372036854775807 := by omega
  have HR0 : Aside0 (AddIn F a xu xv bv w (.int .i64 0) w) := ⟨0, rfl, Nat.zero_le _, by
    have e : (tab xv.length fun j => if j < 0 then (addToS F.ops xv a xu).getD j 0 else xv.getD j 0) = xv := by
      rw [tab_congr (h := fun j => xv.getD j 0) (fun p _ => if_neg (by omega))]; exact (tab_of xv).symm
    rw [e]; exact hv, Tch.refl _ _⟩
  clear hG hu hv ha hxu hxv hl hcl
  go_enter Try.func117, Try.ntmps117
  go_wp2
  go_loopw [12] (fun u wr => AddIn F a xu xv bv w u wr) (fun u _ => xu.length - (intOf u).toNat)
  case atStart => exact HR0.out
  case round =>
    clear HR0
    obtain ⟨i, rfl, hi, hR, hT⟩ := hrel
    have HR := Aside0.mk hR
    have HT := Aside0.mk hT
    clear hR hT
    by_cases hlt : i < xu.length
    · obtain ⟨ad, e, hx⟩ := rd_at (HU.out _ HT.out) (i : Int) (by omega) (by omega)
      rw [toNat_nat] at hx
      subst e
      have hlt2 : i < xv.length := by have := HL.out; omega
      by_cases hz : xu.getD i 0 = 0
      · have hz2 : (xu.getD i 0 != 0) = false := bne_eq_false_iff_eq.2 hz
        have HN : Aside0 (∀ n, AddIn F a xu xv bv w (.int .i64 ((i : Int) + 1)) (wr.drewN n)) := ⟨fun n => ⟨i + 1, by simp, hlt, by
          have h2 := HR.out.keep (w1 := wr.drewN n) rfl
          rw [tab_congr (h := fun j => if j < i + 1 then (addToS F.ops xv a xu).getD j 0 else xv.getD j 0)] at h2
          · exact h2
          · intro p hp
            by_cases e : p = i
            · subst e
              rw [if_neg (by omega), if_pos (by omega)]
              unfold addToS
              rw [tab_getD p 0 hlt2, if_pos hz]
            · exact ite_iff ⟨fun h => by omega, fun h => by omega⟩, HT.out.drewN n⟩⟩
        have HN0 : Aside0 (AddIn F a xu xv bv w (.int .i64 ((i : Int) + 1)) wr) := ⟨HN.out 0⟩
        clear hz
        generalize xu.getD i 0 = x at hx hz2
        go_wp2
        exact ⟨HN0.out, by simp [intOf]; omega⟩
      · have hz2 : (xu.getD i 0 != 0) = true := bne_iff_ne.2 hz
        have hEx : F.El (xu.getD i 0) := ElL_at HXU.out hlt
        have hEv : F.El (xv.getD i 0) := ElL_at HXV.out hlt2
        have HEX := Aside0.mk hEx
        have HEV := Aside0.mk hEv
        have HEM := Aside0.mk (HCL.out a (xu.getD i 0) HA.out hEx)
        have HGW := Aside0.mk (HG.out _ HT.out)
        have cv0 : wr.cell? ⟨bv, i, none⟩ = some (.int .i64 (xv.getD i 0)) := by
          have := HR.out.cell i (by simpa using hlt2)
          rwa [tab_getD i 0 hlt2, if_neg (by omega)] at this
        have cvf := HR.out.frozen i
        have HN : Aside0 (∀ n z, z = F.add (xv.getD i 0) (F.mul a (xu.getD i 0)) → AddIn F a xu xv bv w (.int .i64 ((i : Int) + 1)) ((wr.drewN n).setCell ⟨bv, i, none⟩ (.int .i64 z))) := ⟨fun n z ez => ⟨i + 1, by simp, hlt, by
          have h2 := (HR.out.keep (w1 := wr.drewN n) rfl).set i z (by simpa using hlt2)
          rw [tab_set _ _ hlt2, tab_congr (h := fun j => if j < i + 1 then (addToS F.ops xv a xu).getD j 0 else xv.getD j 0)] at h2
          · exact h2
          · intro p hp
            by_cases e : p = i
            · subst e
              rw [if_pos rfl, if_pos (by omega), ez]
              unfold addToS
              rw [tab_getD p 0 hlt2, if_neg hz]; rfl
            · rw [if_neg e]; exact ite_iff ⟨fun h => by omega, fun h => by omega⟩, (HT.out.drewN n).set (.inl rfl) _⟩⟩
        clear hEx hEv hz
        generalize xu.getD i 0 = x at *
        generalize xv.getD i 0 = v at *
        go_wp2
        go_region_with (first | (go_at_call 112; refine (gf_Mul _ F _ _ _ (HGW.out.drew _) hF HA.out HEX.out).mono ?_; rintro e w' ⟨rfl, n, rfl⟩) | (go_at_call 131; refine (gf_Add _ F _ _ _ (HGW.out.drew _) hF HEV.out HEM.out).mono ?_; rintro e w' ⟨rfl, n, rfl⟩))
        all_goals
          go_wp2
          exact ⟨HN.out _ _ (by simp), by simp [intOf]; omega⟩
    · have : i = xu.length := by omega
      have HE : Aside0 (IntRow wr bv (addToS F.ops xv a xu)) := ⟨by
        have h2 := HR.out
        have e : (tab xv.length fun j => if j < i then (addToS F.ops xv a xu).getD j 0 else xv.getD j 0) = addToS F.ops xv a xu := by
          have hll : (addToS F.ops xv a xu).length = xv.length := by unfold addToS; simp
          conv => rhs; rw [tab_of (addToS F.ops xv a xu), hll]
          exact tab_congr fun p hp => if_pos (by have := HL.out; omega)
        rwa [e] at h2⟩
      subst this
      go_wp2
      go_end0
      exact ⟨rfl, HE.out, HT.out⟩
end Go.Proofs.Ytekenifndicdeaa.P
namespace Go.Proofs.Ytekenifndicdeaa.P
open Go.RowKit Go.Proofs.YtekenifndicdeaaW.PrintWords Go.Proofs.YtekenifndicdeaaW.PrintLast Go.Proofs.YtekenifndicdeaaW.PrintMore Go.Proofs.Ytekenifndicdeaa.B
attribute [local go_sem] max2_int min2_int max_two min_two max_three min_three max_four min_four
set_option linter.unusedVariables false
set_option linter.unusedSimpArgs false
theorem below_of_grown {w w' : World} (hg : w.grownBy w' none) : Below w.heap.size w w' := (Below.refl _ _).grown hg (Nat.le_refl _) (by simp)
theorem mk_cells {w : World} {ops : Array Oper} {rest : List Oper} {o : Oper} {a : Act} {Q : Exit → Act → World → Prop} {t e : TypeId} {z : Value} {bytes : Nat} (hg : o.guard = none) (l : Operand) (hop : o.op = Op.makeSlice t l l) (hu : Try.prog.underlying t = some (.slice e))
    (hi : (Try.prog.info? e).map (fun i => (i.zero, i.size, i.bytes)) = some (some z, 1, bytes)) (hz : z.cells = #[z]) (n : Nat) (hl : a.eval l = .int .i64 (n : Int)) (hn : n ≤ 1000000) (hby : bytes ≤ 64)
    (hK : ∀ w', (∃ cs, w'.heap[w.heap.size]? = some (.cells cs e (0, 0)) ∧ cs.toList = List.replicate n z) → Below w.heap.size w w' → wpList Try.prog ops Q rest (a.put o.dst (.slice (some ⟨w.heap.size, 0, none⟩) n n)) w') :
    wpList Try.prog ops Q (o :: rest) a w := by
  obtain ⟨i, hi, hz0, hz1, hz2⟩ := info_parts hi
  refine wpList_make_full w hg l l t hop w.heap.size e i z 1 hu hi hz0 hz1 .i64 .i64 _ _ n hl hl rfl rfl (by rw [hz2]; have := Nat.mul_le_mul hby hn; omega) (by unfold maxLen; omega) (Nat.le_refl _) ?_
  intro w' hown hgr
  refine hK w' ?_ (below_of_grown hgr)
  obtain ⟨h1, h2⟩ := hown
  rcases h2 with ⟨e, _⟩ | ⟨g, cap, cur, e, hb, hh, hc, hm, hs, ht⟩
  · cases e
  · injection e with e1 e2 e3
    injection e1 with e1
    injection e1 with e1
    subst e1
    subst e3
    refine ⟨cur, hh, ?_⟩
    rw [hz, toList_madeCells_one, Nat.mul_one, List.take_of_length_le (by simp; omega)] at ht
    exact ht
theorem mk_ints {w : World} {ops : Array Oper} {rest : List Oper} {o : Oper} {a : Act} {Q : Exit → Act → World → Prop} (hg : o.guard = none) (l : Operand) (hop : o.op = Op.makeSlice 23 l l) (n : Nat) (hl : a.eval l = .int .i64 (n : Int)) (hn : n ≤ 1000000)
    (hK : ∀ w', IntRow w' w.heap.size (List.replicate n 0) → Below w.heap.size w w' → wpList Try.prog ops Q rest (a.put o.dst (.slice (some ⟨w.heap.size, 0, none⟩) n n)) w') :
    wpList Try.prog ops Q (o :: rest) a w := by
  refine mk_cells hg l hop Try.underlying23 info3 rfl n hl hn (by omega) ?_
  rintro w' ⟨cs, h1, h2⟩ hb
  refine hK w' ⟨cs, h1, fun j hj => ?_⟩ hb
  rw [List.length_replicate] at hj
  rw [← Array.getElem?_toList, h2, List.getElem?_replicate, if_pos hj, List.getD_eq_getElem?_getD, List.getElem?_replicate, if_pos hj]; rfl
def ScaIn (F : Fr) (a : Int) (xu : List Int) (b : Nat) (w : World) (u : Value) (wr : World) : Prop :=
  ∃ i : Nat, u = .int .i64 i ∧ i ≤ xu.length ∧ IntRow wr b (tab xu.length fun j => if j < i then F.mul a (xu.getD j 0) else 0) ∧ Below w.heap.size w wr ∧ b < wr.heap.size
theorem gf_Scale (g : Nat) (F : Fr) (a : Int) (Au : Option Addr) (cu : Nat) (xu : List Int) (w : World) (hF : F.Ok) (hG : GFat w g F)
    (hu : Kd.C (Kd.int .i64) w Au xu.length xu) (hcu : xu.length ≤ cu) (hl2 : xu.length ≤ 1000000) (ha : F.El a) (hxu : ElL F.ops xu) :
    Calls Try.prog 115 #[.pointer (some ⟨g, 0, none⟩), .int .i64 a, .slice Au xu.length cu] w fun e w' => ∃ b, e = .returned (.slice (some ⟨b, 0, none⟩) xu.length xu.length) ∧ w.heap.size ≤ b ∧ IntRow w' b (scaleS F.ops a xu) ∧ Below w.heap.size w w' := by
  have HG := Aside0.mk hG
  have HU := Aside0.mk hu
  have HA := Aside0.mk ha
  have HXU := Aside0.mk hxu
  have HS : Aside0 (scaleS F.ops a xu = tab xu.length fun j => F.mul a (xu.getD j 0)) := ⟨map_tab _ _⟩
  clear hG hu ha hxu
  go_enter Try.func115, Try.ntmps115
  go_wp2_with ((with_reducible refine gate_dst (N := 12) rfl ?_); refine mk_ints rfl (.tmp 11) rfl xu.length rfl hl2 ?_; intro w1 hr1 hb1; have HR1 := Aside0.mk hr1; have HB1 := Aside0.mk hb1; clear hr1 hb1)
  have HR0 : Aside0 (ScaIn F a xu w.heap.size w (.int .i64 0) w1) := ⟨0, rfl, Nat.zero_le _, by
    have h := HR1.out
    rw [tab_rep] at h
    rw [tab_congr (h := fun _ => 0) (fun p _ => if_neg (by omega))]
    exact h, HB1.out, HR1.out.lt⟩
  clear HR1 HB1
  go_loopw [15] (fun u wr => ScaIn F a xu w.heap.size w u wr) (fun u _ => xu.length - (intOf u).toNat)
  case atStart => exact HR0.out
  case round =>
    clear HR0
    obtain ⟨i, rfl, hi, hR, hT, hbl⟩ := hrel
    have HR := Aside0.mk hR
    have HT := Aside0.mk hT
    clear hR hT
    by_cases hlt : i < xu.length
    · obtain ⟨ad, e, hx⟩ := rd_at (Kd.C_below HU.out HT.out) (i : Int) (by omega) (by omega)
      rw [toNat_nat] at hx
      subst e
      have HEX := Aside0.mk (ElL_at HXU.out hlt)
      have HGW := Aside0.mk (HG.out.below HT.out)
      have cv0 : wr.cell? ⟨w.heap.size, i, none⟩ = some (.int .i64 0) := by
        have := HR.out.cell i (by simpa using hlt)
        rwa [tab_getD i 0 hlt, if_neg (by omega)] at this
      have cvf := HR.out.frozen i
      have HN : Aside0 (∀ n z, z = F.mul a (xu.getD i 0) → ScaIn F a xu w.heap.size w (.int .i64 ((i : Int) + 1)) ((wr.drewN n).setCell ⟨w.heap.size, i, none⟩ (.int .i64 z))) := ⟨fun n z ez => ⟨i + 1, by simp, hlt, by
        have h2 := (HR.out.keep (w1 := wr.drewN n) rfl).set i z (by simpa using hlt)
        rw [tab_set _ _ hlt, tab_congr (h := fun j => if j < i + 1 then F.mul a (xu.getD j 0) else 0)] at h2
        · exact h2
        · intro p hp
          by_cases e : p = i
          · subst e
            rw [if_pos rfl, if_pos (by omega), ez]
          · rw [if_neg e]; exact ite_iff ⟨fun h => by omega, fun h => by omega⟩, (pw_below_drewN HT.out n).setCell (Nat.le_refl _) _, by simpa [World.setCell] using hbl⟩⟩
      generalize xu.getD i 0 = x at *
      go_wp2_with (go_at_call 112; refine (gf_Mul _ F _ _ _ HGW.out hF HA.out HEX.out).mono ?_; rintro e w' ⟨rfl, n, rfl⟩)
      exact ⟨HN.out _ _ rfl, by simp [intOf]; omega⟩
    · have HE : Aside0 (IntRow wr w.heap.size (scaleS F.ops a xu)) := ⟨by
        rw [HS.out]
        have h2 := HR.out
        rwa [tab_congr (h := fun j => F.mul a (xu.getD j 0)) (fun p hp => if_pos (by omega))] at h2⟩
      have : i = xu.length := by omega
      subst this
      go_wp2
      go_ret
      exact ⟨_, rfl, Nat.le_refl _, HE.out, HT.out⟩
end Go.Proofs.Ytekenifndicdeaa.P
