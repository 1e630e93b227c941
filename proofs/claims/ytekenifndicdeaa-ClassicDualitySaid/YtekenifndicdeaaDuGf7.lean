/- The walk of matrix.eliminate. -/
import Derived.Test.YtekenifndicdeaaDuGf6
import Derived.RegionTactic
import Derived.BigRegion
import Derived.Outline
import Derived.Deep.LoopGhost
import Derived.Deep.CutBlock
import Derived.Deep.DeepCutAuto
namespace Go.Proofs.Ytekenifndicdeaa.P
open Go.RowKit Go.Proofs.YtekenifndicdeaaW.PrintWords Go.Proofs.YtekenifndicdeaaW.PrintLast Go.Proofs.YtekenifndicdeaaW.PrintMore Go.Proofs.Ytekenifndicdeaa.B
attribute [local go_sem] max2_int min2_int max_two min_two max_three min_three max_four min_four
set_option linter.unusedVariables false
set_option linter.unusedSimpArgs false
/-- The loop over the columns. -/
def ERel (g b4 b5 b7 bl cl m n cols : Nat) (F : Fr) (w0 : World) (T : List (List Int) × List Int) (q : Nat) (d vP c : Value) (wr : World) : Prop :=
  ∃ (D : Int) (k : Nat) (rs : Nat → Nat) (l : List (List Int)) (pv : List Int), d = .int .i64 D ∧ F.El D ∧ c = .int .i64 (k : Int) ∧ k + q = cols ∧ pv.length ≤ m ∧ elimGo F.ops q k pv.length l pv = T ∧ ESt g b4 b5 b7 bl cl m n F w0 wr rs l vP pv []
def EPost (bl m : Nat) (F : Fr) (w0 : World) (T : List (List Int) × List Int) (vP : Value) (w' : World) : Prop := ∃ rs', Below w0.heap.size w0 w' ∧ MX w' bl rs' T.1 ∧ (∀ j, j < m → w0.heap.size ≤ rs' j) ∧ Kd.R (Kd.int .i64) 3 w' w0.heap.size (fun _ => True) vP T.2
/-- The search for a row. -/
def KAt (a k b14 b15 : Nat) (wr wx : World) : Prop := BoxI wx b14 a ∧ BoxI wx b15 k ∧ Below wr.heap.size wr wx ∧ b14 ≠ b15 ∧ wr.heap.size ≤ b14 ∧ wr.heap.size ≤ b15
def KRel (l : List (List Int)) (a c m b14 b15 : Nat) (wr : World) (p : Nat) (wx : World) : Prop :=
  ∃ k, k + p = m ∧ a ≤ k ∧ findP l c p k = findP l c (m - a) a ∧ KAt a k b14 b15 wr wx
/-- The rows below i are cleared. -/
def clr (F : Fr) (l : List (List Int)) (a c i : Nat) : List (List Int) := tab l.length fun j => if j < i then (clearS F.ops l a c).getD j [] else l.getD j []
theorem rows_tab (l : List (List Int)) : tab l.length (fun j => l.getD j []) = l := by
  refine (tab_ext rfl fun p hp => ?_).symm
  rw [List.getD_eq_getElem?_getD, List.getElem?_eq_getElem hp]; rfl
theorem clr_zero (F : Fr) (l : List (List Int)) (a c : Nat) : clr F l a c 0 = l := by
  unfold clr
  rw [tab_congr (h := fun j => l.getD j []) (fun p _ => if_neg (by omega))]
  exact rows_tab l
theorem clearS_len (F : Fr) (l : List (List Int)) (a c : Nat) : (clearS F.ops l a c).length = l.length := by unfold clearS; simp
theorem clr_all (F : Fr) (l : List (List Int)) (a c : Nat) : clr F l a c l.length = clearS F.ops l a c := by
  unfold clr
  rw [tab_congr (h := fun j => (clearS F.ops l a c).getD j []) (fun p hp => if_pos hp), ← clearS_len F l a c]
  exact rows_tab _
theorem clr_at (F : Fr) (l : List (List Int)) (a c : Nat) {i : Nat} (hi : i < l.length) : (clr F l a c i).getD i [] = l.getD i [] := by
  unfold clr
  rw [tab_getD i [] hi, if_neg (by omega)]
theorem clr_piv (F : Fr) (l : List (List Int)) (a c i : Nat) (ha : a < l.length) : (clr F l a c i).getD a [] = l.getD a [] := by
  unfold clr
  rw [tab_getD a [] ha]
  split
  · unfold clearS
    rw [tab_getD a [] ha, if_pos (.inl rfl)]
  · rfl
theorem clr_next (F : Fr) (l : List (List Int)) (a c : Nat) {i : Nat} (hi : i < l.length) : clr F l a c (i + 1) = if i = a ∨ ent l i c = 0 then clr F l a c i else (clr F l a c i).set i (addToS F.ops (l.getD i []) (F.neg (ent l i c)) (l.getD a [])) := by
  have hg : (clearS F.ops l a c).getD i [] = if i = a ∨ ent l i c = 0 then l.getD i [] else addToS F.ops (l.getD i []) (F.neg (ent l i c)) (l.getD a []) := by
    unfold clearS
    rw [tab_getD i [] hi]; rfl
  by_cases h : i = a ∨ ent l i c = 0
  · rw [if_pos h]
    unfold clr
    refine tab_congr fun p hp => ?_
    by_cases e : p = i
    · subst e
      rw [if_pos (by omega), if_neg (by omega), hg, if_pos h]
    · exact ite_iff ⟨fun h => by omega, fun h => by omega⟩
  · rw [if_neg h]
    unfold clr
    rw [tab_set _ _ hi]
    refine tab_congr fun p hp => ?_
    by_cases e : p = i
    · subst e
      rw [if_pos (by omega), if_pos rfl, hg, if_neg h]
    · rw [if_neg e]
      exact ite_iff ⟨fun h => by omega, fun h => by omega⟩
def CRel (g b4 b5 b7 bl cl m n : Nat) (F : Fr) (w0 : World) (vP : Value) (pv : List Int) (l : List (List Int)) (a b14 c : Nat) (p : Nat) (u : Value) (wr : World) : Prop :=
  ∃ (i : Nat) (rs : Nat → Nat), u = .int .i64 (i : Int) ∧ i + p = m ∧ ESt g b4 b5 b7 bl cl m n F w0 wr rs (clr F l a c i) vP pv [(b14, (a : Int))]
set_option maxRecDepth 100000 in
set_option maxHeartbeats 4000000 in
theorem eliminate_calls (g bl cl m n cols : Nat) (F : Fr) (rs : Nat → Nat) (l : List (List Int)) (w0 w : World) (hF : F.Ok) (hK : Fld F.ops) (hG : GFat w0 g F) (hB : Below w0.heap.size w0 w) (hM : MX w bl rs l) (hmat : Mat F.ops n l) (hlen : l.length = m)
    (hlo : ∀ j, j < m → w0.heap.size ≤ rs j) (hblo : w0.heap.size ≤ bl) (hcols : cols ≤ n) (hm : m ≤ 1000000) (hn : n ≤ 1000000) (hcl : m ≤ cl) :
    Calls Try.prog 86 #[.pointer (some ⟨g, 0, none⟩), .slice (some ⟨bl, 0, none⟩) m cl, .int .i64 (cols : Int), .slice none 0 0] w fun e w' => ∃ vP det, e = .returned (.tuple #[vP, .int .i64 det]) ∧ EPost bl m F w0 (elimS F.ops l cols) vP w' := by
  obtain ⟨T, hT0⟩ : ∃ T, T = elimS F.ops l cols := ⟨_, rfl⟩
  rw [← hT0]
  have HK := Aside0.mk hK
  have HG := Aside0.mk hG
  have hrel0 : ERel g w.heap.size (w.heap.size + 1) (w.heap.size + 1 + 1) bl cl m n cols F w0 T cols (.int .i64 1) (.slice none 0 0) (.int .i64 0) (((w.alloc (.cells #[.pointer (some ⟨g, 0, none⟩)] 80)).alloc (.cells #[.slice (some ⟨bl, 0, none⟩) m cl] 26)).alloc (.cells #[.slice none 0 0] 26)) := by
    have b1 := below_alloc (below_alloc (below_alloc (Below.refl w.heap.size w) (.cells #[.pointer (some ⟨g, 0, none⟩)] 80)) (.cells #[.slice (some ⟨bl, 0, none⟩) m cl] 26)) (.cells #[.slice none 0 0] 26)
    refine ⟨1, 0, rs, l, [], rfl, hK.one, rfl, by omega, by simp, hT0.symm, {
      base := hB.trans (b1.mono hB.size), mx := hM.below b1, mat := hmat, len := hlen, lo := hlo, blo := hblo
      bg := blk_alloc (blk_alloc (blk_new w _) _) _
      br := ?_, bs := ?_, piv := Kd.R_nil _ _ _ _ _, box := fun e he => by cases he }⟩
    · have := blk_alloc (blk_new (w.alloc (.cells #[.pointer (some ⟨g, 0, none⟩)] 80)) (.cells #[.slice (some ⟨bl, 0, none⟩) m cl] 26)) (.cells #[.slice none 0 0] 26)
      simpa [BoxS] using this
    · have := blk_new ((w.alloc (.cells #[.pointer (some ⟨g, 0, none⟩)] 80)).alloc (.cells #[.slice (some ⟨bl, 0, none⟩) m cl] 26)) (.cells #[.slice none 0 0] 26)
      simpa [BoxS] using this
  have HREL := Aside0.mk hrel0
  clear hT0 hrel0 hK hG hB hM hmat hlo hblo hlen
  go_enter Try.func86, Try.ntmps86
  go_wp2
  generalize w.heap.size + 1 + 1 = b7 at HREL ⊢
  generalize w.heap.size + 1 = b5 at HREL ⊢
  generalize w.heap.size = b4 at HREL ⊢
  go_loopg [10, 12, 13] cols (fun q d vP c wr => ERel g b4 b5 b7 bl cl m n cols F w0 T q d vP c wr)
  case atStart => exact HREL.out
  case round =>
    clear HREL
    obtain ⟨wo, rfl⟩ : ∃ wo : World, wo = wr := ⟨_, rfl⟩
    obtain ⟨D, c, rs, l, pv, rfl, hD, rfl, hq, hpv, hT, hE⟩ := hrel
    obtain ⟨AP, cP, eP⟩ := Kd.R_slice hE.piv
    subst eP
    have xr : wo.cell? ⟨b5, 0, none⟩ = some (.slice (some ⟨bl, 0, none⟩) m cl) := (blk_cell hE.br 0).trans rfl
    by_cases hgo : c < cols ∧ pv.length < m
    · obtain ⟨hlt, hpm⟩ := hgo
      obtain ⟨q, rfl⟩ : ∃ q, gk = q + 1 := ⟨gk - 1, by omega⟩
      unfold elimGo at hT
      rw [if_pos (by rw [hE.len]; omega), hE.len] at hT
      have HE := Aside0.mk hE
      have HT := Aside0.mk hT
      have HD := Aside0.mk hD
      obtain ⟨a, ea⟩ : ∃ a, a = pv.length := ⟨_, rfl⟩
      have HPA := Aside0.mk ea
      rw [← ea] at HT hpm hpv
      have hAP : (Value.slice AP pv.length cP) = .slice AP a cP := by rw [ea]
      rw [hAP] at HE ⊢
      clear hE hT hD ea hAP
      have HL0 : Aside0 (KRel l a c m wo.heap.size (wo.heap.size + 1) wo (m - a) ((wo.alloc (.cells #[.int .i64 (a : Int)] 3)).alloc (.cells #[.int .i64 (a : Int)] 3))) := ⟨by
        refine ⟨a, by omega, Nat.le_refl _, rfl, blk_alloc (blk_new wo _) _, ?_, below_alloc (below_alloc (Below.refl _ _) _) _, by omega, Nat.le_refl _, by omega⟩
        have := blk_new (wo.alloc (.cells #[.int .i64 (a : Int)] 3)) (.cells #[.int .i64 (a : Int)] 3)
        simpa [BoxI] using this⟩
      go_upto_block 2 with (fail)
      generalize wo.heap.size + 1 = b15 at HL0 ⊢
      generalize wo.heap.size = b14 at HL0 ⊢
      go_cut [] (fun wc => KAt a (findP l c (m - a) a) b14 b15 wo wc)
      case first =>
        go_wp2_with fail
        go_loopg [] (m - a) (fun p wx => KRel l a c m b14 b15 wo p wx)
        case atStart => exact HL0.out
        case round =>
          clear HL0
          obtain ⟨k, hkp, hak, hf, h14, h15, hbel, hne, hg14, hg15⟩ := hrel
          have hEx := HE.out.below hbel
          have x5 : wr.cell? ⟨b5, 0, none⟩ = some (.slice (some ⟨bl, 0, none⟩) m cl) := (blk_cell hEx.br 0).trans rfl
          have x15 : wr.cell? ⟨b15, 0, none⟩ = some (.int .i64 (k : Int)) := (blk_cell h15 0).trans rfl
          have z15 := blk_frozen h15 0
          by_cases hk : k < m
          · obtain ⟨p, rfl⟩ : ∃ p, gk = p + 1 := ⟨gk - 1, by omega⟩
            obtain ⟨ck, ek, hck⟩ := hEx.mx.cell k (by rw [hEx.len]; exact hk)
            have hrow := hEx.mx.row k (by rw [hEx.len]; exact hk)
            have hl := (Mat_get hEx.mat k (by rw [hEx.len]; exact hk)).1
            have ec := hrow.cell c (by rw [hl]; omega)
            rw [hl] at ek
            have k0 : (0 : Int) ≤ (k : Int) := by omega
            have k1 : (k : Int) < (m : Int) := by omega
            have c0 : (0 : Int) ≤ (c : Int) := by omega
            have c1 : (c : Int) < (n : Int) := by omega
            by_cases hz : ent l k c = 0
            · have HN : Aside0 (KRel l a c m b14 b15 wo p (wr.setCell ⟨b15, 0, none⟩ (.int .i64 ((k : Int) + 1)))) := ⟨k + 1, by omega, by omega, by rw [← hf]; conv => rhs; unfold findP; rw [if_pos hz], (blk_far h14 hne _), by have := blk_set h15 0 (.int .i64 ((k : Int) + 1)); simpa [BoxI] using this, hbel.setCell hg15 _, hne, hg14, hg15⟩
              have hz2 : ((l.getD k []).getD c 0 == 0) = true := beq_iff_eq.mpr hz
              clear hEx hrow hl hf h14 h15 hbel hck hz
              generalize (l.getD k []).getD c 0 = x at ec hz2
              go_wp2
              go_roundg p
              case measure => omega
              case rel => exact HN.out
            · have HN : Aside0 (KAt a (findP l c (m - a) a) b14 b15 wo wr) := ⟨by rw [← hf]; unfold findP; rw [if_neg hz]; exact ⟨h14, h15, hbel, hne, hg14, hg15⟩⟩
              have hz2 : ((l.getD k []).getD c 0 == 0) = false := beq_eq_false_iff_ne.mpr hz
              clear hEx hrow hl hf h14 h15 hbel hck hz
              generalize (l.getD k []).getD c 0 = x at ec hz2
              go_wp2
              go_meet
              case rel => exact HN.out
          · have hp0 : gk = 0 := by omega
            subst hp0
            have HN : Aside0 (KAt a (findP l c (m - a) a) b14 b15 wo wr) := ⟨by rw [← hf]; exact ⟨h14, h15, hbel, hne, hg14, hg15⟩⟩
            clear hEx hf h14 h15 hbel
            go_wp2
            go_meet
            case rel => exact HN.out
      case rest =>
        clear HL0
        obtain ⟨h14, h15, hbel, hne, hg14, hg15⟩ := hcut
        have hfl := findP_le l c (m - a) a
        have hfn := findP_ne l c (m - a) a
        generalize findP l c (m - a) a = kk at HT h15 hfl hfn
        have hE1 := HE.out.newboxes (bx' := [(b14, (a : Int)), (b15, (kk : Int))]) hbel (fun e he => by
          rcases List.mem_cons.1 he with rfl | he
          · exact ⟨hg14, h14⟩
          · rcases List.mem_cons.1 he with rfl | he
            · exact ⟨hg15, h15⟩
            · cases he)
        clear HE xr
        rw [List.append_nil] at hE1
        have x5 : wc.cell? ⟨b5, 0, none⟩ = some (.slice (some ⟨bl, 0, none⟩) m cl) := (blk_cell hE1.br 0).trans rfl
        have x15 : wc.cell? ⟨b15, 0, none⟩ = some (.int .i64 (kk : Int)) := (blk_cell h15 0).trans rfl
        have x14 : wc.cell? ⟨b14, 0, none⟩ = some (.int .i64 (a : Int)) := (blk_cell h14 0).trans rfl
        by_cases hkm : kk = m
        · have HT2 := HT.out
          rw [if_pos hkm] at HT2
          have HR : Aside0 (ERel g b4 b5 b7 bl cl m n cols F w0 T q (.int .i64 D) (.slice AP a cP) (.int .i64 ((c : Int) + 1)) wc) := ⟨D, c + 1, rs, l, pv, rfl, HD.out, by simp, by omega, by rw [← HPA.out]; exact hpv, by rw [← HPA.out]; exact HT2, hE1.fewer (fun e he => by cases he)⟩
          clear HT2 hE1 h14 h15 hbel hfl hfn
          go_wp2
          go_roundg q
          case measure => omega
          case rel => exact HR.out
        · have hk : kk < m := by omega
          have hz : ent l kk c ≠ 0 := hfn (by omega)
          have hT2 := HT.out
          rw [if_neg hkm] at hT2
          have HT2 := Aside0.mk hT2
          have HE1 := Aside0.mk hE1
          have HZ := Aside0.mk hz
          have ha : a < m := by omega
          clear HT hT2 hfl hfn hz hbel hne hg14 hg15
          have HB14 := Aside0.mk h14
          have HB15 := Aside0.mk h15
          clear h14 h15 hE1
          have hkm2 : ¬ m = kk := fun e => hkm e.symm
          go_upto_if 58 with (fail)
          go_cut [10] (fun d wd => ∃ (D' : Int) (rs' : Nat → Nat), d = .int .i64 D' ∧ F.El D' ∧ ESt g b4 b5 b7 bl cl m n F w0 wd rs' (swapS l a kk) (.slice AP a cP) pv [(b14, (a : Int))])
          case first =>
            by_cases hka : kk = a
            · have HN : Aside0 (ESt g b4 b5 b7 bl cl m n F w0 wc rs (swapS l a kk) (.slice AP a cP) pv [(b14, (a : Int))]) := ⟨by
                rw [hka, swap_self (by rw [HE1.out.len]; exact ha)]
                exact HE1.out.fewer (fun e he => by rcases List.mem_cons.1 he with rfl | he; simp; cases he)⟩
              have hkb : ((kk : Int) != (a : Int)) = false := by rw [hka]; simp
              subst hka
              go_wp2
              go_meet
              case rel => exact ⟨D, rs, rfl, HD.out, HN.out⟩
            · have hkb : ((kk : Int) != (a : Int)) = true := bne_iff_ne.mpr (by omega)
              have hc := sw_calls bl rs l cl a kk b14 b15 wc HE1.out.mx (by rw [HE1.out.len]; exact ha) (by rw [HE1.out.len]; exact hk) (fun e => hka e.symm) (by rw [HE1.out.len]; exact hcl) HB14.out HB15.out
              rw [HE1.out.len] at hc
              have HC := Aside0.mk (each_sw b5 b7 _ b15 b14 (SwPost bl rs l a kk wc) wc HE1.out.br HE1.out.bs hc (fun W hW => hW.2.at HE1.out.bs (blk_tne HE1.out.bs HE1.out.mx.hd.choose_spec.1 (by decide))))
              clear hc
              go_wp2_with (first | (go_at_call 110; refine HC.out.mono ?_; rintro e w2 ⟨rfl, hs⟩; have hE2 := HE1.out.swap ha hk hs; have x4 : w2.cell? ⟨b4, 0, none⟩ = some (.pointer (some ⟨g, 0, none⟩)) := (blk_cell hE2.bg 0).trans rfl; have HE2 := Aside0.mk (hE2.fewer (bx' := [(b14, (a : Int))]) (fun e he => by rcases List.mem_cons.1 he with rfl | he; simp; cases he)); clear hs hE2) | (go_at_call 61; refine (gf_Neg _ F _ _ (HG.out.below HE2.out.base) hF HD.out).mono ?_; rintro e w3 ⟨rfl, n3, rfl⟩))
              go_meet
              case rel => exact ⟨_, _, rfl, HK.out.negE _ HD.out, HE2.out.drew _⟩
          case rest =>
            obtain ⟨D2, rs2, rfl, hD2, hE2⟩ := hcut
            clear x5 x14 x15
            have hz2 : ent (swapS l a kk) a c ≠ 0 := by rw [swap_ent a kk c (by rw [HE1.out.len]; exact ha) (by rw [HE1.out.len]; exact hk)]; exact HZ.out
            clear HZ HE1 HB14 HB15 HD
            generalize swapS l a kk = l2 at HT2 hE2 hz2
            have hM2 := Mat_get hE2.mat a (by rw [hE2.len]; exact ha)
            have HE2 := Aside0.mk hE2
            have x4 : wc.cell? ⟨b4, 0, none⟩ = some (.pointer (some ⟨g, 0, none⟩)) := (blk_cell hE2.bg 0).trans rfl
            have x5 : wc.cell? ⟨b5, 0, none⟩ = some (.slice (some ⟨bl, 0, none⟩) m cl) := (blk_cell hE2.br 0).trans rfl
            have x14 : wc.cell? ⟨b14, 0, none⟩ = some (.int .i64 (a : Int)) := (blk_cell (hE2.box (b14, (a : Int)) (by simp)).1 0).trans rfl
            obtain ⟨ca, ea, hca⟩ := hE2.mx.cell a (by rw [hE2.len]; exact ha)
            have ec := (hE2.mx.row a (by rw [hE2.len]; exact ha)).cell c (by rw [hM2.1]; omega)
            have hx := ElL_at hM2.2 (i := c) (by rw [hM2.1]; omega)
            rw [hM2.1] at ea
            have HZ2 := Aside0.mk hz2
            have HX0 : Aside0 (ent l2 a c = (l2.getD a []).getD c 0) := ⟨rfl⟩
            obtain ⟨x, ex⟩ : ∃ x, x = (l2.getD a []).getD c 0 := ⟨_, rfl⟩
            rw [← ex] at ec hx HX0
            have HX := Aside0.mk hx
            have HD2 := Aside0.mk hD2
            have a0 : (0 : Int) ≤ (a : Int) := by omega
            have a1 : (a : Int) < (m : Int) := by omega
            have c0 : (0 : Int) ≤ (c : Int) := by omega
            have c1 : (c : Int) < (n : Int) := by omega
            have HGW := Aside0.mk (HG.out.below hE2.base)
            clear hE2 hM2 hx hz2 ex hD2 hca
            go_wp2_with fail
            go_quiet ((go_at_call 112; exact Calls.quiet_of (gf_Mul _ F _ _ _ (HGW.out.drew _) hF HD2.out HX.out)))
            have HD3 := Aside0.mk (HK.out.mulE _ _ HD2.out HX.out)
            have HD3 : Aside0 (F.El (F.mul D2 x)) := HD3
            go_wp2_with fail
            have HEQ := Aside0.mk (HE2.out.drew nq)
            have HGQ := Aside0.mk (HGW.out.drew nq)
            have y4 : (wc.drewN nq).cell? ⟨b4, 0, none⟩ = some (.pointer (some ⟨g, 0, none⟩)) := x4
            have y5 : (wc.drewN nq).cell? ⟨b5, 0, none⟩ = some (.slice (some ⟨bl, 0, none⟩) m cl) := x5
            have y14 : (wc.drewN nq).cell? ⟨b14, 0, none⟩ = some (.int .i64 (a : Int)) := x14
            have ya : (wc.drewN nq).cell? ⟨bl, a, none⟩ = some (.slice (some ⟨rs2 a, 0, none⟩) n ca) := ea
            have yc : (wc.drewN nq).cell? ⟨rs2 a, c, none⟩ = some (.int .i64 x) := ec
            clear x4 x5 x14 ea ec HE2 HGW
            generalize wc.drewN nq = w3 at *
            have hx0 : x ≠ 0 := by rw [← HX0.out]; exact HZ2.out
            have HX1 := Aside0.mk hx0
            clear hx0
            go_cut [16, 17] (fun v16 v17 wd => ∃ b16, v16 = .pointer (some ⟨b16, 0, none⟩) ∧ v17 = .int .i64 0 ∧ BoxI wd b16 (F.inv x) ∧ Below w3.heap.size w3 wd ∧ w3.heap.size ≤ b16)
            case first =>
              refine rs_ 15 (fun W => W.cell? ⟨b4, 0, none⟩ = some (.pointer (some ⟨g, 0, none⟩)) ∧ W.cell? ⟨b5, 0, none⟩ = some (.slice (some ⟨bl, 0, none⟩) m cl) ∧ W.cell? ⟨b14, 0, none⟩ = some (.int .i64 (a : Int)) ∧ W.cell? ⟨bl, a, none⟩ = some (.slice (some ⟨rs2 a, 0, none⟩) n ca) ∧ W.cell? ⟨rs2 a, c, none⟩ = some (.int .i64 x)) [13, 14] ⟨y4, y5, y14, ya, yc⟩ (fun hHeld => ?_)
              refine rt_ 0 76 ?_
              refine rt_ 1 77 ?_
              refine rt_ 2 78 ?_
              refine rp_ 3 79 ?_
              refine rt_ 4 80 ?_
              refine rp_ 5 81 ?_
              refine rp_ 6 82 ?_
              refine rt_ 7 83 ?_
              refine r2_ 8 84 12 16 Try.func113 ?_ ?_
              · refine (gf_Inv _ F _ _ (HGQ.out.drew 1) hF HX.out HX1.out).mono ?_
                rintro e w4 ⟨rfl, n4, rfl⟩
                refine ⟨_, rfl, ⟨y4, y5, y14, ya, yc⟩, fun hHeld => ?_⟩
                refine rn_ ?_
                refine rp_ 9 75 ?_
                refine rp_ 10 85 ?_
                refine rp_ 11 86 ?_
                have hal := fun (W : World) => below_alloc (Below.refl W.heap.size W) (.cells #[.int .i64 0] 3)
                refine rv_ 12 16 ⟨⟨cell_below (hal _) hHeld.1, cell_below (hal _) hHeld.2.1, cell_below (hal _) hHeld.2.2.1, cell_below (hal _) hHeld.2.2.2.1, cell_below (hal _) hHeld.2.2.2.2⟩, fun hHeld => ?_⟩
                clear hal
                refine rn_ ?_
                have q1 : ((w3.drewN (1 + n4)).alloc (.cells #[.int .i64 0] 3)).cell? ⟨w3.heap.size, 0, none⟩ = some (.int .i64 0) := (blk_cell (blk_new (w3.drewN (1 + n4)) _) 0).trans rfl
                have q2 : ((w3.drewN (1 + n4)).alloc (.cells #[.int .i64 0] 3)).frozen? ⟨w3.heap.size, 0, none⟩ = false := blk_frozen (blk_new (w3.drewN (1 + n4)) _) 0
                refine rl_ 13 ?_
                refine rp_ 14 17 ?_
                refine rd2_ ?_
                go_wp2_with fail
                go_meet
                case rel => exact ⟨_, rfl, rfl, by have := blk_set (blk_new (w3.drewN (1 + n4)) (.cells #[.int .i64 0] 3)) 0 (.int .i64 (F.inv x)); simpa [BoxI] using this, (below_alloc (pw_below_drewN (Below.refl _ _) _) _).setCell (Nat.le_refl _) _, Nat.le_refl _⟩
              · have hal := fun (W : World) => below_alloc (Below.refl W.heap.size W) (.cells #[.int .i64 0] 3)
                refine ⟨⟨cell_below (hal _) y4, cell_below (hal _) y5, cell_below (hal _) y14, cell_below (hal _) ya, cell_below (hal _) yc⟩, fun hHeld => ?_⟩
                refine rn_ ?_
                refine rc2_ 8 84 Try.func113 ?_
                refine (gf_Inv _ F _ _ (HGQ.out.below (((Below.refl w3.heap.size w3).alloc (Nat.le_refl _) (.cells #[.int .i64 0] 3)).drew)) hF HX.out HX1.out).mono ?_
                rintro e w4 ⟨rfl, n4, rfl⟩
                refine ⟨_, rfl, hHeld, fun hHeld => ?_⟩
                refine rn_ ?_
                refine rp_ 9 75 ?_
                refine rp_ 10 85 ?_
                refine rp_ 11 86 ?_
                clear hal
                refine rl_ 13 ?_
                refine rp_ 14 17 ?_
                refine rd2_ ?_
                go_wp2_with fail
                go_meet
                case rel => exact ⟨_, rfl, rfl, by have := blk_set (blk_drewN (blk_new w3 (.cells #[.int .i64 0] 3)) (1 + n4)) 0 (.int .i64 (F.inv x)); simpa [BoxI] using this, (pw_below_drewN (below_alloc (Below.refl _ _) _) _).setCell (Nat.le_refl _) _, Nat.le_refl _⟩
            case rest =>
              obtain ⟨b16, rfl, rfl, hb16, hbel3, hle3⟩ := hcut
              have hE3 := HEQ.out.newboxes (bx' := [(b16, F.inv x)]) hbel3 (fun e he => by
                rcases List.mem_cons.1 he with rfl | he
                · exact ⟨hle3, hb16⟩
                · cases he)
              have HE3 := Aside0.mk hE3
              have x16 : wc.cell? ⟨b16, 0, none⟩ = some (.int .i64 (F.inv x)) := (blk_cell hb16 0).trans rfl
              have HB16 := Aside0.mk hb16
              have hix := HK.out.invE _ HX.out HX1.out
              have h1x : F.inv x = 1 ↔ x = 1 := by
                have e1 := HK.out.mulI x HX.out HX1.out
                constructor
                · intro e
                  have e2 : F.ops.inv x = 1 := e
                  rw [e2, HK.out.mul1 _ HX.out] at e1
                  exact e1
                · intro e
                  have e2 := HK.out.mul1 _ hix
                  rw [e] at e1 e2 ⊢
                  have e3 := HK.out.mulC _ _ HK.out.one (by rw [← e]; exact hix : F.ops.El (F.ops.inv 1))
                  rw [e2] at e3
                  exact e3.trans e1
              have H1X := Aside0.mk h1x
              have HIX := Aside0.mk hix
              clear hE3 hb16 hbel3 hle3 hix h1x y4 y5 y14 ya yc HEQ HGQ
              go_upto_if 92 with (fail)
              go_cut [] (fun wd => ∃ rs3, ESt g b4 b5 b7 bl cl m n F w0 wd rs3 (pivS F.ops l2 a c) (.slice AP a cP) pv [(b14, (a : Int))])
              case first =>
                by_cases h1 : F.inv x = 1
                · have hkb : (F.inv x != 1) = false := by rw [h1]; rfl
                  have HN : Aside0 (ESt g b4 b5 b7 bl cl m n F w0 wc rs2 (pivS F.ops l2 a c) (.slice AP a cP) pv [(b14, (a : Int))]) := ⟨by
                    have e : pivS F.ops l2 a c = l2 := by unfold pivS; rw [if_pos (by rw [HX0.out]; exact H1X.out.1 h1)]
                    rw [e]
                    exact HE3.out.fewer (fun e he => by rcases List.mem_cons.1 he with rfl | he; simp; cases he)⟩
                  clear h1
                  go_wp2
                  go_meet
                  case rel => exact ⟨_, HN.out⟩
                · have hkb : (F.inv x != 1) = true := bne_iff_ne.mpr h1
                  have hMa := Mat_get HE3.out.mat a (by rw [HE3.out.len]; exact ha)
                  have hb14 := (HE3.out.box (b14, (a : Int)) (by simp)).1
                  have hc := sc_calls g F bl rs2 l2 cl a b14 b16 b4 (F.inv x) wc hF (HG.out.below HE3.out.base) HE3.out.mx (by rw [HE3.out.len]; exact ha) (by rw [HE3.out.len]; exact hcl) hb14 HB16.out HE3.out.bg HIX.out hMa.2 (by rw [hMa.1]; omega)
                  rw [HE3.out.len] at hc
                  have HC := Aside0.mk (each_sc b5 b7 _ b4 b16 b14 (ScPost F bl rs2 l2 a (F.inv x) wc) wc HE3.out.br HE3.out.bs hc (fun W hW => by
                    obtain ⟨nb, _, _, hT⟩ := hW
                    exact hT.at HE3.out.bs (blk_tne HE3.out.bs HE3.out.mx.hd.choose_spec.1 (by decide))))
                  have hPV : pivS F.ops l2 a c = l2.set a (scaleS F.ops (F.inv x) (l2.getD a [])) := by
                    unfold pivS
                    rw [if_neg (by rw [HX0.out]; exact fun e => h1 (H1X.out.2 e)), HX0.out]; rfl
                  have HPV := Aside0.mk hPV
                  have HMS := Aside0.mk (Mat_set HE3.out.mat a _ (scale_row HK.out HIX.out hMa))
                  clear hc hPV hMa hb14 h1
                  go_wp2_with (go_at_call 110; refine HC.out.mono ?_; rintro e w5 ⟨rfl, hs⟩; obtain ⟨rs5, hE5⟩ := HE3.out.scale ha HMS.out hs; have HE5 := Aside0.mk hE5; clear hs hE5)
                  go_meet
                  case rel => exact ⟨rs5, by rw [HPV.out]; exact HE5.out.fewer (fun e he => by rcases List.mem_cons.1 he with rfl | he; simp; cases he)⟩
              case rest =>
                obtain ⟨rs3, hE3⟩ := hcut
                clear HZ2 HX0 HX1 HB16 H1X HIX x16 HE3
                generalize pivS F.ops l2 a c = l3 at HT2 hE3
                have x5 : wc.cell? ⟨b5, 0, none⟩ = some (.slice (some ⟨bl, 0, none⟩) m cl) := (blk_cell hE3.br 0).trans rfl
                have hll := hE3.len
                have HM3 := Aside0.mk hE3.mat
                have HL0 : Aside0 (CRel g b4 b5 b7 bl cl m n F w0 (.slice AP a cP) pv l3 a b14 c m (.int .i64 0) wc) := ⟨0, rs3, rfl, by omega, by
                  have e : clr F l3 a c 0 = l3 := clr_zero F l3 a c
                  rw [e]; exact hE3⟩
                have HLL := Aside0.mk hll
                clear hE3 hll
                go_wp2_with fail
                go_loopg [98] m (fun p u wr => CRel g b4 b5 b7 bl cl m n F w0 (.slice AP a cP) pv l3 a b14 c p u wr)
                case atStart => exact HL0.out
                case round =>
                  clear HL0 x5
                  obtain ⟨i, rs4, rfl, hip, hE4⟩ := hrel
                  by_cases him : i < m
                  · obtain ⟨p, rfl⟩ : ∃ p, gk = p + 1 := ⟨gk - 1, by omega⟩
                    have hri : (clr F l3 a c i).getD i [] = l3.getD i [] := clr_at F l3 a c (by rw [HLL.out]; exact him)
                    have hra : (clr F l3 a c i).getD a [] = l3.getD a [] := clr_piv F l3 a c i (by rw [HLL.out]; exact ha)
                    have hn1 := clr_next F l3 a c (i := i) (by rw [HLL.out]; exact him)
                    have hMi := Mat_get HM3.out i (by rw [HLL.out]; exact him)
                    obtain ⟨ci, ei, hci⟩ := hE4.mx.cell i (by rw [hE4.len]; exact him)
                    have ec := (hE4.mx.row i (by rw [hE4.len]; exact him)).cell c (by rw [hri, hMi.1]; omega)
                    rw [hri, hMi.1] at ei
                    rw [hri] at ec
                    have hxe := ElL_at hMi.2 (i := c) (by rw [hMi.1]; omega)
                    obtain ⟨y, ey⟩ : ∃ y, y = (l3.getD i []).getD c 0 := ⟨_, rfl⟩
                    rw [← ey] at ec hxe
                    have h5 := (blk_cell hE4.br 0).trans rfl
                    have h14 := (blk_cell (hE4.box (b14, (a : Int)) (by simp)).1 0).trans rfl
                    have b1 := below_alloc (Below.refl wr.heap.size wr) (.cells #[.int .i64 (i : Int)] 3)
                    have b2 := below_alloc b1 (.cells #[.int .i64 y] 3)
                    have z5 : wr.cell? ⟨b5, 0, none⟩ = some (.slice (some ⟨bl, 0, none⟩) m cl) := h5
                    have u5 : (wr.alloc (.cells #[.int .i64 (i : Int)] 3)).cell? ⟨b5, 0, none⟩ = some (.slice (some ⟨bl, 0, none⟩) m cl) := cell_below b1 h5
                    have ui := cell_below b1 ei
                    have uc := cell_below b1 ec
                    have v14 : ((wr.alloc (.cells #[.int .i64 (i : Int)] 3)).alloc (.cells #[.int .i64 y] 3)).cell? ⟨b14, 0, none⟩ = some (.int .i64 (a : Int)) := cell_below b2 h14
                    have hbn := blk_new (wr.alloc (.cells #[.int .i64 (i : Int)] 3)) (.cells #[.int .i64 y] 3)
                    have v18 : BoxI ((wr.alloc (.cells #[.int .i64 (i : Int)] 3)).alloc (.cells #[.int .i64 y] 3)) wr.heap.size i := blk_alloc (blk_new wr _) _
                    have v19 : BoxI ((wr.alloc (.cells #[.int .i64 (i : Int)] 3)).alloc (.cells #[.int .i64 y] 3)) (wr.heap.size + 1) y := by simpa [BoxI] using hbn
                    have hEW := hE4.newboxes (bx' := [(wr.heap.size, (i : Int)), (wr.heap.size + 1, y)]) b2 (fun e he => by
                      rcases List.mem_cons.1 he with rfl | he
                      · exact ⟨Nat.le_refl _, v18⟩
                      · rcases List.mem_cons.1 he with rfl | he
                        · exact ⟨by simp, v19⟩
                        · cases he)
                    have HEW := Aside0.mk hEW
                    have HV18 := Aside0.mk v18
                    have HV19 := Aside0.mk v19
                    have HRI := Aside0.mk hri
                    have HRA := Aside0.mk hra
                    have HN1 := Aside0.mk hn1
                    have HEY := Aside0.mk ey
                    have HYE := Aside0.mk hxe
                    have i0 : (0 : Int) ≤ (i : Int) := by omega
                    have i1 : (i : Int) < (m : Int) := by omega
                    clear hE4 hbn v18 v19 hEW h5 h14 hri hra hn1 ey hxe hMi hci b1 b2 ei ec
                    have hnop : (i = a ∨ y = 0) → ∀ W, Below ((wr.alloc (.cells #[.int .i64 (i : Int)] 3)).alloc (.cells #[.int .i64 y] 3)).heap.size ((wr.alloc (.cells #[.int .i64 (i : Int)] 3)).alloc (.cells #[.int .i64 y] 3)) W → CRel g b4 b5 b7 bl cl m n F w0 (.slice AP a cP) pv l3 a b14 c p (.int .i64 ((i : Int) + 1)) W := fun ho W hW => ⟨i + 1, rs4, by simp, by omega, by
                      rw [HN1.out, if_pos (by show i = a ∨ (l3.getD i []).getD c 0 = 0; rw [← HEY.out]; exact ho)]
                      exact (HEW.out.below hW).fewer (fun e he => by rcases List.mem_cons.1 he with rfl | he; simp; cases he)⟩
                    have HNOP := Aside0.mk hnop
                    clear hnop
                    by_cases hia : i = a
                    · have hk1 : ((i : Int) != (a : Int)) = false := by rw [hia]; simp
                      have HIA := Aside0.mk hia
                      clear hia
                      go_wp2
                      go_roundg p
                      case measure => omega
                      case rel => exact HNOP.out (.inl HIA.out) _ (Below.refl _ _)
                    · have hk1 : ((i : Int) != (a : Int)) = true := bne_iff_ne.mpr (by omega)
                      by_cases hy : y = 0
                      · have hk2 : (y != 0) = false := bne_eq_false_iff_eq.mpr hy
                        have HY := Aside0.mk hy
                        clear hy hia
                        go_wp2
                        go_roundg p
                        case measure => omega
                        case rel => exact HNOP.out (.inr HY.out) _ (Below.refl _ _)
                      · have hk2 : (y != 0) = true := bne_iff_ne.mpr hy
                        have hil : i < (clr F l3 a c i).length := by rw [HEW.out.len]; exact him
                        have hal : a < (clr F l3 a c i).length := by rw [HEW.out.len]; exact ha
                        have hc := ad_calls g F bl rs4 (clr F l3 a c i) cl a i n b14 wr.heap.size (wr.heap.size + 1) b4 y w0 _ hF HK.out.mulE (HK.out.negE _ HYE.out) HG.out HEW.out.base (fun j hj => HEW.out.lo j (by rw [← HEW.out.len]; exact hj)) HEW.out.mx HEW.out.mat hal hil (fun e => hia e.symm) (by rw [HEW.out.len]; exact hcl) (HEW.out.box (b14, (a : Int)) (by simp)).1 HV18.out HV19.out HEW.out.bg HYE.out hn
                        rw [HEW.out.len] at hc
                        have HC := Aside0.mk (each_ad b5 b7 _ b4 wr.heap.size (wr.heap.size + 1) b14 (AdPost F bl rs4 (clr F l3 a c i) a i y _) _ HEW.out.br HEW.out.bs hc (fun W hW => hW.2.at HEW.out.bs (fun e2 => by
                          obtain ⟨cs, h1⟩ := HEW.out.rne him
                          exact blk_tne HEW.out.bs h1 (by decide) e2)))
                        have HMS := Aside0.mk (Mat_set HEW.out.mat i _ (addTo_row HK.out (HK.out.negE _ HYE.out) (Mat_get HEW.out.mat i hil) (Mat_get HEW.out.mat a hal)))
                        have HADD : Aside0 (clr F l3 a c (i + 1) = (clr F l3 a c i).set i (addToS F.ops ((clr F l3 a c i).getD i []) (F.neg y) ((clr F l3 a c i).getD a []))) := ⟨by
                          rw [HN1.out, if_neg (by
                            show ¬ (i = a ∨ (l3.getD i []).getD c 0 = 0)
                            rw [← HEY.out]
                            rintro (h | h)
                            · exact hia h
                            · exact hy h), HRI.out, HRA.out, HEY.out]; rfl⟩
                        clear hc hil hal hy hia
                        go_wp2_with (go_at_call 110; refine HC.out.mono ?_; rintro e w5 ⟨rfl, hs⟩; have hE5 := HEW.out.add him HMS.out hs; have HE5 := Aside0.mk hE5; clear hs hE5)
                        go_roundg p
                        case measure => omega
                        case rel => exact ⟨i + 1, rs4, by simp, by omega, by rw [HADD.out]; exact HE5.out.fewer (fun e he => by rcases List.mem_cons.1 he with rfl | he; simp; cases he)⟩
                  · have hie : i = m := by omega
                    have hE5 : ESt g b4 b5 b7 bl cl m n F w0 wr rs4 (clearS F.ops l3 a c) (.slice AP a cP) pv [(b14, (a : Int))] := by
                      have e : clr F l3 a c i = clearS F.ops l3 a c := by rw [hie, ← HLL.out]; exact clr_all F l3 a c
                      rw [← e]; exact hE4
                    have HE5 := Aside0.mk hE5
                    clear hE4 hE5
                    have hpl : pv.length ≤ 1000000 := by rw [← HPA.out]; omega
                    go_wp2_with (at_builtin; refine Kd.R_append (Kd.int .i64) (w0 := w0) w0.heap.size rfl (.tmp 119) (.tmp 121) 23 3 (.int .i64 0) 8 rfl Try.underlying23 info3 rfl (by decide) (by omega) (.slice AP a cP) pv (c : Int) _ (fun k => ∀ j, j < m → k ≠ rs4 j) (fun _ => False) rfl rfl ?hp ?hokp ?hfresh ?HO ?HB ?hbase ?hl ?_; (case hp => exact rfl); (case hokp => exact fun _ h => h.elim); (case hfresh => exact fun k hk j hj e => by have := ((HE5.out.mx.row j (by rw [HE5.out.len]; exact hj)).lt); omega); (case HO => exact HE5.out.piv); (case HB => exact HE5.out.base); (case hbase => exact HE5.out.base.size); (case hl => omega); intro v1 w1 hR1 hb1 hg1 _; have HE6 := Aside0.mk (HE5.out.append hR1 hb1 hg1); clear hR1 hb1 hg1)
                    go_roundg q
                    case measure => omega
                    case rel => exact ⟨_, c + 1, rs4, _, _, rfl, HD3.out, by simp, by omega, by rw [List.length_append, List.length_singleton, ← HPA.out]; omega, by rw [List.length_append, List.length_singleton, ← HPA.out]; exact HT2.out, HE6.out⟩
    · have HPO : Aside0 (EPost bl m F w0 T (.slice AP pv.length cP) wo) := ⟨by
        have e : elimGo F.ops gk c pv.length l pv = (l, pv) := by
          cases gk with
          | zero => rfl
          | succ q =>
            unfold elimGo
            rw [if_neg (by rw [hE.len]; omega)]
        rw [e] at hT
        subst hT
        exact ⟨rs, hE.base, hE.mx, hE.lo, Kd.R_mono hE.piv (fun _ _ => trivial)⟩⟩
      clear hE hT hD
      by_cases hlt : c < cols
      · have hpm : ¬ pv.length < m := fun h => hgo ⟨hlt, h⟩
        clear hgo hq
        go_wp2
        go_ret2
        exact ⟨_, _, rfl, HPO.out⟩
      · clear hgo hq
        go_wp2
        go_ret2
        exact ⟨_, _, rfl, HPO.out⟩
end Go.Proofs.Ytekenifndicdeaa.P
