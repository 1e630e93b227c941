/- The walk of majority.decoded: the word as it came, and the list of the positions at which it differs from the received word. -/
import Derived.Test.YtjelamodjpepkaaVdBase
import Derived.Test.YtjelamodjpepkaaVdP
import Derived.Deep.RegionLaw
namespace Go.Proofs.Ytjelamodjpepkaa.P
open Go.RowKit Go.Proofs.YtjelamodjpepkaaW.PrintWords Go.Proofs.YtjelamodjpepkaaW.PrintLast Go.Proofs.YtjelamodjpepkaaW.PrintMore Go.Proofs.Ytjelamodjpepkaa.B
attribute [local go_sem] max2_int min2_int max_two min_two max_three min_three max_four min_four
set_option linter.unusedVariables false
set_option linter.unusedSimpArgs false
/-- The positions below n at which the two lists differ. -/
def errsTo (a b : List Int) (n : Nat) : List Int := ((List.range n).filter fun i => a.getD i 0 != b.getD i 0).map Int.ofNat
theorem errsTo_len (a b : List Int) (n : Nat) : (errsTo a b n).length ≤ n := by
  unfold errsTo
  rw [List.length_map]
  have := List.length_filter_le (fun i => a.getD i 0 != b.getD i 0) (List.range n)
  simpa using this
theorem errsTo_yes (a b : List Int) (n : Nat) (h : a.getD n 0 ≠ b.getD n 0) : errsTo a b (n + 1) = errsTo a b n ++ [(n : Int)] := by
  unfold errsTo
  rw [List.range_succ, List.filter_append, List.map_append]
  congr 1
  rw [List.filter_cons_of_pos (by simpa using h)]; rfl
theorem errsTo_no (a b : List Int) (n : Nat) (h : a.getD n 0 = b.getD n 0) : errsTo a b (n + 1) = errsTo a b n := by
  unfold errsTo
  rw [List.range_succ, List.filter_append, List.map_append, List.filter_cons_of_neg (by simpa using h)]
  simp
def majority_decoded.f (l0 l1 : List Int) : Option (List Int × List Int) := if l0.length ≤ l1.length ∧ l0.length < 17592186044416 then some (l0, errsTo l0 l1 l0.length) else none
def DecRel (w : World) (B : Nat) (A0 : Option Addr) (c0 : Nat) (l0 l1 : List Int) (u : Value) (wr : World) : Prop :=
  ∃ (i : Nat) (vE : Value), u = .int .i64 i ∧ i ≤ l0.length ∧ wr.heap[B]? = some (.cells #[.slice none 0 0, .slice none 0 0] 38 (0, 0)) ∧ wr.heap[B + 1]? = some (.cells #[.slice A0 l0.length c0, vE] 38 (0, 0)) ∧
    Kd.R (Kd.int .i64) 3 wr B (fun _ => True) vE (errsTo l0 l1 i) ∧ Below B w wr ∧ B + 1 < wr.heap.size
theorem dec_next {w wr w1 : World} {B i : Nat} {A0 : Option Addr} {c0 : Nat} {l0 l1 : List Int} {vE v1 : Value} (h0 : wr.heap[B]? = some (.cells #[.slice none 0 0, .slice none 0 0] 38 (0, 0))) (h1 : wr.heap[B + 1]? = some (.cells #[.slice A0 l0.length c0, vE] 38 (0, 0)))
    (hR : Kd.R (Kd.int .i64) 3 wr B (fun _ => True) vE (errsTo l0 l1 i)) (hlt : B + 1 < wr.heap.size) (W0 : World) (hb2 : Below wr.heap.size wr W0) (hR1 : Kd.R (Kd.int .i64) 3 w1 B (fun _ => True) v1 (errsTo l0 l1 i ++ [(i : Int)])) (hb : Below B w w1) (hg : W0.grownBy w1 vE.ownBlock) (hne : l0.getD i 0 ≠ l1.getD i 0) (hi : i < l0.length) :
    w1.heap[B + 1]? = some (.cells #[.slice A0 l0.length c0, vE] 38 (0, 0)) ∧ DecRel w B A0 c0 l0 l1 (.int .i64 ((i : Int) + 1)) (w1.setCell ⟨B + 1, 1, none⟩ v1) := by
  have ne : ∀ (k : Nat) (cs : Array Value), wr.heap[k]? = some (.cells cs 38 (0, 0)) → w1.heap[k]? = some (.cells cs 38 (0, 0)) := by
    intro k cs hk
    have hlt2 : k < wr.heap.size := blk_lt hk
    rw [hg.block k (Nat.lt_of_lt_of_le hlt2 hb2.size) ?_, hb2.block k hlt2]
    · exact hk
    · intro e
      obtain ⟨cells, hc⟩ := Kd.R_typed hR k e.symm
      rw [hk] at hc
      injection hc with hc
      injection hc with _ hc
      exact absurd hc (by decide)
  have h2 := ne _ _ h1
  refine ⟨h2, i + 1, v1, by simp, hi, ?_, ?_, ?_, hb.setCell (by simp) _, ?_⟩
  · rw [Below.heap_setCell w1 ⟨B + 1, 1, none⟩ v1 B (by simp)]
    exact ne _ _ h0
  · have := blk_set h2 1 v1
    simpa using this
  · rw [errsTo_yes l0 l1 i hne]
    exact Kd.R_set hR1 h2 (by simp [Kd.int, Kd.scalar]) 1 v1
  · have := blk_lt h2
    simpa [World.setCell] using this
set_option maxHeartbeats 1000000 in
theorem majority_decoded.read (A0 : Option Addr) (c0 : Nat) (l0 : List Int) (A1 : Option Addr) (c1 : Nat) (l1 : List Int) (r0 r1 : List Int) (w : World) (hr0 : Kd.C (Kd.int .i64) w A0 l0.length l0) (hc0 : l0.length ≤ c0) (hr1 : Kd.C (Kd.int .i64) w A1 l1.length l1) (hc1 : l1.length ≤ c1) (h : majority_decoded.f l0 l1 = some (r0, r1)) :
    Calls Try.prog 41 #[.slice A0 l0.length c0, .slice A1 l1.length c1] w fun e w' => ∃ v1_ : Value, e = .returned (.agg #[.slice A0 l0.length c0, v1_]) ∧ Kd.R (Kd.int .i64) 3 w' w.heap.size (fun _ => True) v1_ r1 ∧ r0 = l0 ∧ Below w.heap.size w w' := by
  unfold majority_decoded.f at h
  by_cases hc : l0.length ≤ l1.length ∧ l0.length < 17592186044416
  · rw [if_pos hc] at h
    obtain ⟨rfl, rfl⟩ := Prod.mk.inj (Option.some.inj h)
    obtain ⟨hll, hls⟩ := hc
    clear h
    have HR0 := Aside0.mk hr0
    have HR1 := Aside0.mk hr1
    clear hr0 hr1 hc0 hc1
    have hrel0 : DecRel w w.heap.size A0 c0 l0 l1 (.int .i64 0) ((w.alloc (.cells #[.slice none 0 0, .slice none 0 0] 38)).alloc (.cells #[.slice A0 l0.length c0, .slice none 0 0] 38)) := by
      refine ⟨0, .slice none 0 0, rfl, by omega, blk_alloc (blk_new w _) _, ?_, Kd.R_nil _ _ _ _ _, below_alloc (below_alloc (Below.refl _ _) _) _, by simp⟩
      have := blk_new (w.alloc (.cells #[.slice none 0 0, .slice none 0 0] 38)) (.cells #[.slice A0 l0.length c0, .slice none 0 0] 38)
      simpa using this
    have HREL := Aside0.mk hrel0
    clear hrel0
    go_enter Try.func41, Try.ntmps41
    go_wp2
    go_loopw [11] (fun u wr => DecRel w w.heap.size A0 c0 l0 l1 u wr) (fun u _ => l0.length - (intOf u).toNat)
    case atStart => exact HREL.out
    case round =>
      clear HREL
      obtain ⟨i, vE, rfl, hil, hb0, hb1, hR, hbel, hlt⟩ := hrel
      have HB0 := Aside0.mk hb0
      have HR := Aside0.mk hR
      have HBEL := Aside0.mk hbel
      obtain ⟨AE, cE, eE⟩ := Kd.R_slice hR
      subst eE
      have HB1 := Aside0.mk hb1
      have f00 : wr.cell? ⟨w.heap.size + 1, 0, none⟩ = some (.slice A0 l0.length c0) := (blk_cell HB1.out 0).trans rfl
      have f01 : wr.cell? ⟨w.heap.size + 1, 1, none⟩ = some (.slice AE (errsTo l0 l1 i).length cE) := (blk_cell HB1.out 1).trans rfl
      have g00 : wr.cell? ⟨w.heap.size, 0, none⟩ = some (.slice none 0 0) := (blk_cell HB0.out 0).trans rfl
      have g01 : wr.cell? ⟨w.heap.size, 1, none⟩ = some (.slice none 0 0) := (blk_cell HB0.out 1).trans rfl
      have z0 := blk_frozen HB0.out 0
      have z1 := blk_frozen HB0.out 1
      clear hR hb0 hb1 hbel
      by_cases hin : i < l0.length
      · obtain ⟨ad0, e0, hx0⟩ := Kd.at_int (Kd.C_below HR0.out HBEL.out) (i : Int) (by omega) (by omega)
        obtain ⟨ad1, e1, hx1⟩ := Kd.at_int (Kd.C_below HR1.out HBEL.out) (i : Int) (by omega) (by omega)
        cases e0
        cases e1
        have e2 : rd l0 (i : Int) = l0.getD i 0 := rfl
        have e3 : rd l1 (i : Int) = l1.getD i 0 := rfl
        rw [e2, toNat_nat] at hx0
        rw [e3, toNat_nat] at hx1
        clear e2 e3
        have HIN := Aside0.mk hin
        by_cases hd : l0.getD i 0 = l1.getD i 0
        · have hnext : ∀ nq, DecRel w w.heap.size (some ad0) c0 l0 l1 (.int .i64 ((i : Int) + 1)) (wr.drewN nq) := fun nq => ⟨i + 1, _, by simp, hin, HB0.out, HB1.out, by rw [errsTo_no l0 l1 i hd]; exact Kd.R_drewN HR.out nq, pw_below_drewN HBEL.out nq, hlt⟩
          have HNEXT := Aside0.mk hnext
          have hb : (l0.getD i 0 != l1.getD i 0) = false := bne_eq_false_iff_eq.2 hd
          clear hnext hd
          generalize l0.getD i 0 = a at hx0 hb
          generalize l1.getD i 0 = b at hx1 hb
          go_wp2
          go_quiet (fail)
          go_wp2
          exact ⟨HNEXT.out _, by simp [intOf]; omega⟩
        · have HD := Aside0.mk hd
          have hb : (l0.getD i 0 != l1.getD i 0) = true := bne_iff_ne.2 hd
          have z2 := blk_frozen HB1.out 1
          clear hd
          generalize l0.getD i 0 = a at hx0 hb
          generalize l1.getD i 0 = b at hx1 hb
          go_wp2
          go_quiet (fail)
          go_wp2_with (at_builtin; refine Kd.R_append (Kd.int .i64) (w0 := w) w.heap.size rfl (.tmp 24) (.tmp 26) 22 3 (.int .i64 0) 8 rfl Try.underlying22 info3 rfl (by decide) (by omega) (.slice AE (errsTo l0 l1 i).length cE) (errsTo l0 l1 i) (i : Int) _ (fun _ => True) (fun _ => False) rfl rfl ?hp ?hokp ?hfresh ?HO ?HB ?hbase ?hl ?_; (case hp => exact rfl); (case hokp => exact fun _ h => h.elim); (case hfresh => exact fun _ _ => trivial); (case HO => exact Kd.R_drewN HR.out _); (case HB => exact pw_below_drewN HBEL.out _); (case hbase => exact HBEL.out.size); (case hl => have := errsTo_len l0 l1 i; omega); intro v1 w1 hR1 hb1 hg1 _; obtain ⟨h2, hn⟩ := dec_next HB0.out HB1.out HR.out hlt _ (pw_below_drewN (Below.refl _ _) _) hR1 hb1 hg1 HD.out HIN.out; obtain ⟨A1', c1', e1'⟩ := Kd.R_slice hR1; subst e1'; have f5 : w1.cell? ⟨w.heap.size + 1, 1, none⟩ = some (.slice AE (errsTo l0 l1 i).length cE) := (blk_cell h2 1).trans rfl; have z5 := blk_frozen h2 1; have HN := Aside0.mk hn; clear hR1 hb1 hg1 h2 hn)
          have hn := HN.out
          rw [show (errsTo l0 l1 i ++ [(i : Int)]).length = (errsTo l0 l1 i).length + 1 from by simp] at hn
          exact ⟨hn, by simp [intOf]; omega⟩
      · have hie : i = l0.length := by omega
        have HIE := Aside0.mk hie
        clear hie
        go_wp2
        refine bodyPost_ret (results_cell_row rfl _ _ w.heap.size 38 #[.slice A0 l0.length c0, .slice AE (errsTo l0 l1 i).length cE] (0, 0) _ rfl ?_ Try.underlying38 rfl (by kernel_rfl)) rfl ?_
        · have := blk_set (blk_set HB0.out 0 (.slice A0 l0.length c0)) 1 (.slice AE (errsTo l0 l1 i).length cE)
          simpa using this
        · refine ⟨_, rfl, ?_, trivial, (HBEL.out.setCell (Nat.le_refl _) _).setCell (Nat.le_refl _) _⟩
          have := Kd.R_set (Kd.R_set HR.out HB0.out (by simp [Kd.int, Kd.scalar]) 0 (.slice A0 l0.length c0)) (blk_set HB0.out 0 (.slice A0 l0.length c0)) (by simp [Kd.int, Kd.scalar]) 1 (.slice AE (errsTo l0 l1 i).length cE)
          have e := HIE.out
          subst e
          exact this
  · rw [if_neg hc] at h
    cases h
theorem majority_decoded.calls (P0_ : Nat → Prop) (u9000_ : Value) (l0 : List Int) (A1 : Option Addr) (c1 : Nat) (l1 : List Int) (r1 : List Int) (r2 : List Int) (w0 w : World) (hB : Below w0.heap.size w0 w) (ho0 : Kd.R (Kd.int .i64) 3 w w0.heap.size P0_ u9000_ l0) (hr1 : ∀ W_, Kept w W_ (fun k_ => P0_ k_) → Kd.C (Kd.int .i64) W_ A1 l1.length l1) (hc1 : l1.length ≤ c1) (h : majority_decoded.f l0 l1 = some (r1, r2)) :
    Calls Try.prog 41 #[u9000_, .slice A1 l1.length c1] w fun e w' => ∃ v0_ v1_ : Value, e = .returned (.agg #[v0_, v1_]) ∧ Kd.R (Kd.int .i64) 3 w' w0.heap.size (fun k_ => (P0_ k_ ∨ w.heap.size ≤ k_) ∧ some k_ ≠ (v1_ : Value).ownBlock) v0_ r1 ∧ Kd.R (Kd.int .i64) 3 w' w0.heap.size (fun k_ => (P0_ k_ ∨ w.heap.size ≤ k_) ∧ some k_ ≠ (v0_ : Value).ownBlock) v1_ r2 ∧ Below w0.heap.size w0 w' ∧ Kept w w' (fun k_ => P0_ k_) := by
  obtain ⟨A0, c0, rfl⟩ := Kd.R_slice ho0
  obtain ⟨_, hle, hC⟩ := Kd.R_reads' ho0
  refine (majority_decoded.read A0 c0 l0 A1 c1 l1 r1 r2 w hC hle (hr1 w (Kept.refl _ _)) hc1 h).mono ?_
  rintro e w' ⟨v1, rfl, hR, rfl, hb⟩
  refine ⟨_, v1, rfl, ?_, ?_, hB.trans (hb.mono hB.size), Kept.of_below hb _⟩
  · refine Kd.R_below (Kd.R_mono (Kd.R_bound ho0) ?_) hb
    intro k hk
    exact ⟨.inl hk.1, fun e => by have := Kd.R_base hR k e.symm; have := hk.2.2; omega⟩
  · refine Kd.R_lower (Kd.R_mono (Kd.R_bound hR) ?_) hB.size
    intro k hk
    exact ⟨.inr hk.2.1, Kd.fresh' (Kd.R_lt ho0) k hk.2.1⟩
end Go.Proofs.Ytjelamodjpepkaa.P
