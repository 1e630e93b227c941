/- The walk of classic.Monomials over its local function. -/
import Derived.Test.YtjelamodjpepkaaVdHMono
import Derived.Laws.EntriesVeiled
namespace Go.Proofs.Ytjelamodjpepkaa.P
open Go.RowKit Go.Proofs.YtjelamodjpepkaaW.PrintWords Go.Proofs.YtjelamodjpepkaaW.PrintLast Go.Proofs.YtjelamodjpepkaaW.PrintMore
attribute [local go_sem] max2_int min2_int max_two min_two max_three min_three max_four min_four
set_option linter.unusedVariables false
set_option linter.unusedSimpArgs false
/-- The monomials of the degrees below s. -/
def monsTo (m : Nat) : Nat → List (List Int)
  | 0 => []
  | s + 1 => monsTo m s ++ combs1 s m 0 []
def classic_Monomials.f (a0 : Int) (a1 : Int) : Option (List (List Int) × Int) :=
  if a1 < 0 ∨ a1 > 6 ∨ a0 < -1 ∨ a0 > a1 then some ([], 6) else some (monsTo a1.toNat (a0 + 1).toNat, 0)
theorem monsTo_small : ∀ m, m < 7 → ∀ s, s < 8 → (monsTo m s).length ≤ 64 ∧ (combs1 s m 0 []).length ≤ 64 := by decide +kernel
def MonRel (a0 : Int) (m : Nat) (w : World) (B : Nat) (u : Value) (wr : World) : Prop :=
  ∃ (s : Nat) (vX : Value), u = .int .i64 s ∧ s ≤ 7 ∧ (s : Int) ≤ a0 + 1 ∧ wr.heap[B]? = some (.cells #[.int .i64 (m : Int)] 3 (0, 0)) ∧ wr.heap[B + 1]? = some (.cells #[vX] 23 (0, 0)) ∧
    Kd.S (Kd.slice 3 (Kd.int .i64)) 22 wr B (fun _ => True) vX (monsTo m s) ∧ Below B w wr ∧ B + 1 < wr.heap.size
theorem cap_start {m s B : Nat} {wr : World} {vX : Value} {L : List (List Int)} (h1 : wr.heap[B]? = some (.cells #[.int .i64 (m : Int)] 3 (0, 0))) (h2 : wr.heap[B + 1]? = some (.cells #[vX] 23 (0, 0)))
    (hS : Kd.S (Kd.slice 3 (Kd.int .i64)) 22 wr B (fun _ => True) vX L) (hlt : B + 1 < wr.heap.size) :
    Cap (((wr.alloc (.cells #[.int .i64 (s : Int)] 3)).alloc (.cells #[fv wr.heap.size (B + 1) B (wr.heap.size + 1)] 61)).alloc (.cells #[] 3)) wr.heap.size (B + 1) B (wr.heap.size + 1) s m vX L B ∧
    Below wr.heap.size wr (((wr.alloc (.cells #[.int .i64 (s : Int)] 3)).alloc (.cells #[fv wr.heap.size (B + 1) B (wr.heap.size + 1)] 61)).alloc (.cells #[] 3)) := by
  have b1 := below_alloc (below_alloc (below_alloc (Below.refl wr.heap.size wr) (.cells #[.int .i64 (s : Int)] 3)) (.cells #[fv wr.heap.size (B + 1) B (wr.heap.size + 1)] 61)) (.cells #[] 3)
  refine ⟨⟨?_, blk_below h2 b1, blk_below h1 b1, ?_, Kd.S_below hS b1, by omega, Nat.le_trans (by omega) b1.size⟩, b1⟩
  · exact blk_alloc (blk_alloc (blk_new wr _) _) _
  · have := blk_alloc (blk_new (wr.alloc (.cells #[.int .i64 (s : Int)] 3)) (.cells #[fv wr.heap.size (B + 1) B (wr.heap.size + 1)] 61)) (.cells #[] 3)
    simpa using this
set_option maxHeartbeats 1000000 in
theorem classic_Monomials.calls (a0 : Int) (a1 : Int) (r1 : List (List Int)) (r2 : Int) (w : World) (h : classic_Monomials.f a0 a1 = some (r1, r2)) :
    Calls Try.prog 9 #[.int .i64 a0, .int .i64 a1] w fun e w' => ∃ v0_ : Value, e = .returned (.tuple #[v0_, .int .i64 r2]) ∧ Kd.S (Kd.slice 3 (Kd.int .i64)) 22 w' w.heap.size (fun _ => True) v0_ r1 ∧ Below w.heap.size w w' := by
  unfold classic_Monomials.f at h
  have hmf : ∀ (fn : Fn) (first cap : Array Value) (w : World), (Instr.makeFunc fn first cap).run Try.prog w = .ok (.func fn first cap) w := fun _ _ _ _ => rfl
  by_cases hbad : a1 < 0 ∨ a1 > 6 ∨ a0 < -1 ∨ a0 > a1
  · rw [if_pos hbad] at h
    obtain ⟨rfl, rfl⟩ := Prod.mk.inj (Option.some.inj h)
    clear h
    have b0 := below_alloc (Below.refl w.heap.size w) (.cells #[.int .i64 a1] 3)
    have HB0 := Aside0.mk b0
    clear b0
    by_cases h1 : a1 < 0
    · clear hbad
      go_enter Try.func9, Try.ntmps9
      go_wp2
      go_ret2
      exact ⟨_, rfl, Kd.S_nil _ _ _ _ _, HB0.out⟩
    by_cases h2 : 6 < a1
    · clear hbad
      go_enter Try.func9, Try.ntmps9
      go_wp2
      go_ret2
      exact ⟨_, rfl, Kd.S_nil _ _ _ _ _, HB0.out⟩
    by_cases h3 : a0 < -1
    · clear hbad
      go_enter Try.func9, Try.ntmps9
      go_wp2
      go_ret2
      exact ⟨_, rfl, Kd.S_nil _ _ _ _ _, HB0.out⟩
    · have h4 : a1 < a0 := by omega
      clear hbad
      go_enter Try.func9, Try.ntmps9
      go_wp2
      go_ret2
      exact ⟨_, rfl, Kd.S_nil _ _ _ _ _, HB0.out⟩
  · rw [if_neg hbad] at h
    obtain ⟨rfl, rfl⟩ := Prod.mk.inj (Option.some.inj h)
    clear h
    obtain ⟨m, rfl⟩ := Int.eq_ofNat_of_zero_le (show 0 ≤ a1 by omega)
    have hm : (m : Int) ≤ 6 := by omega
    have hr0 : -1 ≤ a0 := by omega
    have hrm : a0 ≤ (m : Int) := by omega
    clear hbad
    have hnm : ¬ ((m : Int) < 0) := by omega
    have hrel0 : MonRel a0 m w w.heap.size (.int .i64 0) ((w.alloc (.cells #[.int .i64 (m : Int)] 3)).alloc (.cells #[.slice none 0 0] 23)) := by
      refine ⟨0, .slice none 0 0, rfl, by omega, by simp; omega, blk_alloc (blk_new w _) _, ?_, Kd.S_nil _ _ _ _ _, below_alloc (below_alloc (Below.refl _ _) _) _, by simp⟩
      have := blk_new (w.alloc (.cells #[.int .i64 (m : Int)] 3)) (.cells #[.slice none 0 0] 23)
      simpa using this
    have HREL := Aside0.mk hrel0
    clear hrel0
    go_enter Try.func9, Try.ntmps9
    go_wp2
    go_loopw [26] (fun u wr => MonRel a0 m w w.heap.size u wr) (fun u _ => (a0 + 1 - intOf u).toNat)
    case atStart => exact HREL.out
    case round =>
      clear HREL
      obtain ⟨s, vX, rfl, hs7, hsa, hb1, hb2, hS, hbel, hlt⟩ := hrel
      have HB1 := Aside0.mk hb1
      have HB2 := Aside0.mk hb2
      have HS := Aside0.mk hS
      have HBEL := Aside0.mk hbel
      have f2 : wr.cell? ⟨w.heap.size + 1, 0, none⟩ = some vX := (blk_cell hb2 0).trans rfl
      obtain ⟨AX, cX, eX⟩ := Kd.S_slice hS
      subst eX
      have hst := cap_start (s := s) hb1 hb2 hS hlt
      have HST := Aside0.mk hst
      clear hb1 hb2 hS hbel hst
      by_cases hsr : (s : Int) < a0 + 1
      · have hsm : s < 8 := by omega
        have hlen := monsTo_small m (by omega) s hsm
        have HK := Aside0.mk (add_all m s (m : Int) 0 (some ⟨wr.heap.size + 2, 0, none⟩) 0 [] _ (monsTo m s) _ wr.heap.size (w.heap.size + 1) w.heap.size (wr.heap.size + 1) w.heap.size (by omega) (by omega) (by omega) hm hs7 HST.out.1 ⟨rfl, by simp, by simp⟩ (fun ad e hn => absurd hn (by simp)) (by simp) (by simp; omega) (by omega))
        clear hlen
        go_wp2_with (go_at_call 32; refine HK.out.mono ?_; rintro e w4 ⟨rfl, vo4, hcap4, hb4, hat4, hk4⟩)
        have hnext : MonRel a0 m w w.heap.size (.int .i64 ((s : Int) + 1)) w4 := ⟨s + 1, vo4, by simp, by omega, by omega, hcap4.hm, hcap4.ho, hcap4.own, (HBEL.out.trans (HST.out.2.mono HBEL.out.size)).trans hb4, by
          have := hb4.size
          have := HST.out.2.size
          omega⟩
        exact ⟨hnext, by simp [intOf]; omega⟩
      · have hse : (s : Int) = a0 + 1 := by omega
        have e1 : (m : Int).toNat = m := rfl
        have e2 : (a0 + 1).toNat = s := by omega
        have HE := Aside0.mk e2
        clear e2
        go_wp2
        go_ret2
        refine ⟨_, rfl, ?_, HBEL.out⟩
        rw [HE.out]
        exact HS.out
end Go.Proofs.Ytjelamodjpepkaa.P
