/- The row of the law MajorityWithin: for every input it answers true, and the input reads as it did. No condition. -/
import Derived.Test.YtjelamodjpepkaaRows
import Derived.Test.YtjelamodjpepkaaVfM3
import Derived.WalkKit
import Derived.ProofKit
import Derived.OpenShut
import Derived.ShutString
import Derived.ChangeOld
import Derived.Below
import Derived.SizedLaws
import Derived.Lib.SmallJoins
namespace Go.Proofs.Ytjelamodjpepkaa.majorityWithin
open Go.ChangeShapes Go.WideShapes Go.ChangeAt Go.RowKit Go.Proofs.YtjelamodjpepkaaW.PrintWords
open Go.ChangeMaps (open_string shut_string)
set_option linter.unusedVariables false
theorem own : ownKnob Try.prog.godebug = none := by kernel_rfl
theorem laidOut : laidOutB Try.prog = true := by kernel_rfl
set_option maxRecDepth 100000 in
theorem lifted (os : Os) (started : os.Started) (H : Type) (enc : TypeId × Value → H) :
  ReturnsInHanded {} Try.checked os 8 .any (Rows.majorityWithinSpec.pre6 enc Try.prog Try.f8 Rows.majorityWithinRow.domain false) (Rows.majorityWithinSpec.post enc Try.prog Try.f8 false true false false) := by
 refine returnsInHanded_of_change_sized (C := Try.checked) own started (by kernel_rfl) Try.func8
  (ChangeSpec.witness6 (enc := enc) (C := Try.checked) false ⟨#[], #[.agg #[.int .i64 0, .int .i64 0, .slice none 0 0, .slice none 0 0]], []⟩ 8 (by kernel_rfl) (by kernel_rfl) (by kernel_rfl) (by kernel_rfl)) ?_
 intro W base args ds gs before hval0 hW hcnd hsz0 _
 have hval : ∀ (j : Nat) t v, Try.f8.params[j]? = some t → args[j]? = some v → Value.okWide Try.prog W .any base t v := hval0
 have hW' := hW
 obtain ⟨p, q, hA0, hV, rfl, hfz, hnd⟩ := hW
 have hA : DataW.TrodAll enc Try.prog W 0 (fun _ => true) true Try.f8.params.toList args.toList ds p := hA0
 rw [Try.params8] at hA hval
 obtain ⟨v0, vs0, d0, ds0, p0, q0, hargs, rfl, rfl, h0, r0⟩ := trodAll_cons hA
 obtain ⟨rfl, rfl, rfl⟩ := trodAll_nil r0
 obtain rfl : args = #[v0] := by cases args; simp_all
 obtain ⟨rfl, rfl⟩ := trodVars_none hV
 have k0 := h0
 have lt0 : ∀ x ∈ p0, x.block < W.heap.size := by obtain ⟨m, hm⟩ := k0; exact DataW.trod_lt m _ _ _ hm
 obtain ⟨u0, u1, u2, u3, y0, y1, y2, y3, n, rfl, ed, ep, t0, t1, t2, t3⟩ := Go.Joins.open_agg4 Try.underlying43 (by kernel_rfl) (by kernel_rfl) (hval 0 43 v0 rfl rfl) h0
 have O3 := B.Opens.int (W := W) Try.underlying3 (by kernel_rfl)
 obtain ⟨a0, e0, w0⟩ := O3.2 _ _ _ _ _ _ _ t0
 obtain ⟨a1, e1, w1⟩ := O3.2 _ _ _ _ _ _ _ t1
 obtain ⟨l2, A2, c2, e2, hl2, hm2, C2, _⟩ := B.Opens.cells Try.underlying22 O3 t2
 obtain ⟨l3, A3, c3, e3, hl3, hm3, C3, _⟩ := B.Opens.cells Try.underlying22 O3 t3
 have e0' : [u0] = [Value.int .i64 a0] := e0
 have e1' : [u1] = [Value.int .i64 a1] := e1
 simp only [List.cons.injEq, and_true] at e0' e1' e2 e3
 subst e0' e1' e2 e3
 clear hA0 hval0 hsz0
 simp only [maxLen] at hm2 hm3
 obtain ⟨k, hk⟩ := B.Tl.get (B.within_tl a0 a1 l2 l3 (by omega) (by omega))
 refine (P.l43MajorityWithin.calls k a0 a1 A2 c2 l2 A3 c3 l3 true W C2 hl2 C3 hl3 hk).mono fun e W' ⟨he, bel⟩ => ?_
 subst he
 exact ⟨_, rfl, _, _, _, [], _, [], hW', trodAll_mk1 (shut_bool Try.underlying4 _), (trodAll_cons_mk (Below.trod laidOut (by kernel_rfl) (of_decide_eq_true (by kernel_rfl)) k0 bel lt0) trodAll_mk0), rfl, bel.frame _, fun h => by cases h⟩
theorem over : Rows.majorityWithinRow.holds Try.pinned (OpenSpec.ofChange Rows.majorityWithinSpec) :=
 OpenClaim.holds_of_wide 8 Try.f8 rfl rfl rfl rfl rfl rfl rfl ⟨rfl, rfl, rfl, rfl, rfl⟩ rfl rfl rfl rfl rfl (by kernel_rfl) Try.func8 (by kernel_rfl)
  (of_decide_eq_true (by kernel_rfl)) (by unfold Func.isWrapper; first | (rw [if_pos (by decide +kernel)]; kernel_rfl) | (rw [if_neg (by decide +kernel)]; exact ⟨rfl, rfl⟩))
  (fun os started H enc _ => lifted os started H enc)
theorem proved : Rows.MajorityWithinSaid := over
end Go.Proofs.Ytjelamodjpepkaa.majorityWithin
namespace Go.Proofs.Ytjelamodjpepkaa
/-- The row, under a short name, for the claim. -/
theorem majorityWithin_holds : Rows.MajorityWithinSaid := majorityWithin.proved
#print axioms majorityWithin_holds
end Go.Proofs.Ytjelamodjpepkaa
