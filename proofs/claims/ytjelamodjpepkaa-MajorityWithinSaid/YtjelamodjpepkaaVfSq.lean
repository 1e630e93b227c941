/- Short words for what the printed walks say often: each is proved, where it stands, by the tactics it is named for. -/
import Derived.Test.YtjelamodjpepkaaVfWMore
import Derived.WalkKit
import Derived.Test.YtjelamodjpepkaaVfP
namespace Go.Proofs.Ytjelamodjpepkaa.P
open Go.RowKit Go.Proofs.YtjelamodjpepkaaW.PrintWords Go.Proofs.YtjelamodjpepkaaW.PrintLast Go.Proofs.YtjelamodjpepkaaW.PrintMore
set_option linter.unusedVariables false
theorem K0 {p : Prop} (h : p) : Aside0 p := ⟨h⟩
theorem od_ {p : Prop} [Decidable p] (h : decide p = true := by first | (with_reducible assumption) | assumption) : p := of_decide_eq_true h
theorem hb_ {n : Nat} {w w' : World} (h : Below n w w' := by repeat (first | (with_reducible first | exact HB.out | apply below_alloc | apply pw_below_drewN | apply below_drew1) | exact HB.out)) : Below n w w' := h
theorem hs_ {n : Nat} {w w' : World} (h : Below n w w' := by repeat (first | (with_reducible first | exact HB.out | apply below_alloc | apply pw_below_drewN | apply below_drew1) | (refine below_set ?_ (Aside0.out (by with_reducible assumption))) | exact HB.out)) : Below n w w' := h
theorem rd_ {p q : Prop} (x : p) (h : p → q := by intro h_; (with_reducible repeat (first | apply Kd.R_alloc | apply Kd.R_drewN | apply Kd.R_drew)); exact h_) : q := h x
theorem nd_ {p q : Prop} (x : p) (h : p → q := by intro h_; (with_reducible repeat (first | apply Kd.N_alloc | apply Kd.N_drewN | apply Kd.N_drew)); exact h_) : q := h x
theorem sd_ {p q : Prop} (x : p) (h : p → q := by intro h_; (with_reducible repeat (first | apply Kd.S_alloc | apply Kd.S_drewN | apply Kd.S_drew)); exact h_) : q := h x
theorem vd_ {p q : Prop} (x : p) (h : p → q := by intro h_; (with_reducible repeat (first | apply Kd.V_alloc | apply Kd.V_drewN | apply Kd.V_drew)); exact h_) : q := h x
theorem rq_ {α : Type} {a b : α} (e : a = b) {p q : Prop} (x : p) (h : a = b → p → q := by intro e_ H_; first | (rw [e_]; with_reducible exact H_) | (have H2_ := (Option.bind_some _ _).symm.trans H_; rw [e_]; with_reducible exact H2_) | (have H2_ := (Option.bind_some _ _).symm.trans H_; with_reducible exact H2_) | with_reducible exact H_ | (rw [e_]; exact H_) | exact H_) : q := h e x
theorem kd_ {p q : Prop} (x : p) (h : p → q := by intro h_; (with_reducible repeat (first | refine blk_drewN ?_ _ | refine blk_drew ?_ | refine blk_alloc ?_ _)); exact h_) : q := h x
theorem rc_ {p q : Prop} (x : p) (h : p → q := by intro h_; repeat (first | exact h_ | (with_reducible refine Kd.C_alloc ?_ _) | (with_reducible refine Kd.C_drewN ?_ _) | (with_reducible refine Kd.C_drew ?_))) : q := h x
theorem ma_ {p : Prop} (h : p := by (try simp only [List.map_toArray, List.map_cons, List.map_nil]); first | done | rfl | (simp only [List.length_drop, List.length_take]; rfl)) : p := h
theorem si_ {p : Prop} (h : p := by first | rfl | (simp; done) | (simp [*]; done)) : p := h
theorem er_ {p : Prop} (h : p := by first | rfl | (simp [errW_none, errW_some] <;> rfl) | (simp [*, errW_none, errW_some] <;> rfl)) : p := h
theorem gs_ {p : Prop} (h : p := by first | (go_simp; done) | (go_simp; rfl)) : p := h
theorem sA {α : Type _} (l : List α) (i : Nat) (a : α) : l.toArray.setIfInBounds i a = (l.set i a).toArray := List.setIfInBounds_toArray l i a
theorem sZ {α : Type _} {x : α} {xs : List α} {a : α} : (x :: xs).set 0 a = a :: xs := rfl
theorem sS {α : Type _} {x : α} {xs : List α} {i : Nat} {a : α} : (x :: xs).set (i + 1) a = x :: xs.set i a := rfl
section
variable {P : Program} {ops : Array Oper} {Q : Exit → Act → World → Prop} {md : Region.Mode} {S : World → Prop} {ds : List Nat}
theorem pv_ {i : Nat} {N : Option Tmp} {oi : Oper} {v : Value} {fuel : Nat} {l l' : Array Bool} {a a' : Act} {w : World} (h : wpAnyLast P md ops Q S ds fuel l' a' w) (hl : l.setIfInBounds i true = l' := by simp only [sA, sZ, sS]; rfl)
  (hi : ops[i]? = some oi := by exact rfl) (hN : oi.dst = N := by exact rfl) (hc : anyB md ops l l' i = true := by first | exact any_of HT_.out (by kernel_rfl) | kernel_rfl)
  (hQ : ∀ c a w, Q (.panic c) (a.put oi.dst v) w → Q (.panic c) a w := by exact fun _ _ _ h => h) (hy : Yields P ops oi v a := by (refine Or.inl ⟨by rfl, ?_⟩; intro w'; go_simp; with_reducible rfl))
  (ha : a.put N v = a' := by simp only [Act.put, sA, sZ, sS, i64_w, i32_w]; rfl) : wpAnyLast P md ops Q S ds (fuel + 1) l a w := pure_ l' hi hN hc hQ hy ha h
theorem pu_ {i : Nat} {N : Option Tmp} {oi : Oper} {fuel : Nat} {l l' : Array Bool} {a a' : Act} {w : World} (h : wpAnyLast P md ops Q S ds fuel l' a' w) (hl : l.setIfInBounds i true = l' := by simp only [sA, sZ, sS]; rfl)
  (hi : ops[i]? = some oi := by exact rfl) (hN : oi.dst = N := by exact rfl) (hc : anyB md ops l l' i = true := by first | exact any_of HT_.out (by kernel_rfl) | kernel_rfl)
  (hQ : ∀ c a w, Q (.panic c) (a.put oi.dst undef) w → Q (.panic c) a w := by exact fun _ _ _ h => h) (hy : Yields P ops oi undef a := by exact Or.inr ⟨by rfl, rfl⟩)
  (ha : a.put N undef = a' := by simp only [Act.put, sA, sZ, sS, i64_w, i32_w]; rfl) : wpAnyLast P md ops Q S ds (fuel + 1) l a w := pure_ l' hi hN hc hQ hy ha h
theorem tk_ {i : Nat} {N : Option Tmp} {oi : Oper} {v : Value} {fuel : Nat} {l l' : Array Bool} {a a' : Act} {w : World} (h : wpAnyLast P md ops Q S ds fuel l' a' w) (hl : l.setIfInBounds i true = l' := by simp only [sA, sZ, sS]; rfl)
  (hi : ops[i]? = some oi := by exact rfl) (hN : oi.dst = N := by exact rfl) (hc : takeB md ops ds l l' i = true := by exact take_ofW HT_.out HW_.out (by kernel_rfl))
  (hQ : ∀ c a w, Q (.panic c) (a.put oi.dst v) w → Q (.panic c) a w := by exact fun _ _ _ h => h) (hy : YieldsIf P ops S oi v a := by (refine Or.inl ⟨by rfl, ?_⟩; intro w' hS_; (repeat (obtain ⟨s_, hS_⟩ := hS_)); go_simp; with_reducible rfl))
  (hS : S w := by exact hHeld) (ha : a.put N v = a' := by simp only [Act.put, sA, sZ, sS, i64_w, i32_w]; rfl) : wpAnyLast P md ops Q S ds (fuel + 1) l a w := take_ l' hi hN hc hQ hy hS ha h
end
theorem bc0 {w : World} {g t : Nat} {x0 : Value} {l : List Value} (h : w.heap[g]? = some (.cells (List.toArray (x0 :: l)) t (0, 0))) : w.cell? ⟨g, 0, none⟩ = some x0 := (blk_cell h 0).trans rfl
theorem bc1 {w : World} {g t : Nat} {x0 x1 : Value} {l : List Value} (h : w.heap[g]? = some (.cells (List.toArray (x0 :: x1 :: l)) t (0, 0))) : w.cell? ⟨g, 1, none⟩ = some x1 := (blk_cell h 1).trans rfl
theorem bc2 {w : World} {g t : Nat} {x0 x1 x2 : Value} {l : List Value} (h : w.heap[g]? = some (.cells (List.toArray (x0 :: x1 :: x2 :: l)) t (0, 0))) : w.cell? ⟨g, 2, none⟩ = some x2 := (blk_cell h 2).trans rfl
theorem bc3 {w : World} {g t : Nat} {x0 x1 x2 x3 : Value} {l : List Value} (h : w.heap[g]? = some (.cells (List.toArray (x0 :: x1 :: x2 :: x3 :: l)) t (0, 0))) : w.cell? ⟨g, 3, none⟩ = some x3 := (blk_cell h 3).trans rfl
theorem bc4 {w : World} {g t : Nat} {x0 x1 x2 x3 x4 : Value} {l : List Value} (h : w.heap[g]? = some (.cells (List.toArray (x0 :: x1 :: x2 :: x3 :: x4 :: l)) t (0, 0))) : w.cell? ⟨g, 4, none⟩ = some x4 := (blk_cell h 4).trans rfl
end Go.Proofs.Ytjelamodjpepkaa.P
