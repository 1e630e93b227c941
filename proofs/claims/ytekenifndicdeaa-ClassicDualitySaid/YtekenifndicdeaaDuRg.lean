/- Short words for a region that draws its order, walked in the text's order: what only reads, calls, a last store. -/
import Derived.Test.YtekenifndicdeaaDuP
import Derived.WalkKit
namespace Go.Proofs.Ytekenifndicdeaa.P
open Go.RowKit Go.Proofs.YtekenifndicdeaaW.PrintWords Go.Proofs.YtekenifndicdeaaW.PrintLast Go.Proofs.YtekenifndicdeaaW.PrintMore
set_option linter.unusedVariables false
theorem rA {α : Type _} (l : List α) (i : Nat) (a : α) : l.toArray.setIfInBounds i a = (l.set i a).toArray := List.setIfInBounds_toArray l i a
theorem rZ {α : Type _} {x : α} {xs : List α} {a : α} : (x :: xs).set 0 a = a :: xs := rfl
theorem rS {α : Type _} {x : α} {xs : List α} {i : Nat} {a : α} : (x :: xs).set (i + 1) a = x :: xs.set i a := rfl
section
variable {P : Program} {ops : Array Oper} {Q : Exit → Act → World → Prop} {md : Region.Mode} {S : World → Prop} {ds : List Nat}
theorem rs_ {id : Nat} {a : Act} {w : World} {l : Array Bool} (n : Nat) (S : World → Prop) (ds : List Nat) (hS : S w.drew) (h : S w.drew → wpAnyLast P .any ops Q S ds n l a w.drew) (hm : P.follows .mixedOrders = true := by kernel_rfl) (hn : ops.size = n := by rfl) (hl : Array.replicate n false = l := by simp only [← List.toArray_replicate, List.replicate_succ, List.replicate_zero]; rfl) :
    (Code.region id ops true).wp P Q a w := start_ l hm hn hl hS h
theorem rp_ {oi : Oper} {v : Value} {fuel : Nat} {l l' : Array Bool} {a a' : Act} {w : World} (i : Nat) (t : Tmp) (h : wpAnyLast P md ops Q S ds fuel l' a' w) (hl : l.setIfInBounds i true = l' := by simp only [rA, rZ, rS]; rfl)
    (hi : ops[i]? = some oi := by exact rfl) (hN : oi.dst = some t := by exact rfl) (hc : anyB md ops l l' i = true := by kernel_rfl)
    (hQ : ∀ c a w, Q (.panic c) (a.put oi.dst v) w → Q (.panic c) a w := by exact fun _ _ _ h => h) (hy : Yields P ops oi v a := by (refine Or.inl ⟨by rfl, ?_⟩; intro w'; go_simp; with_reducible rfl))
    (ha : a.put (some t) v = a' := by simp only [Act.put, rA, rZ, rS]; rfl) : wpAnyLast P md ops Q S ds (fuel + 1) l a w := pure_ l' hi hN hc hQ hy ha h
theorem rt_ {oi : Oper} {v : Value} {fuel : Nat} {l l' : Array Bool} {a a' : Act} {w : World} (i : Nat) (t : Tmp) (h : wpAnyLast P md ops Q S ds fuel l' a' w) (hl : l.setIfInBounds i true = l' := by simp only [rA, rZ, rS]; rfl)
    (hi : ops[i]? = some oi := by exact rfl) (hN : oi.dst = some t := by exact rfl) (hc : takeB md ops ds l l' i = true := by kernel_rfl)
    (hQ : ∀ c a w, Q (.panic c) (a.put oi.dst v) w → Q (.panic c) a w := by exact fun _ _ _ h => h) (hy : YieldsIf P ops S oi v a := by (refine Or.inl ⟨by rfl, ?_⟩; intro w' hS_; (repeat (obtain ⟨s_, hS_⟩ := hS_)); go_simp; with_reducible rfl))
    (hS : S w := by exact hHeld) (ha : a.put (some t) v = a' := by simp only [Act.put, rA, rZ, rS]; rfl) : wpAnyLast P md ops Q S ds (fuel + 1) l a w := take_ l' hi hN hc hQ hy hS ha h
/-- A call. -/
theorem rc2_ {oi : Oper} {fuel : Nat} {l l' : Array Bool} {a : Act} {w : World} {f : FuncId} {fn : Func} {as_ : Array Operand} {ts : Array TypeId} (i : Nat) (t : Tmp) {args : Array Value} (hf : P.funcs[f]? = some fn)
    (h : Calls P f args w fun e w' => ∃ v, e = .returned v ∧ S w' ∧ (S w' → wpAnyLast P md ops Q S ds fuel l' (a.put (some t) v) w')) (hl : l.setIfInBounds i true = l' := by simp only [rA, rZ, rS]; rfl)
    (hi : ops[i]? = some oi := by exact rfl) (hN : oi.dst = some t := by exact rfl) (hop : oi.op = .call { callee := .value (.func f), args := as_, argTypes := ts } := by exact rfl) (hc : readyB md ops l l' i = true := by kernel_rfl) (hd : i ∉ ds := by decide)
    (hname : (fn.name == "runtime.NumGoroutine") = false := by kernel_rfl) (hb : fn.body.isSome = true := by rfl) (hw : Region.wanted oi (yielded ops a.tmps) = true := by rfl) (hargs : as_.map a.eval = args := by (try simp only [List.map_toArray, List.map_cons, List.map_nil]); first | done | rfl) :
    wpAnyLast P md ops Q S ds (fuel + 1) l a w :=
  one_ l' hi hN hc hd fun K hK => goes_ hf hname hb args hw hN hop hargs (h.mono fun e w' ⟨v, he, hs, hk⟩ => ⟨v, he, hK.out _ _ hs hk⟩)
/-- A call that comes last. -/
theorem re_ {oi : Oper} {fuel : Nat} {l l' : Array Bool} {a : Act} {w : World} {f : FuncId} {fn : Func} {as_ : Array Operand} {ts : Array TypeId} {N : Option Tmp} (i : Nat) {args : Array Value} (hf : P.funcs[f]? = some fn)
    (h : Calls P f args w fun e w' => ∃ v, e = .returned v ∧ wpAnyLast P md ops Q S ds fuel l' (a.put N v) w') (hl : l.setIfInBounds i true = l' := by simp only [rA, rZ, rS]; rfl)
    (hi : ops[i]? = some oi := by exact rfl) (hN : oi.dst = N := by exact rfl) (hop : oi.op = .call { callee := .value (.func f), args := as_, argTypes := ts } := by exact rfl) (hc : readyB md ops l l' i = true := by kernel_rfl) (hd : i ∈ ds := by decide)
    (hname : (fn.name == "runtime.NumGoroutine") = false := by kernel_rfl) (hb : fn.body.isSome = true := by rfl) (hw : Region.wanted oi (yielded ops a.tmps) = true := by rfl) (hargs : as_.map a.eval = args := by (try simp only [List.map_toArray, List.map_cons, List.map_nil]); first | done | rfl) :
    wpAnyLast P md ops Q S ds (fuel + 1) l a w :=
  last_ l' hi hN hc hd fun K hK => goes_ hf hname hb args hw hN hop hargs (h.mono fun e w' ⟨v, he, hk⟩ => ⟨v, he, hK.out _ _ hk⟩)
/-- The act written out. -/
theorem rn_ {fuel : Nat} {l : Array Bool} {a a' : Act} {w : World} {N : Option Tmp} {v : Value} (h : wpAnyLast P md ops Q S ds fuel l a' w) (ha : a.put N v = a' := by simp only [Act.put, rA, rZ, rS]; rfl) : wpAnyLast P md ops Q S ds fuel l (a.put N v) w := norm_ ha h
/-- The last store. -/
theorem rl_ {oi : Oper} {fuel : Nat} {l l' : Array Bool} {a : Act} {w w1 : World} (i : Nat) (h : wpAnyLast P md ops Q S ds fuel l' a w1) (hl : l.setIfInBounds i true = l' := by simp only [rA, rZ, rS]; rfl)
    (hi : ops[i]? = some oi := by exact rfl) (hN : oi.dst = none := by exact rfl) (hc : readyB md ops l l' i = true := by kernel_rfl) (hd : i ∈ ds := by decide) (hw : Region.wanted oi (yielded ops a.tmps) = true := by rfl)
    (hrun : (execOp a.eval oi).run P w = .ok .skip w1 := by go_simp; rfl) : wpAnyLast P md ops Q S ds (fuel + 1) l a w :=
  last_ (N := none) l' hi hN hc hd fun K hK => skip_ hw hN hrun (hK.out _ _ h)
/-- An operation that makes memory, alone. -/
theorem rv_ {oi : Oper} {v : Value} {fuel : Nat} {l l' : Array Bool} {a : Act} {w w1 : World} (i : Nat) (t : Tmp) (h : S w1 ∧ (S w1 → wpAnyLast P md ops Q S ds fuel l' (a.put (some t) v) w1)) (hl : l.setIfInBounds i true = l' := by simp only [rA, rZ, rS]; rfl)
    (hi : ops[i]? = some oi := by exact rfl) (hN : oi.dst = some t := by exact rfl) (hc : readyB md ops l l' i = true := by kernel_rfl) (hd : i ∉ ds := by decide) (hw : Region.wanted oi (yielded ops a.tmps) = true := by rfl)
    (hrun : (execOp a.eval oi).run P w = .ok (.value v) w1 := by go_simp; first | rfl | exact ⟨rfl, rfl⟩) : wpAnyLast P md ops Q S ds (fuel + 1) l a w :=
  one_ l' hi hN hc hd fun K hK => value_ hw hN hrun (hK.out _ _ h.1 h.2)
/-- A call, or an operation that makes memory, in either order. -/
theorem r2_ {oi oj : Oper} {v : Value} {fuel : Nat} {l li lj : Array Bool} {a : Act} {w w1 : World} {f : FuncId} {fn : Func} {as_ : Array Operand} {ts : Array TypeId} (i : Nat) (ti : Tmp) (j : Nat) (tj : Tmp) {args : Array Value} (hf : P.funcs[f]? = some fn)
    (h1 : Calls P f args w fun e w' => ∃ v, e = .returned v ∧ S w' ∧ (S w' → wpAnyLast P md ops Q S ds fuel li (a.put (some ti) v) w')) (h2 : S w1 ∧ (S w1 → wpAnyLast P md ops Q S ds fuel lj (a.put (some tj) v) w1))
    (hli : l.setIfInBounds i true = li := by simp only [rA, rZ, rS]; rfl) (hlj : l.setIfInBounds j true = lj := by simp only [rA, rZ, rS]; rfl)
    (hi : ops[i]? = some oi := by exact rfl) (hj : ops[j]? = some oj := by exact rfl) (hNi : oi.dst = some ti := by exact rfl) (hNj : oj.dst = some tj := by exact rfl) (hop : oi.op = .call { callee := .value (.func f), args := as_, argTypes := ts } := by exact rfl)
    (hc : (Region.ready md ops l == [i, j] && l.setIfInBounds i true == li && l.setIfInBounds j true == lj) = true := by kernel_rfl) (hdi : i ∉ ds := by decide) (hdj : j ∉ ds := by decide)
    (hname : (fn.name == "runtime.NumGoroutine") = false := by kernel_rfl) (hb : fn.body.isSome = true := by rfl) (hw : Region.wanted oi (yielded ops a.tmps) = true := by rfl) (hargs : as_.map a.eval = args := by (try simp only [List.map_toArray, List.map_cons, List.map_nil]); first | done | rfl)
    (hwj : Region.wanted oj (yielded ops a.tmps) = true := by rfl) (hrun : (execOp a.eval oj).run P w = .ok (.value v) w1 := by go_simp; first | rfl | exact ⟨rfl, rfl⟩) : wpAnyLast P md ops Q S ds (fuel + 1) l a w :=
  two_ li lj hi hj hNi hNj hc hdi hdj (fun K hK => goes_ hf hname hb args hw hNi hop hargs (h1.mono fun e w' ⟨v, he, hs, hk⟩ => ⟨v, he, hK.out _ _ hs hk⟩)) (fun K hK => value_ hwj hNj hrun (hK.out _ _ h2.1 h2.2))
theorem rd2_ {l : Array Bool} {a : Act} {w : World} {n : Nat} (h : Q .normal a w) (hr : (Region.ready md ops l == []) = true := by kernel_rfl) : wpAnyLast P md ops Q S ds n l a w := done_ hr h
end
end Go.Proofs.Ytekenifndicdeaa.P
