/- What the printed comparison of lists and the printed evaluation of monomials come to. -/
import Derived.Test.YtjelamodjpepkaaVfM1
import Derived.Test.YtjelamodjpepkaaVfP7
import Derived.Test.YtjelamodjpepkaaVfP2
import Derived.ProofKit
import Derived.Deep.Slices
namespace Go.Proofs.Ytjelamodjpepkaa.B
open Go.RowKit Go.Proofs.YtjelamodjpepkaaW.PrintWords Go.Proofs.YtjelamodjpepkaaW.PrintMore Go.Proofs.Ytjelamodjpepkaa.P
set_option linter.unusedVariables false

/-! ### Comparison -/
theorem same_go (a b : List Int) (ha : a.length < 9223372036854775808) : ∀ (d i : Nat), a.length - i = d → i ≤ a.length → i ≤ b.length → a.take i = b.take i →
  ∃ r : Int, Tl (fun k => r11Compare.l0 k a b (i : Int)) r ∧ (r = 0 ↔ a = b) := by
 intro d
 induction d with
 | zero =>
  intro i hd hi hb he
  have e : i = a.length := by omega
  subst e
  by_cases h1 : a.length < b.length
  ·refine ⟨-1, ?_, fun h => by simp at h, fun h => by rw [h] at h1; omega⟩
   refine Tl.step (fun k => by rw [r11Compare.l0]) ?_
   refine Tl.neg (by omega) ?_
   refine Tl.step (fun k => by rw [r11Compare.j1]) ?_
   refine Tl.neg (by simp) ?_
   refine Tl.pos (by omega) (Tl.now _)
  ·have hl : a.length = b.length := by omega
   refine ⟨0, ?_, ?_⟩
   ·refine Tl.step (fun k => by rw [r11Compare.l0]) ?_
    refine Tl.neg (by omega) ?_
    refine Tl.step (fun k => by rw [r11Compare.j1]) ?_
    refine Tl.neg (by simp) ?_
    refine Tl.neg (by omega) ?_
    refine Tl.neg (by omega) (Tl.now _)
   ·rw [List.take_of_length_le (Nat.le_refl _), List.take_of_length_le (by omega)] at he
    simp [he]
 | succ d ih =>
  intro i hd hi hb he
  by_cases h1 : i < b.length
  ·by_cases hlt : a.getD i 0 < b.getD i 0
   ·refine ⟨-1, ?_, ?_⟩
    ·refine Tl.step (fun k => by rw [r11Compare.l0]) ?_
     refine Tl.pos (by omega) ?_
     refine Tl.step (fun k => by rw [r11Compare.j1]) ?_
     refine Tl.pos (by simp; omega) ?_
     refine Tl.pos (by omega) ?_
     refine Tl.pos (by omega) ?_
     refine Tl.pos (by omega) ?_
     exact Tl.pos hlt (Tl.now _)
    ·constructor
     ·intro h; simp at h
     ·intro h; rw [h] at hlt; omega
   ·by_cases hgt : a.getD i 0 > b.getD i 0
    ·refine ⟨1, ?_, ?_⟩
     ·refine Tl.step (fun k => by rw [r11Compare.l0]) ?_
      refine Tl.pos (by omega) ?_
      refine Tl.step (fun k => by rw [r11Compare.j1]) ?_
      refine Tl.pos (by simp; omega) ?_
      refine Tl.pos (by omega) ?_
      refine Tl.pos (by omega) ?_
      refine Tl.pos (by omega) ?_
      refine Tl.neg hlt ?_
      exact Tl.pos hgt (Tl.now _)
     ·constructor
      ·intro h; simp at h
      ·intro h; rw [h] at hgt; omega
    ·have hia : i < a.length := by omega
     have e : a.getD i 0 = b.getD i 0 := by omega
     rw [List.getD_eq_getElem?_getD, List.getD_eq_getElem?_getD, List.getElem?_eq_getElem hia, List.getElem?_eq_getElem h1] at e
     simp only [Option.getD_some] at e
     obtain ⟨r, hr, hh⟩ := ih (i + 1) (by omega) (by omega) (by omega) (by rw [List.take_succ_eq_append_getElem hia, List.take_succ_eq_append_getElem h1, he, e])
     refine ⟨r, ?_, hh⟩
     refine Tl.step (fun k => by rw [r11Compare.l0]) ?_
     refine Tl.pos (by omega) ?_
     refine Tl.step (fun k => by rw [r11Compare.j1]) ?_
     refine Tl.pos (by simp; omega) ?_
     refine Tl.pos (by omega) ?_
     refine Tl.pos (by omega) ?_
     refine Tl.pos (by omega) ?_
     refine Tl.neg hlt ?_
     refine Tl.neg hgt ?_
     rw [w64s i (by omega)]
     exact hr
  ·refine ⟨1, ?_, ?_⟩
   ·refine Tl.step (fun k => by rw [r11Compare.l0]) ?_
    refine Tl.pos (by omega) ?_
    refine Tl.step (fun k => by rw [r11Compare.j1]) ?_
    refine Tl.neg (by simp; omega) ?_
    refine Tl.neg (by omega) ?_
    exact Tl.pos (by omega) (Tl.now _)
   ·constructor
    ·intro h; simp at h
    ·intro h; rw [h] at hd; omega
/-- Same tells whether two lists are equal. -/
theorem same_tl (a b : List Int) (ha : a.length < 9223372036854775808) : Tl (fun k => r11Same.f k a b) (decide (a = b)) := by
 obtain ⟨r, hr, h⟩ := same_go a b ha a.length 0 (by omega) (by omega) (by omega) (by simp)
 unfold r11Same.f r11Compare.f
 refine Tl.bind hr ?_
 refine Tl.val ?_ (Tl.now _)
 by_cases e : a = b
 ·simp [e, h.2 e]
 ·have : r ≠ 0 := fun h' => e (h.1 h')
  simp [e, this]

/-! ### Monomials at points -/
/-- A strictly ascending list of numbers above prev and below m. -/
def ascB (m : Int) : Int → List Int → Bool
 | _, [] => true
 | prev, v :: vs => decide (prev < v) && decide (v < m) && ascB m v vs
def maskOf : List Int → Nat → Nat
 | [], a => a
 | v :: vs, a => maskOf vs (a ||| 2 ^ v.toNat)
theorem maskOf_lt (m : Nat) : ∀ (vs : List Int) (a : Nat) (prev : Int), -1 ≤ prev → ascB m prev vs = true → a < 2 ^ m → maskOf vs a < 2 ^ m
 | [], a, _, _, _, h => h
 | v :: vs, a, prev, hp, ha, h => by
  simp only [ascB, Bool.and_eq_true, decide_eq_true_eq] at ha
  exact maskOf_lt m vs _ v (by omega) ha.2 (Nat.or_lt_two_pow h (Nat.pow_lt_pow_right (by decide) (by omega)))
theorem maskOf_bit (i : Nat) : ∀ (vs : List Int) (a : Nat), (∀ v ∈ vs, 0 ≤ v) → ((maskOf vs a).testBit i = true ↔ a.testBit i = true ∨ (i : Int) ∈ vs)
 | [], a, _ => by simp [maskOf]
 | v :: vs, a, h => by
  have hv := h v (by simp)
  rw [maskOf, maskOf_bit i vs _ (fun u hu => h u (by simp [hu])), Nat.testBit_or, Nat.testBit_two_pow]
  simp only [Bool.or_eq_true, decide_eq_true_eq, List.mem_cons]
  constructor
  ·rintro ((h | h) | h)
   ·exact .inl h
   ·exact .inr (.inl (by omega))
   ·exact .inr (.inr h)
  ·rintro (h | h | h)
   ·exact .inl (.inl h)
   ·exact .inl (.inr (by omega))
   ·exact .inr h
theorem asc_nonneg (m : Int) : ∀ (vs : List Int) (prev : Int), -1 ≤ prev → ascB m prev vs = true → ∀ v ∈ vs, 0 ≤ v ∧ v < m
 | [], _, _, _ => by simp
 | u :: vs, prev, hp, ha => by
  simp only [ascB, Bool.and_eq_true, decide_eq_true_eq] at ha
  intro v hv
  rcases List.mem_cons.1 hv with rfl | hv
  ·omega
  ·exact asc_nonneg m vs u (by omega) ha.2 v hv
theorem and_eq_iff (p mask : Nat) : p &&& mask = mask ↔ ∀ i, mask.testBit i = true → p.testBit i = true := by
 constructor
 ·intro h i hi
  have := congrArg (fun x => x.testBit i) h
  simp only [Nat.testBit_and, hi, Bool.and_true] at this
  exact this
 ·intro h
  apply Nat.eq_of_testBit_eq
  intro i
  rw [Nat.testBit_and]
  cases hm : mask.testBit i with
  | false => simp
  | true => simp [h i hm]
/-- The values of a monomial. -/
def evT (m : Nat) (mask : Nat) : List Int := tab (2 ^ m) (fun p => if p &&& mask = mask then 1 else 0)
def evS (m : Int) (vars : List Int) : List Int × Int :=
 if m < 0 ∨ 6 < m then ([], 6) else bif ascB m (-1) vars then (evT m.toNat (maskOf vars 0), 0) else ([], 5)

theorem drop_cons {xs : List Int} {i : Nat} (h : i < xs.length) : xs.drop i = xs.getD i 0 :: xs.drop (i + 1) := by
 rw [List.drop_eq_getElem_cons h, List.getD_eq_getElem?_getD, List.getElem?_eq_getElem h]; rfl

theorem cE_fill (mask n : Nat) (hm : mask < 64) (hn : n ≤ 64) : ∀ (d i : Nat), n - i = d → i ≤ n →
  Tl (fun k => classic_Evaluate.l1 k (mask : Int) (tab n (fun p => if p < i ∧ p &&& mask = mask then 1 else 0)) (n : Int) (i : Int)) (tab n (fun p => if p &&& mask = mask then 1 else 0), 0) := by
 intro d
 induction d with
 | zero =>
  intro i hd hi
  refine Tl.step (fun k => by rw [classic_Evaluate.l1]) ?_
  refine Tl.neg (by omega) (Tl.val ?_ (Tl.now _))
  rw [tab_congr]
  intro p hp
  exact ite_iff ⟨fun h => h.2, fun h => ⟨by omega, h⟩⟩
 | succ d ih =>
  intro i hd hi
  have hb := (bits_nat i mask (by omega) (by omega)).1
  refine Tl.step (fun k => by rw [classic_Evaluate.l1]) ?_
  refine Tl.pos (by omega) ?_
  rw [hb, w64s i (by omega)]
  by_cases e : i &&& mask = mask
  ·refine Tl.pos (by rw [e]) (Tl.pos (by omega) (Tl.pos (by simp; omega) ?_))
   have := ih (i + 1) (by omega) (by omega)
   rw [toNat_nat, tab_set _ _ (by omega)]
   rw [tab_congr (h := fun p => if p < i + 1 ∧ p &&& mask = mask then 1 else 0)]
   ·exact this
   ·intro p hp
    by_cases e2 : p = i
    ·subst e2; simp [e]
    ·rw [if_neg e2]; exact ite_iff ⟨fun h => ⟨by omega, h.2⟩, fun h => ⟨by omega, h.2⟩⟩
  ·refine Tl.neg (by omega) ?_
   have := ih (i + 1) (by omega) (by omega)
   rw [tab_congr (h := fun p => if p < i + 1 ∧ p &&& mask = mask then 1 else 0)]
   ·exact this
   ·intro p hp
    by_cases e2 : p = i
    ·subst e2; simp [e]
    ·exact ite_iff ⟨fun h => ⟨by omega, h.2⟩, fun h => ⟨by omega, h.2⟩⟩
theorem cE_go (m : Nat) (hm : m ≤ 6) (vars : List Int) (hl : vars.length < 9223372036854775808) : ∀ (d i : Nat) (a : Nat) (prev : Int), vars.length - i = d → i ≤ vars.length → -1 ≤ prev → a < 2 ^ m → (i = 0 → prev = -1) → (0 < i → prev = vars.getD (i - 1) 0) →
  Tl (fun k => classic_Evaluate.l0 k (m : Int) vars (a : Int) vars (vars.length : Int) (i : Int)) (bif ascB m prev (vars.drop i) then (evT m (maskOf (vars.drop i) a), 0) else ([], 5)) := by
 have hp : 2 ^ m ≤ 64 := Nat.pow_le_pow_right (by decide) hm
 intro d
 induction d with
 | zero =>
  intro i a prev hd hi h1 ha h0 hs
  rw [List.drop_of_length_le (by omega)]
  refine Tl.step (fun k => by rw [classic_Evaluate.l0]) ?_
  rw [shl1 m (by omega)]
  refine Tl.neg (by omega) (Tl.pos (by omega) (Tl.pos (by omega) (Tl.pos (by rw [toNat_nat]; omega) ?_)))
  refine Tl.bind1 rfl ?_
  rw [toNat_nat, tab_rep, tab_length]
  have := cE_fill a (2 ^ m) (by omega) hp (2 ^ m) 0 (by omega) (by omega)
  rw [tab_congr (h := fun _ => 0) (fun p _ => if_neg (by omega))] at this
  exact this
 | succ d ih =>
  intro i a prev hd hi h1 ha h0 hs
  have hlt : i < vars.length := by omega
  rw [drop_cons hlt]
  generalize hv : vars.getD i 0 = v
  have hr : rd vars (i : Int) = v := hv
  simp only [ascB, maskOf]
  refine Tl.step (fun k => by rw [classic_Evaluate.l0]) ?_
  rw [hr]
  refine Tl.pos (by omega) (Tl.pos (by omega) (Tl.pos (by omega) ?_))
  by_cases hneg : v < 0
  ·refine Tl.pos hneg (Tl.val ?_ (Tl.now _))
   rw [decide_eq_false (show ¬ prev < v by omega)]; rfl
  refine Tl.neg hneg ?_
  by_cases hbig : v ≥ m
  ·refine Tl.pos hbig (Tl.val ?_ (Tl.now _))
   rw [decide_eq_false (show ¬ v < (m : Int) by omega), Bool.and_false]; rfl
  refine Tl.neg hbig ?_
  obtain ⟨u, rfl⟩ := Int.eq_ofNat_of_zero_le (show 0 ≤ v by omega)
  have hu : 2 ^ u < 2 ^ m := Nat.pow_lt_pow_right (by decide) (by omega)
  have hnext : prev < (u : Int) → Tl (fun k => classic_Evaluate.l0 k (m : Int) vars (Go.bits .or .i64 (a : Int) (shl .i64 1 (u : Int))) vars (vars.length : Int) (wrap64 ((i : Int) + 1)))
    (bif ascB m (u : Int) (vars.drop (i + 1)) then (evT m (maskOf (vars.drop (i + 1)) (a ||| 2 ^ u)), 0) else ([], 5)) := by
   intro hlt2
   rw [shl1 u (by omega), (bits_nat a (2 ^ u) (by omega) (by omega)).2, w64s i (by omega)]
   exact ih (i + 1) (a ||| 2 ^ u) (u : Int) (by omega) (by omega) (by omega) (Nat.or_lt_two_pow ha hu) (by omega) (fun _ => by simpa using hv.symm)
  by_cases hi0 : i = 0
  ·subst hi0
   have := h0 rfl
   refine Tl.neg (by omega) (Tl.pos (by omega) ?_)
   refine Tl.val ?_ (hnext (by omega))
   rw [decide_eq_true (show prev < (u : Int) by omega), decide_eq_true (show (u : Int) < (m : Int) by omega)]; rfl
  ·have hw : wrap64 ((i : Int) - 1) = ((i - 1 : Nat) : Int) := by rw [w64 (by omega) (by omega)]; omega
   have hpv := hs (by omega)
   refine Tl.pos (by omega) ?_
   rw [hw, rd_nat, ← hpv]
   refine Tl.pos (by omega) (Tl.pos (by omega) ?_)
   by_cases hle : (u : Int) ≤ prev
   ·refine Tl.pos hle (Tl.val ?_ (Tl.now _))
    rw [decide_eq_false (show ¬ prev < (u : Int) by omega)]; rfl
   ·refine Tl.neg hle (Tl.pos (by omega) ?_)
    refine Tl.val ?_ (hnext (by omega))
    rw [decide_eq_true (show prev < (u : Int) by omega), decide_eq_true (show (u : Int) < (m : Int) by omega)]; rfl
theorem cE_tl (m : Int) (vars : List Int) (hl : vars.length < 9223372036854775808) : Tl (fun k => classic_Evaluate.f k m vars) (evS m vars) := by
 unfold classic_Evaluate.f evS
 by_cases h0 : m < 0
 ·refine Tl.pos h0 ?_
  refine Tl.step (fun k => by rw [classic_Evaluate.j0]) ?_
  exact Tl.pos rfl (Tl.val (by rw [if_pos (.inl h0)]) (Tl.now _))
 ·refine Tl.neg h0 ?_
  by_cases h6 : 6 < m
  ·refine Tl.step (fun k => by rw [classic_Evaluate.j0]) ?_
   exact Tl.pos (by simpa using h6) (Tl.val (by rw [if_pos (.inr h6)]) (Tl.now _))
  ·obtain ⟨n, rfl⟩ := Int.eq_ofNat_of_zero_le (show 0 ≤ m by omega)
   refine Tl.step (fun k => by rw [classic_Evaluate.j0]) ?_
   refine Tl.neg (by simp; omega) ?_
   rw [if_neg (by omega)]
   have := cE_go n (by omega) vars hl vars.length 0 0 (-1) (by omega) (by omega) (by omega) (Nat.pow_pos (by decide)) (by omega) (by omega)
   simpa using this
end Go.Proofs.Ytjelamodjpepkaa.B
/- Row operations and elimination over a field of numbers given by its operations: plain definitions. -/
namespace Go.Proofs.Ytjelamodjpepkaa.B
set_option linter.unusedVariables false

/-- The operations of a field of numbers; El: its elements. -/
structure Ops where
 El : Int → Prop
 mul : Int → Int → Int
 add : Int → Int → Int
 neg : Int → Int
 inv : Int → Int
def ElL (G : Ops) (x : List Int) : Prop := ∀ v ∈ x, G.El v
def scaleS (G : Ops) (a : Int) (x : List Int) : List Int := x.map (G.mul a)
def addToS (G : Ops) (x : List Int) (a : Int) (y : List Int) : List Int := tab x.length fun i => if y.getD i 0 = 0 then x.getD i 0 else G.add (x.getD i 0) (G.mul a (y.getD i 0))
theorem map_tab (f : Int → Int) (x : List Int) : x.map f = tab x.length fun i => f (x.getD i 0) := by
 refine tab_ext (by simp) fun p hp => ?_
 rw [List.getElem?_map, List.getD_eq_getElem?_getD, List.getElem?_eq_getElem hp]; rfl
def ent (l : List (List Int)) (i c : Nat) : Int := (l.getD i []).getD c 0
/-- The first row from i on whose entry at c is not zero. -/
def findP (l : List (List Int)) (c : Nat) : Nat → Nat → Nat
 | 0, i => i
 | d + 1, i => if ent l i c = 0 then findP l c d (i + 1) else i
def swapS (l : List (List Int)) (a k : Nat) : List (List Int) := (l.set a (l.getD k [])).set k (l.getD a [])
def pivS (G : Ops) (l : List (List Int)) (a c : Nat) : List (List Int) := if ent l a c = 1 then l else l.set a (scaleS G (G.inv (ent l a c)) (l.getD a []))
def clearS (G : Ops) (l : List (List Int)) (a c : Nat) : List (List Int) := tab l.length fun i => if i = a ∨ ent l i c = 0 then l.getD i [] else addToS G (l.getD i []) (G.neg (ent l i c)) (l.getD a [])
def elimGo (G : Ops) : Nat → Nat → Nat → List (List Int) → List Int → List (List Int) × List Int
 | 0, _, _, l, pv => (l, pv)
 | d + 1, c, a, l, pv => if a < l.length then
   (if findP l c (l.length - a) a = l.length then elimGo G d (c + 1) a l pv
   else elimGo G d (c + 1) (a + 1) (clearS G (pivS G (swapS l a (findP l c (l.length - a) a)) a c) a c) (pv ++ [(c : Int)]))
  else (l, pv)
def elimS (G : Ops) (l : List (List Int)) (cols : Nat) : List (List Int) × List Int := elimGo G cols 0 0 l []
/-- A matrix over the field, with rows of the length n. -/
def Mat (G : Ops) (n : Nat) (l : List (List Int)) : Prop := ∀ r ∈ l, r.length = n ∧ ElL G r
theorem Mat_get {G : Ops} {n : Nat} {l : List (List Int)} (h : Mat G n l) (i : Nat) (hi : i < l.length) : (l.getD i []).length = n ∧ ElL G (l.getD i []) := by
 rw [List.getD_eq_getElem?_getD, List.getElem?_eq_getElem hi]
 exact h _ (List.getElem_mem hi)
theorem Mat_set {G : Ops} {n : Nat} {l : List (List Int)} (h : Mat G n l) (i : Nat) (r : List Int) (hr : r.length = n ∧ ElL G r) : Mat G n (l.set i r) := fun x hx => by
 rcases List.mem_or_eq_of_mem_set hx with h1 | h1
 ·exact h x h1
 ·rw [h1]; exact hr
theorem findP_le (l : List (List Int)) (c : Nat) : ∀ d i, i ≤ findP l c d i ∧ findP l c d i ≤ i + d
 | 0, i => ⟨Nat.le_refl _, Nat.le_refl _⟩
 | d + 1, i => by
  unfold findP
  split
  ·have := findP_le l c d (i + 1)
   omega
  ·omega
theorem findP_ne (l : List (List Int)) (c : Nat) : ∀ d i, findP l c d i < i + d → ent l (findP l c d i) c ≠ 0
 | 0, i, h => by unfold findP at h; omega
 | d + 1, i, h => by
  unfold findP at h ⊢
  by_cases hz : ent l i c = 0
  ·rw [if_pos hz] at h ⊢
   exact findP_ne l c d (i + 1) (by omega)
  ·rw [if_neg hz]; exact hz
theorem swap_ent {l : List (List Int)} (a k c : Nat) (ha : a < l.length) (hk : k < l.length) : ent (swapS l a k) a c = ent l k c := by
 have e : (swapS l a k).getD a [] = l.getD k [] := by
  unfold swapS
  rw [List.getD_eq_getElem?_getD, List.getElem?_set, List.getElem?_set]
  by_cases e : k = a
  ·subst e; simp [ha]
  ·simp [e, ha]
 unfold ent
 rw [e]
theorem swap_len {l : List (List Int)} (a k : Nat) : (swapS l a k).length = l.length := by simp [swapS]
end Go.Proofs.Ytjelamodjpepkaa.B
/- The reference's row operations over any field whose operations are known (Ops): Copy, scale, AddTo. -/
namespace Go.Proofs.Ytjelamodjpepkaa.B
open Go.RowKit Go.Proofs.YtjelamodjpepkaaW.PrintWords Go.Proofs.YtjelamodjpepkaaW.PrintMore Go.Proofs.Ytjelamodjpepkaa.P
set_option linter.unusedVariables false

/-- The reference's operations over (P, M, Mod) are those of G. -/
structure OpsOk (P M : Int) (Mod : List Int) (G : Ops) : Prop where
 zero : G.El 0
 mulE : ∀ a b, G.El a → G.El b → G.El (G.mul a b)
 addE : ∀ a b, G.El a → G.El b → G.El (G.add a b)
 negE : ∀ a, G.El a → G.El (G.neg a)
 invE : ∀ a, G.El a → a ≠ 0 → G.El (G.inv a)
 mulT : ∀ a b, G.El a → G.El b → Tl (fun k => r04Mul.f k P M Mod a b) (G.mul a b)
 addT : ∀ a b, G.El a → G.El b → Tl (fun k => r04Add.f k P M Mod a b) (G.add a b)
 negT : ∀ a, G.El a → Tl (fun k => r04Neg.f k P M Mod a) (G.neg a)
 invT : ∀ a, G.El a → a ≠ 0 → Tl (fun k => r04Inv.f k P M Mod a) (G.inv a)
theorem ElL_get {P M : Int} {Mod : List Int} {G : Ops} (h : OpsOk P M Mod G) {x : List Int} (hx : ElL G x) (i : Nat) : G.El (x.getD i 0) := by
 rw [List.getD_eq_getElem?_getD]
 by_cases hi : i < x.length
 ·rw [List.getElem?_eq_getElem hi]; exact hx _ (List.getElem_mem hi)
 ·rw [List.getElem?_eq_none (by omega)]; exact h.zero
section
variable {P M : Int} {Mod : List Int} {G : Ops}
theorem scale_tl (h : OpsOk P M Mod G) (a : Int) (ha : G.El a) (x : List Int) (hx : ElL G x) (hl : x.length < 1000000) : Tl (fun k => r09scale.f k P M Mod a x) (scaleS G a x) := by
 have H : ∀ (d i : Nat), x.length - i = d → i ≤ x.length → Tl (fun k => r09scale.l0 k a x (tab x.length fun p => if p < i then G.mul a (x.getD p 0) else 0) (i : Int) P M Mod) (scaleS G a x) := by
  intro d
  induction d with
  | zero =>
   intro i hd hi
   refine Tl.step (fun k => by rw [r09scale.l0]) ?_
   refine Tl.neg (by omega) (Tl.val ?_ (Tl.now _))
   unfold scaleS
   rw [map_tab]
   exact tab_congr fun p hp => if_pos (by omega)
  | succ d ih =>
   intro i hd hi
   have hnext := ih (i + 1) (by omega) (by omega)
   refine Tl.step (fun k => by rw [r09scale.l0]) ?_
   refine Tl.pos (by omega) (Tl.pos (by omega) ?_)
   rw [rd_nat]
   refine Tl.bind (h.mulT a _ ha (ElL_get h hx i)) (Tl.pos (by simp; omega) ?_)
   rw [toNat_nat, tab_set _ _ (by omega), w64s i (by omega)]
   rw [tab_congr (h := fun p => if p < i + 1 then G.mul a (x.getD p 0) else 0)]
   ·exact hnext
   ·intro p hp
    by_cases e2 : p = i
    ·subst e2; rw [if_pos rfl, if_pos (by omega)]
    ·rw [if_neg e2]; exact ite_iff ⟨fun h => by omega, fun h => by omega⟩
 unfold r09scale.f
 refine Tl.pos (Int.natCast_nonneg _) (Tl.pos (by rw [toNat_nat]; omega) ?_)
 rw [toNat_nat, tab_rep]
 have := H _ 0 rfl (Nat.zero_le _)
 rw [tab_congr (h := fun _ => 0) (fun p _ => if_neg (by omega))] at this
 exact this
theorem addTo_tl (h : OpsOk P M Mod G) (a : Int) (ha : G.El a) (x y : List Int) (hx : ElL G x) (hy : ElL G y) (hxy : x.length ≤ y.length) (hl : x.length < 1000000) : Tl (fun k => r09AddTo.f k P M Mod x a y) (addToS G x a y) := by
 have H : ∀ (d i : Nat), x.length - i = d → i ≤ x.length → Tl (fun k => r09AddTo.l0 k x a y (tab x.length fun p => if p < i then (if y.getD p 0 = 0 then x.getD p 0 else G.add (x.getD p 0) (G.mul a (y.getD p 0))) else 0) (i : Int) P M Mod) (addToS G x a y) := by
  intro d
  induction d with
  | zero =>
   intro i hd hi
   refine Tl.step (fun k => by rw [r09AddTo.l0]) ?_
   refine Tl.neg (by omega) (Tl.val ?_ (Tl.now _))
   exact tab_congr fun p hp => if_pos (by omega)
  | succ d ih =>
   intro i hd hi
   have hnext := ih (i + 1) (by omega) (by omega)
   have hxi := ElL_get h hx i
   have hyi := ElL_get h hy i
   refine Tl.step (fun k => by rw [r09AddTo.l0]) ?_
   refine Tl.pos (by omega) (Tl.pos (by omega) (Tl.pos (by simp; omega) (Tl.bind1 rfl (Tl.pos (by omega) ?_))))
   rw [rd_nat, rd_nat, toNat_nat, w64s i (by omega), tab_set _ _ (by omega)]
   by_cases hz : y.getD i 0 = 0
   ·refine Tl.pos hz ?_
    rw [tab_congr (h := fun p => if p < i + 1 then (if y.getD p 0 = 0 then x.getD p 0 else G.add (x.getD p 0) (G.mul a (y.getD p 0))) else 0)]
    ·exact hnext
    ·intro p hp
     by_cases e2 : p = i
     ·subst e2; rw [if_pos rfl, if_pos (by omega), if_pos hz]
     ·rw [if_neg e2]; exact ite_iff ⟨fun h => by omega, fun h => by omega⟩
   ·refine Tl.neg hz (Tl.bind (h.mulT a _ ha hyi) (Tl.bind (h.addT _ _ hxi (h.mulE _ _ ha hyi)) ?_))
    rw [tab_set _ _ (by omega), tab_congr (h := fun p => if p < i + 1 then (if y.getD p 0 = 0 then x.getD p 0 else G.add (x.getD p 0) (G.mul a (y.getD p 0))) else 0)]
    ·exact hnext
    ·intro p hp
     by_cases e2 : p = i
     ·subst e2; rw [if_pos rfl, if_pos (by omega), if_neg hz]
     ·rw [if_neg e2, if_neg e2]; exact ite_iff ⟨fun h => by omega, fun h => by omega⟩
 unfold r09AddTo.f
 refine Tl.pos (Int.natCast_nonneg _) (Tl.pos (by rw [toNat_nat]; omega) ?_)
 rw [toNat_nat, tab_rep]
 have := H _ 0 rfl (Nat.zero_le _)
 rw [tab_congr (h := fun _ => 0) (fun p _ => if_neg (by omega))] at this
 exact this
theorem copy_tl (x : List (List Int)) (hl : x.length < 1000000) (hx : ∀ r ∈ x, r.length < 1000000) : Tl (fun k => r09Copy.f k x) x := by
 have H : ∀ (d i : Nat), x.length - i = d → i ≤ x.length → Tl (fun k => r09Copy.l0 k x (x.take i) (i : Int)) x := by
  intro d
  induction d with
  | zero =>
   intro i hd hi
   rw [List.take_of_length_le (by omega)]
   refine Tl.step (fun k => by rw [r09Copy.l0]) ?_
   exact Tl.neg (by omega) (Tl.now _)
  | succ d ih =>
   intro i hd hi
   have hlt : i < x.length := by omega
   have hnext := ih (i + 1) (by omega) (by omega)
   have hr : rd_L1 x (i : Int) = x[i] := by simp [rd_L1, hlt]
   have hrl := hx _ (List.getElem_mem hlt)
   refine Tl.step (fun k => by rw [r09Copy.l0]) ?_
   rw [hr, w64s i (by omega)]
   refine Tl.pos (by omega) (Tl.bind1 rfl (Tl.pos (by omega) (Tl.pos (by simp; omega) (Tl.pos (by simp; omega) ?_))))
   rw [List.nil_append]
   rw [List.take_add_one, List.getElem?_eq_getElem hlt] at hnext
   exact hnext
 unfold r09Copy.f
 simpa using H _ 0 rfl (Nat.zero_le _)
end
end Go.Proofs.Ytjelamodjpepkaa.B
/- What the reference's Eliminate computes, over any field whose operations are known. -/
namespace Go.Proofs.Ytjelamodjpepkaa.B
open Go.RowKit Go.Proofs.YtjelamodjpepkaaW.PrintWords Go.Proofs.YtjelamodjpepkaaW.PrintMore Go.Proofs.Ytjelamodjpepkaa.P
set_option linter.unusedVariables false

section
variable {P M : Int} {Mod : List Int} {G : Ops}
theorem scaleS_ok (h : OpsOk P M Mod G) {n : Nat} (a : Int) (ha : G.El a) {x : List Int} (hx : x.length = n ∧ ElL G x) : (scaleS G a x).length = n ∧ ElL G (scaleS G a x) := by
 unfold scaleS
 refine ⟨by simp [hx.1], fun v hv => ?_⟩
 obtain ⟨u, hu, rfl⟩ := List.mem_map.1 hv
 exact h.mulE _ _ ha (hx.2 _ hu)
theorem addToS_ok (h : OpsOk P M Mod G) {n : Nat} (a : Int) (ha : G.El a) {x y : List Int} (hx : x.length = n ∧ ElL G x) (hy : ElL G y) : (addToS G x a y).length = n ∧ ElL G (addToS G x a y) := by
 unfold addToS
 refine ⟨by simp [hx.1], fun v hv => ?_⟩
 obtain ⟨i, hi, rfl⟩ := List.mem_map.1 hv
 show G.El (if y.getD i 0 = 0 then _ else _)
 split
 ·exact ElL_get h hx.2 i
 ·exact h.addE _ _ (ElL_get h hx.2 i) (h.mulE _ _ ha (ElL_get h hy i))
theorem swapS_ok {n : Nat} {l : List (List Int)} (hl : Mat G n l) (a k : Nat) (ha : a < l.length) (hk : k < l.length) : Mat G n (swapS l a k) := Mat_set (Mat_set hl a _ (Mat_get hl k hk)) k _ (Mat_get hl a ha)
theorem ent_el (h : OpsOk P M Mod G) {n : Nat} {l : List (List Int)} (hl : Mat G n l) (i c : Nat) (hi : i < l.length) : G.El (ent l i c) := ElL_get h (Mat_get hl i hi).2 c
theorem pivS_ok (h : OpsOk P M Mod G) {n : Nat} {l : List (List Int)} (hl : Mat G n l) (a c : Nat) (ha : a < l.length) (hz : ent l a c ≠ 0) : Mat G n (pivS G l a c) ∧ (pivS G l a c).length = l.length := by
 unfold pivS
 split
 ·exact ⟨hl, rfl⟩
 ·exact ⟨Mat_set hl a _ (scaleS_ok h _ (h.invE _ (ent_el h hl a c ha) hz) (Mat_get hl a ha)), by simp⟩
theorem clearS_ok (h : OpsOk P M Mod G) {n : Nat} {l : List (List Int)} (hl : Mat G n l) (a c : Nat) (ha : a < l.length) : Mat G n (clearS G l a c) ∧ (clearS G l a c).length = l.length := by
 unfold clearS
 refine ⟨fun r hr => ?_, by simp⟩
 obtain ⟨i, hi, rfl⟩ := List.mem_map.1 hr
 have hi2 : i < l.length := by simpa using hi
 by_cases hi3 : i = a ∨ ent l i c = 0
 ·simp only [if_pos hi3]
  exact Mat_get hl i hi2
 ·simp only [if_neg hi3]
  exact addToS_ok h _ (h.negE _ (ent_el h hl i c hi2)) (Mat_get hl i hi2) (Mat_get hl a ha).2
theorem rdL_nat (l : List (List Int)) (i : Nat) : rd_L1 l (i : Int) = l.getD i [] := rfl
/-- The clearing of a column. -/
theorem clear_go (h : OpsOk P M Mod G) (cols n : Nat) (hn : n < 1000000) (l : List (List Int)) (hl : Mat G n l) (hll : l.length < 1000000) (a c : Nat) (ha : a < l.length) (hc : c < n) (pv : List Int) (hpv : pv.length < 1000000) (R : List (List Int) × List Int)
  (hk : Tl (fun k => r09Eliminate.l0 k (cols : Int) (clearS G l a c) (pv ++ [(c : Int)]) ((a + 1 : Nat) : Int) ((c + 1 : Nat) : Int) P M Mod) R) :
  ∀ (d i : Nat), l.length - i = d → i ≤ l.length → Tl (fun k => r09Eliminate.l2 k (cols : Int) (tab l.length fun j => if j < i then (clearS G l a c).getD j [] else l.getD j []) pv (a : Int) (c : Int) (i : Int) P M Mod) R := by
 have hcg : ∀ j, j < l.length → (clearS G l a c).getD j [] = if j = a ∨ ent l j c = 0 then l.getD j [] else addToS G (l.getD j []) (G.neg (ent l j c)) (l.getD a []) := fun j hj => tab_getD j [] hj
 intro d
 induction d with
 | zero =>
  intro i hd hi
  refine Tl.step (fun k => by rw [r09Eliminate.l2]) ?_
  rw [w64s a (by omega), w64s c (by omega)]
  have e : (tab l.length fun j => if j < i then (clearS G l a c).getD j [] else l.getD j []) = clearS G l a c := by
   rw [tab_congr (h := fun j => if j = a ∨ ent l j c = 0 then l.getD j [] else addToS G (l.getD j []) (G.neg (ent l j c)) (l.getD a []))]
   ·rfl
   ·intro j hj
    rw [if_pos (by omega), hcg j hj]
  rw [e]
  refine Tl.neg (by rw [(clearS_ok h hl a c ha).2]; omega) (Tl.pos (by omega) hk)
 | succ d ih =>
  intro i hd hi
  have hlt : i < l.length := by omega
  have hnext := ih (i + 1) (by omega) (by omega)
  have hrow : (tab l.length fun j => if j < i then (clearS G l a c).getD j [] else l.getD j []).getD i [] = l.getD i [] := by rw [tab_getD i [] hlt, if_neg (by omega)]
  have hrowa : (tab l.length fun j => if j < i then (clearS G l a c).getD j [] else l.getD j []).getD a [] = l.getD a [] := by
   rw [tab_getD a [] ha]
   split
   ·rw [hcg a ha, if_pos (.inl rfl)]
   ·rfl
  have hM := Mat_get hl i hlt
  have hMa := Mat_get hl a ha
  have hsame : i = a ∨ ent l i c = 0 → (tab l.length fun j => if j < i + 1 then (clearS G l a c).getD j [] else l.getD j []) = tab l.length fun j => if j < i then (clearS G l a c).getD j [] else l.getD j [] := fun hia => tab_congr fun j hj => by
   by_cases e2 : j = i
   ·subst e2; rw [if_pos (by omega), if_neg (by omega), hcg j hj, if_pos hia]
   ·exact ite_iff ⟨fun h => by omega, fun h => by omega⟩
  have hfalse : i = a ∨ ent l i c = 0 → Tl (fun k => r09Eliminate.j6 k (cols : Int) (tab l.length fun j => if j < i then (clearS G l a c).getD j [] else l.getD j []) pv (a : Int) (c : Int) (i : Int) false P M Mod) R := fun hia => by
   refine Tl.step (fun k => by rw [r09Eliminate.j6]) ?_
   rw [w64s i (by omega)]
   rw [hsame hia] at hnext
   exact Tl.neg (by decide) hnext
  refine Tl.step (fun k => by rw [r09Eliminate.l2]) ?_
  refine Tl.pos (by simp; omega) ?_
  by_cases hia : i = a
  ·exact Tl.pos (by omega) (hfalse (.inl hia))
  ·refine Tl.neg (by omega) (Tl.pos (by omega) (Tl.pos (by omega) (Tl.pos (by rw [rdL_nat, hrow, hM.1]; omega) ?_)))
   rw [rdL_nat, hrow, rd_nat]
   by_cases hz : ent l i c = 0
   ·rw [show ((l.getD i []).getD c 0 != 0) = false from bne_eq_false_iff_eq.2 hz]
    exact hfalse (.inr hz)
   ·rw [show ((l.getD i []).getD c 0 != 0) = true from bne_iff_ne.2 hz]
    refine Tl.step (fun k => by rw [r09Eliminate.j6]) ?_
    rw [rdL_nat, rdL_nat, hrow, hrowa, rd_nat, w64s i (by omega)]
    refine Tl.pos rfl (Tl.pos (by omega) (Tl.pos (by simp; omega) (Tl.pos (by omega) (Tl.pos (by rw [hM.1]; omega) (Tl.bind (h.negT _ (ent_el h hl i c hlt)) (Tl.pos (by omega) (Tl.pos (by simp; omega) (Tl.bind (addTo_tl h _ (h.negE _ (ent_el h hl i c hlt)) _ _ hM.2 hMa.2 (by rw [hM.1, hMa.1]; omega) (by rw [hM.1]; omega)) ?_))))))))
    rw [toNat_nat, tab_set _ _ hlt, tab_congr (h := fun j => if j < i + 1 then (clearS G l a c).getD j [] else l.getD j [])]
    ·exact hnext
    ·intro j hj
     by_cases e2 : j = i
     ·subst e2; rw [if_pos rfl, if_pos (by omega), hcg j hj, if_neg (by intro h; rcases h with h | h; exact hia h; exact hz h)]
     ·rw [if_neg e2]; exact ite_iff ⟨fun h => by omega, fun h => by omega⟩
end
end Go.Proofs.Ytjelamodjpepkaa.B
/- What the reference's Eliminate computes: the whole. -/
namespace Go.Proofs.Ytjelamodjpepkaa.B
open Go.RowKit Go.Proofs.YtjelamodjpepkaaW.PrintWords Go.Proofs.YtjelamodjpepkaaW.PrintMore Go.Proofs.Ytjelamodjpepkaa.P
set_option linter.unusedVariables false
section
variable {P M : Int} {Mod : List Int} {G : Ops}
theorem tab_rows (l : List (List Int)) : tab l.length (fun j => l.getD j []) = l := by
 refine (tab_ext rfl fun p hp => ?_).symm
 rw [List.getD_eq_getElem?_getD, List.getElem?_eq_getElem hp]; rfl
theorem find_go (cols n : Nat) (hn : n < 1000000) (l : List (List Int)) (hl : Mat G n l) (hll : l.length < 1000000) (a c : Nat) (hc : c < n) (pv : List Int) (R : List (List Int) × List Int) :
  ∀ (d i : Nat), l.length - i = d → i ≤ l.length → Tl (fun k => r09Eliminate.j3 k (cols : Int) l pv (a : Int) (c : Int) ((findP l c d i : Nat) : Int) P M Mod) R → Tl (fun k => r09Eliminate.l1 k (cols : Int) l pv (a : Int) (c : Int) (i : Int) P M Mod) R := by
 intro d
 induction d with
 | zero =>
  intro i hd hi hk
  refine Tl.step (fun k => by rw [r09Eliminate.l1]) ?_
  exact Tl.neg (by omega) hk
 | succ d ih =>
  intro i hd hi hk
  have hlt : i < l.length := by omega
  have hM := Mat_get hl i hlt
  refine Tl.step (fun k => by rw [r09Eliminate.l1]) ?_
  refine Tl.pos (by omega) (Tl.pos (by omega) (Tl.pos (by omega) (Tl.pos (by rw [rdL_nat, hM.1]; omega) ?_)))
  rw [rdL_nat, rd_nat, w64s i (by omega)]
  unfold findP at hk
  by_cases hz : ent l i c = 0
  ·rw [if_pos hz] at hk
   exact Tl.pos hz (ih (i + 1) (by omega) (by omega) hk)
  ·rw [if_neg hz] at hk
   exact Tl.neg hz hk
theorem elim_go (h : OpsOk P M Mod G) (cols n : Nat) (hn : n < 1000000) (hcn : cols ≤ n) : ∀ (d c a : Nat) (l : List (List Int)) (pv : List Int), cols - c = d → c ≤ cols → Mat G n l → l.length < 1000000 → pv.length ≤ c →
   Tl (fun k => r09Eliminate.l0 k (cols : Int) l pv (a : Int) (c : Int) P M Mod) (elimGo G d c a l pv) := by
 intro d
 induction d with
 | zero =>
  intro c a l pv hd hc hl hll hpv
  refine Tl.step (fun k => by rw [r09Eliminate.l0]) ?_
  refine Tl.neg (by omega) ?_
  refine Tl.step (fun k => by rw [r09Eliminate.j1]) ?_
  exact Tl.neg (by decide) (Tl.now _)
 | succ d ih =>
  intro c a l pv hd hc hl hll hpv
  unfold elimGo
  refine Tl.step (fun k => by rw [r09Eliminate.l0]) ?_
  refine Tl.pos (by omega) ?_
  by_cases ha : a < l.length
  ·rw [if_pos ha, decide_eq_true (show (a : Int) < (l.length : Int) by omega)]
   refine Tl.step (fun k => by rw [r09Eliminate.j1]) ?_
   refine Tl.pos rfl (find_go cols n hn l hl hll a c (by omega) pv _ _ a rfl (by omega) ?_)
   have hfl := findP_le l c (l.length - a) a
   refine Tl.step (fun k => by rw [r09Eliminate.j3]) ?_
   by_cases hk : findP l c (l.length - a) a = l.length
   ·rw [if_pos hk]
    refine Tl.pos (by omega) ?_
    rw [w64s c (by omega)]
    exact ih (c + 1) a l pv (by omega) (by omega) hl hll (by omega)
   ·rw [if_neg hk]
    have hne := findP_ne l c (l.length - a) a (by omega)
    generalize findP l c (l.length - a) a = q at hk hne hfl
    have hq : q < l.length := by omega
    have hS := swapS_ok hl a q ha hq
    have hSl : (swapS l a q).length = l.length := swap_len a q
    have hSe : ent (swapS l a q) a c ≠ 0 := by rw [swap_ent a q c ha hq]; exact hne
    have haS : a < (swapS l a q).length := by omega
    have hP := pivS_ok h hS a c haS hSe
    have hC := clearS_ok h hP.1 a c (by omega)
    have hMa := Mat_get hS a haS
    have hj4 : Tl (fun k => r09Eliminate.j4 k (cols : Int) (pivS G (swapS l a q) a c) pv (a : Int) (c : Int) P M Mod) (elimGo G d (c + 1) (a + 1) (clearS G (pivS G (swapS l a q) a c) a c) (pv ++ [(c : Int)])) := by
     refine Tl.step (fun k => by rw [r09Eliminate.j4]) ?_
     have hcl := clear_go h cols n hn (pivS G (swapS l a q) a c) hP.1 (by omega) a c (by omega) (by omega) pv (by omega) _ (ih (c + 1) (a + 1) _ (pv ++ [(c : Int)]) (by omega) (by omega) hC.1 (by omega) (by simp; omega)) _ 0 rfl (Nat.zero_le _)
     rw [tab_congr (h := fun j => (pivS G (swapS l a q) a c).getD j []) (fun j _ => if_neg (by omega)), tab_rows] at hcl
     exact hcl
    refine Tl.neg (by omega) (Tl.pos (by omega) (Tl.pos (by omega) (Tl.pos (by omega) (Tl.pos (by omega) (Tl.bind1 (a := swapS l a q) rfl ?_)))))
    rw [rdL_nat, rd_nat]
    refine Tl.pos (by omega) (Tl.pos (by rw [hMa.1]; omega) ?_)
    by_cases h1 : ent (swapS l a q) a c = 1
    ·have e : pivS G (swapS l a q) a c = swapS l a q := if_pos h1
     rw [e] at hj4 ⊢
     exact Tl.pos h1 hj4
    ·have e : pivS G (swapS l a q) a c = (swapS l a q).set a (scaleS G (G.inv (ent (swapS l a q) a c)) ((swapS l a q).getD a [])) := if_neg h1
     rw [e] at hj4 ⊢
     have hel := ent_el h hS a c haS
     exact Tl.neg h1 (Tl.bind (h.invT _ hel hSe) (Tl.bind (scale_tl h _ (h.invE _ hel hSe) _ hMa.2 (by rw [hMa.1]; omega)) hj4))
  ·rw [if_neg ha, decide_eq_false (show ¬ (a : Int) < (l.length : Int) by omega)]
   refine Tl.step (fun k => by rw [r09Eliminate.j1]) ?_
   exact Tl.neg (by decide) (Tl.now _)
theorem elim_tl (h : OpsOk P M Mod G) (cols n : Nat) (hn : n < 1000000) (hcn : cols ≤ n) (l : List (List Int)) (hl : Mat G n l) (hll : l.length < 1000000) : Tl (fun k => r09Eliminate.f k P M Mod l (cols : Int)) (elimS G l cols) := by
 unfold r09Eliminate.f elimS
 exact Tl.bind (copy_tl l hll fun r hr => by rw [(hl r hr).1]; exact hn) (elim_go h cols n hn hcn _ 0 0 l [] rfl (Nat.zero_le _) hl hll (Nat.le_refl _))
/-- What is kept by the row operations holds of all rows that Eliminate leaves. -/
theorem elimGo_keeps (h : OpsOk P M Mod G) (n : Nat) (Q : List Int → Prop) (hscale : ∀ a x, G.El a → x.length = n → ElL G x → Q x → Q (scaleS G a x)) (hadd : ∀ a x y, G.El a → x.length = n → y.length = n → ElL G x → ElL G y → Q x → Q y → Q (addToS G x a y)) (cols : Nat) :
  ∀ (d c a : Nat) (l : List (List Int)) (pv : List Int), Mat G n l → (∀ r ∈ l, Q r) → pv.length ≤ a → a ≤ l.length → Mat G n (elimGo G d c a l pv).1 ∧ (∀ r ∈ (elimGo G d c a l pv).1, Q r) ∧ (elimGo G d c a l pv).1.length = l.length ∧ (elimGo G d c a l pv).2.length ≤ l.length := by
 intro d
 induction d with
 | zero => intro c a l pv hl hq hp ha; exact ⟨hl, hq, rfl, by show pv.length ≤ _; omega⟩
 | succ d ih =>
  intro c a l pv hl hq hp ha0
  unfold elimGo
  by_cases ha : a < l.length
  ·rw [if_pos ha]
   by_cases hk : findP l c (l.length - a) a = l.length
   ·rw [if_pos hk]; exact ih _ _ _ _ hl hq hp ha0
   ·rw [if_neg hk]
    have hfl := findP_le l c (l.length - a) a
    have hne := findP_ne l c (l.length - a) a (by omega)
    generalize findP l c (l.length - a) a = q at hk hne hfl
    have hq2 : q < l.length := by omega
    have hget : ∀ {l' : List (List Int)}, (∀ r ∈ l', Q r) → ∀ i, i < l'.length → Q (l'.getD i []) := fun {l'} hQ i hi => by
     rw [List.getD_eq_getElem?_getD, List.getElem?_eq_getElem hi]; exact hQ _ (List.getElem_mem hi)
    have hset : ∀ {l' : List (List Int)}, (∀ r ∈ l', Q r) → ∀ i x, Q x → ∀ r ∈ l'.set i x, Q r := fun {l'} hQ i x hx r hr => by
     rcases List.mem_or_eq_of_mem_set hr with h1 | h1
     ·exact hQ r h1
     ·rw [h1]; exact hx
    have hS := swapS_ok hl a q ha hq2
    have hSl : (swapS l a q).length = l.length := swap_len a q
    have hSe : ent (swapS l a q) a c ≠ 0 := by rw [swap_ent a q c ha hq2]; exact hne
    have hSQ : ∀ r ∈ swapS l a q, Q r := hset (hset hq a _ (hget hq q hq2)) q _ (hget hq a ha)
    have hP := pivS_ok h hS a c (by omega) hSe
    have hPQ : ∀ r ∈ pivS G (swapS l a q) a c, Q r := by
     unfold pivS
     split
     ·exact hSQ
     ·exact hset hSQ a _ (hscale _ _ (h.invE _ (ent_el h hS a c (by omega)) hSe) (Mat_get hS a (by omega)).1 (Mat_get hS a (by omega)).2 (hget hSQ a (by omega)))
    have hC := clearS_ok h hP.1 a c (by omega)
    have hCQ : ∀ r ∈ clearS G (pivS G (swapS l a q) a c) a c, Q r := by
     intro r hr
     unfold clearS at hr
     obtain ⟨i, hi, rfl⟩ := List.mem_map.1 hr
     have hi2 : i < (pivS G (swapS l a q) a c).length := by simpa using hi
     have ha2 : a < (pivS G (swapS l a q) a c).length := by omega
     by_cases hi3 : i = a ∨ ent (pivS G (swapS l a q) a c) i c = 0
     ·simp only [if_pos hi3]; exact hget hPQ i hi2
     ·simp only [if_neg hi3]
      exact hadd _ _ _ (h.negE _ (ent_el h hP.1 i c hi2)) (Mat_get hP.1 i hi2).1 (Mat_get hP.1 a ha2).1 (Mat_get hP.1 i hi2).2 (Mat_get hP.1 a ha2).2 (hget hPQ i hi2) (hget hPQ a ha2)
    obtain ⟨r1, r2, r3, r4⟩ := ih (c + 1) (a + 1) _ (pv ++ [(c : Int)]) hC.1 hCQ (by simp; omega) (by omega)
    exact ⟨r1, r2, by omega, by omega⟩
  ·rw [if_neg ha]; exact ⟨hl, hq, rfl, by show pv.length ≤ _; omega⟩
end
end Go.Proofs.Ytjelamodjpepkaa.B
/- What the reference's evaluation of monomials, the checks of words, and the votes come to. -/
namespace Go.Proofs.Ytjelamodjpepkaa.B
open Go.RowKit Go.Proofs.YtjelamodjpepkaaW.PrintWords Go.Proofs.YtjelamodjpepkaaW.PrintMore Go.Proofs.Ytjelamodjpepkaa.P
set_option linter.unusedVariables false

/-! ### IsSubset -/
theorem sub_go (m : Int) (vars : List Int) (hl : vars.length < 9223372036854775808) : ∀ (d i : Nat) (prev : Int), vars.length - i = d → i ≤ vars.length → -1 ≤ prev → (i = 0 → prev = -1) → (0 < i → prev = vars.getD (i - 1) 0) →
  Tl (fun k => r11IsSubset.l0 k m vars (i : Int)) (ascB m prev (vars.drop i)) := by
 intro d
 induction d with
 | zero =>
  intro i prev hd hi h1 h0 hs
  rw [List.drop_of_length_le (by omega)]
  refine Tl.step (fun k => by rw [r11IsSubset.l0]) ?_
  exact Tl.neg (by omega) (Tl.now _)
 | succ d ih =>
  intro i prev hd hi h1 h0 hs
  have hlt : i < vars.length := by omega
  rw [drop_cons hlt]
  generalize hv : vars.getD i 0 = v
  have hr : rd vars (i : Int) = v := hv
  simp only [ascB]
  refine Tl.step (fun k => by rw [r11IsSubset.l0]) ?_
  rw [hr]
  refine Tl.pos (by omega) (Tl.pos (by omega) ?_)
  by_cases hneg : v < 0
  ·refine Tl.pos hneg ?_
   refine Tl.step (fun k => by rw [r11IsSubset.j1]) ?_
   refine Tl.pos rfl (Tl.val ?_ (Tl.now _))
   rw [decide_eq_false (show ¬ prev < v by omega)]; rfl
  refine Tl.neg hneg ?_
  refine Tl.step (fun k => by rw [r11IsSubset.j1]) ?_
  by_cases hbig : v ≥ m
  ·refine Tl.pos (by simpa using hbig) (Tl.val ?_ (Tl.now _))
   rw [decide_eq_false (show ¬ v < m by omega), Bool.and_false]; rfl
  refine Tl.neg (by simpa using hbig) ?_
  by_cases hi0 : i = 0
  ·subst hi0
   have := h0 rfl
   refine Tl.neg (by omega) ?_
   rw [w64s 0 (by omega), decide_eq_true (show prev < v by omega), decide_eq_true (show v < m by omega)]
   exact ih 1 v (by omega) (by omega) (by omega) (by omega) (fun _ => by simpa using hv.symm)
  ·have hw : wrap64 ((i : Int) - 1) = ((i - 1 : Nat) : Int) := by rw [w64 (by omega) (by omega)]; omega
   have hpv := hs (by omega)
   rw [hw, hr, rd_nat, ← hpv]
   refine Tl.pos (by omega) (Tl.pos (by omega) (Tl.pos (by omega) (Tl.pos (by omega) (Tl.pos (by omega) ?_))))
   by_cases hle : v ≤ prev
   ·refine Tl.pos hle (Tl.val ?_ (Tl.now _))
    rw [decide_eq_false (show ¬ prev < v by omega)]; rfl
   ·refine Tl.neg hle ?_
    rw [w64s i (by omega), decide_eq_true (show prev < v by omega), decide_eq_true (show v < m by omega)]
    exact ih (i + 1) v (by omega) (by omega) (by omega) (by omega) (fun _ => by simpa using hv.symm)
theorem sub_tl (m : Int) (vars : List Int) (hl : vars.length < 9223372036854775808) : Tl (fun k => r11IsSubset.f k m vars) (ascB m (-1) vars) := by
 unfold r11IsSubset.f
 exact sub_go m vars hl _ 0 (-1) rfl (by omega) (by omega) (by omega) (by omega)

/-! ### The reference's Evaluate -/
/-- The value of a monomial at a point. -/
def evP (vars : List Int) (p : Nat) : Int := if ∀ v ∈ vars, p.testBit v.toNat = true then 1 else 0
theorem shr_bit (p v : Nat) (hp : p < 64) (hv : v < 64) : Go.bits .and .i64 (shr .i64 (p : Int) (v : Int)) 1 = ((p.testBit v).toNat : Int) := by
 have h : ∀ p, p < 64 → ∀ v, v < 64 → Go.bits .and .i64 (shr .i64 ((p : Nat) : Int) ((v : Nat) : Int)) 1 = ((p.testBit v).toNat : Int) := by decide +kernel
 exact h p hp v hv

theorem rE_in (vars : List Int) (hl : vars.length < 9223372036854775808) (hv : ∀ v ∈ vars, 0 ≤ v ∧ v < 6) (n q : Nat) (hn : n ≤ 64) (hq : q < n) (R : List Int × Int) (g : Nat → Int)
  (hnext : ∀ c : Int, c = evP vars q → Tl (fun k => r15Evaluate.l0 k vars (tab n (fun p => if p = q then c else g p)) ((q : Int) + 1)) R) :
  ∀ (d i : Nat) (c : Int), vars.length - i = d → i ≤ vars.length → c = evP (vars.take i) q → 
  Tl (fun k => r15Evaluate.l1 k vars (tab n (fun p => if p = q then c else g p)) (q : Int) (i : Int)) R := by
 intro d
 induction d with
 | zero =>
  intro i c hd hi hc
  rw [List.take_of_length_le (by omega)] at hc
  refine Tl.step (fun k => by rw [r15Evaluate.l1]) ?_
  refine Tl.neg (by omega) ?_
  rw [w64 (by omega) (by omega)]
  exact hnext c hc
 | succ d ih =>
  intro i c hd hi hc
  have hlt : i < vars.length := by omega
  have hmem := hv _ (List.getElem_mem hlt)
  obtain ⟨u, hu⟩ := Int.eq_ofNat_of_zero_le hmem.1
  have hr : rd vars (i : Int) = (u : Int) := by rw [rd_nat, List.getD_eq_getElem?_getD, List.getElem?_eq_getElem hlt]; exact hu
  have ht : vars.take (i + 1) = vars.take i ++ [(u : Int)] := by rw [List.take_succ_eq_append_getElem hlt, hu]
  refine Tl.step (fun k => by rw [r15Evaluate.l1]) ?_
  rw [hr, u64 (by omega) (by omega), shr_bit q u (by omega) (by omega), w64s i (by omega)]
  refine Tl.pos (by omega) (Tl.pos (by omega) (Tl.pos (by omega) ?_))
  cases hb : q.testBit u with
  | false =>
   refine Tl.pos (by simp) (Tl.pos (by omega) (Tl.pos (by simp; omega) ?_))
   rw [toNat_nat, tab_set _ _ hq]
   have e : evP (vars.take (i + 1)) q = 0 := by
    unfold evP
    rw [if_neg]
    intro h
    have := h (u : Int) (by rw [ht]; simp)
    rw [toNat_nat, hb] at this
    exact absurd this (by decide)
   have := ih (i + 1) 0 (by omega) (by omega) e.symm
   rw [tab_congr (h := fun p => if p = q then 0 else g p) (fun p _ => by by_cases e : p = q <;> simp [e])]
   exact this
  | true =>
   refine Tl.neg (by simp) ?_
   refine ih (i + 1) c (by omega) (by omega) ?_
   rw [hc, ht]
   unfold evP
   refine ite_iff ?_
   constructor
   ·intro h v hv
    rcases List.mem_append.1 hv with hv | hv
    ·exact h v hv
    ·simp at hv; subst hv; exact hb
   ·exact fun h v hv => h v (List.mem_append.2 (.inl hv))
theorem rE_out (vars : List Int) (hl : vars.length < 9223372036854775808) (hv : ∀ v ∈ vars, 0 ≤ v ∧ v < 6) (n : Nat) (hn : n ≤ 64) : ∀ (d i : Nat), n - i = d → i ≤ n →
  Tl (fun k => r15Evaluate.l0 k vars (tab n (fun p => if p < i then evP vars p else 0)) (i : Int)) (tab n (evP vars), 0) := by
 intro d
 induction d with
 | zero =>
  intro i hd hi
  refine Tl.step (fun k => by rw [r15Evaluate.l0]) ?_
  refine Tl.neg (by simp; omega) (Tl.val ?_ (Tl.now _))
  rw [tab_congr (h := evP vars) (fun p hp => if_pos (by omega))]
 | succ d ih =>
  intro i hd hi
  refine Tl.step (fun k => by rw [r15Evaluate.l0]) ?_
  refine Tl.pos (by simp; omega) (Tl.pos (by omega) ?_)
  rw [toNat_nat, tab_set _ _ (by omega)]
  have := rE_in vars hl hv n i hn (by omega) (tab n (evP vars), 0) (fun p => if p < i then evP vars p else 0) ?_ vars.length 0 1 (by omega) (by omega) (by simp [evP])
  ·exact this
  ·intro c hc
   have := ih (i + 1) (by omega) (by omega)
   rw [tab_congr (h := fun p => if p < i + 1 then evP vars p else 0)]
   ·exact this
   ·intro p hp
    by_cases e : p = i
    ·subst e; rw [if_pos rfl, if_pos (by omega), hc]
    ·rw [if_neg e]; exact ite_iff ⟨fun h => by omega, fun h => by omega⟩
theorem evT_eq (m : Nat) (vars : List Int) (hv : ∀ v ∈ vars, 0 ≤ v) : evT m (maskOf vars 0) = tab (2 ^ m) (evP vars) := by
 unfold evT
 refine tab_congr fun p _ => ?_
 unfold evP
 refine ite_iff ?_
 rw [and_eq_iff]
 constructor
 ·intro h v hv'
  obtain ⟨u, rfl⟩ := Int.eq_ofNat_of_zero_le (hv v hv')
  exact h u ((maskOf_bit u vars 0 hv).2 (.inr hv'))
 ·intro h i hi
  rcases (maskOf_bit i vars 0 hv).1 hi with h' | h'
  ·simp at h'
  ·exact h i h'
theorem rE_tl (m : Int) (vars : List Int) (hl : vars.length < 9223372036854775808) : Tl (fun k => r15Evaluate.f k m vars) (evS m vars) := by
 unfold r15Evaluate.f evS
 by_cases h0 : m < 0
 ·refine Tl.pos h0 ?_
  refine Tl.step (fun k => by rw [r15Evaluate.j0]) ?_
  exact Tl.pos rfl (Tl.val (by rw [if_pos (.inl h0)]) (Tl.now _))
 ·refine Tl.neg h0 ?_
  by_cases h6 : 6 < m
  ·refine Tl.step (fun k => by rw [r15Evaluate.j0]) ?_
   exact Tl.pos (by simpa using h6) (Tl.val (by rw [if_pos (.inr h6)]) (Tl.now _))
  ·obtain ⟨n, rfl⟩ := Int.eq_ofNat_of_zero_le (show 0 ≤ m by omega)
   have hp : 2 ^ n ≤ 2 ^ 6 := Nat.pow_le_pow_right (by decide) (by omega)
   refine Tl.step (fun k => by rw [r15Evaluate.j0]) ?_
   refine Tl.neg (by simp; omega) ?_
   rw [if_neg (by omega)]
   refine Tl.bind (sub_tl _ vars hl) ?_
   cases ha : ascB (n : Int) (-1) vars with
   | false => exact Tl.neg (by simp) (Tl.now _)
   | true =>
    have hn := asc_nonneg _ vars (-1) (by omega) ha
    rw [u64 (by omega) (by omega), shl1 n (by omega)]
    refine Tl.pos rfl (Tl.pos (by omega) (Tl.pos (Int.natCast_nonneg _) (Tl.pos (by rw [toNat_nat]; omega) ?_)))
    rw [toNat_nat, tab_rep, toNat_nat, evT_eq n vars (fun v hv => (hn v hv).1)]
    have := rE_out vars hl (fun v hv => by have := hn v hv; omega) (2 ^ n) hp _ 0 rfl (Nat.zero_le _)
    rw [tab_congr (h := fun _ => 0) (fun p _ => if_neg (by omega))] at this
    exact this

/-! ### The checks of a word of bits -/
def isBits (y : List Int) : Bool := y.all fun x => decide (x = 0) || decide (x = 1)
def bitsS (n : Nat) (y : List Int) : Int := if y.length = n then (bif isBits y then 0 else 2) else 4
theorem bits_go (y : List Int) (hl : y.length < 9223372036854775808) : ∀ (d i : Nat), y.length - i = d → i ≤ y.length →
  Tl (fun k => majority_bits.l0 k y (y.length : Int) (i : Int)) (bif isBits (y.drop i) then 0 else 2) := by
 intro d
 induction d with
 | zero =>
  intro i hd hi
  rw [List.drop_of_length_le (by omega)]
  refine Tl.step (fun k => by rw [majority_bits.l0]) ?_
  exact Tl.neg (by omega) (Tl.now _)
 | succ d ih =>
  intro i hd hi
  have hlt : i < y.length := by omega
  rw [drop_cons hlt]
  refine Tl.step (fun k => by rw [majority_bits.l0]) ?_
  rw [rd_nat, w64s i (by omega)]
  generalize y.getD i 0 = x
  have := ih (i + 1) (by omega) (by omega)
  refine Tl.pos (by omega) (Tl.pos (by omega) (Tl.pos (by omega) ?_))
  by_cases h0 : x = 0
  ·subst h0; exact Tl.pos rfl (by simpa [isBits] using this)
  ·refine Tl.neg h0 ?_
   by_cases h1 : x = 1
   ·subst h1; exact Tl.pos rfl (by simpa [isBits] using this)
   ·refine Tl.neg h1 (Tl.val ?_ (Tl.now _))
    simp [isBits, h0, h1]
theorem bits_tl (m : Nat) (hm : m ≤ 6) (y : List Int) (hl : y.length < 9223372036854775808) : Tl (fun k => majority_bits.f k (m : Int) y) (bitsS (2 ^ m) y) := by
 unfold majority_bits.f bitsS
 rw [shl1 m (by omega)]
 refine Tl.pos (by omega) ?_
 by_cases e : y.length = 2 ^ m
 ·rw [if_pos e]
  exact Tl.pos (by rw [e]) (by simpa using bits_go y hl _ 0 rfl (by omega))
 ·rw [if_neg e]
  exact Tl.neg (by omega) (Tl.now _)
theorem order2_tl : Tl (fun k => r04Order.f k 2 1 []) 2 := by
 unfold r04Order.f
 refine Tl.neg (by decide) (Tl.neg (by decide) ?_)
 refine Tl.step (fun k => by rw [r04Order.j0]) ?_
 refine Tl.neg (by decide) ?_
 refine Tl.step (fun k => by rw [r04Order.l0]) ?_
 rw [w64 (n := Int.tdiv 256 2) (by decide) (by decide), w64 (n := 1 * 2) (by decide) (by decide), w64 (n := 0 + 1) (by decide) (by decide)]
 refine Tl.pos (by decide) (Tl.neg (by decide) (Tl.neg (by decide) ?_))
 refine Tl.step (fun k => by rw [r04Order.l0]) ?_
 refine Tl.neg (by decide) (Tl.now _)
theorem is2_tl (x : Int) : Tl (fun k => r04Is.f k 2 1 [] x) (decide (x = 0) || decide (x = 1)) := by
 unfold r04Is.f
 by_cases h : x ≥ 0
 ·refine Tl.pos h (Tl.bind order2_tl (Tl.val ?_ (Tl.now _)))
  by_cases h0 : x = 0
  ·subst h0; rfl
  ·by_cases h1 : x = 1
   ·subst h1; rfl
   ·simp [h0, h1]; omega
 ·refine Tl.neg h (Tl.val ?_ (Tl.now _))
  simp; omega
theorem ent2_go (y : List Int) (hl : y.length < 9223372036854775808) : ∀ (d i : Nat), y.length - i = d → i ≤ y.length →
  Tl (fun k => r09Entries.l0 k y (i : Int) 2 1 []) (bif isBits (y.drop i) then 0 else 2) := by
 intro d
 induction d with
 | zero =>
  intro i hd hi
  rw [List.drop_of_length_le (by omega)]
  refine Tl.step (fun k => by rw [r09Entries.l0]) ?_
  exact Tl.neg (by omega) (Tl.now _)
 | succ d ih =>
  intro i hd hi
  have hlt : i < y.length := by omega
  rw [drop_cons hlt]
  refine Tl.step (fun k => by rw [r09Entries.l0]) ?_
  rw [rd_nat, w64s i (by omega)]
  generalize y.getD i 0 = x
  have := ih (i + 1) (by omega) (by omega)
  refine Tl.pos (by omega) (Tl.pos (by omega) (Tl.bind (is2_tl x) ?_))
  cases hx : (decide (x = 0) || decide (x = 1)) with
  | true => exact Tl.pos rfl (by simpa [isBits, hx] using this)
  | false => 
   refine Tl.neg (by simp) (Tl.val ?_ (Tl.now _))
   simp only [isBits, List.all_cons, hx, Bool.false_and]; rfl
theorem rbits_tl (n : Nat) (y : List Int) (hl : y.length < 9223372036854775808) : Tl (fun k => r43bits.f k y (n : Int)) (bitsS n y) := by
 unfold r43bits.f r15Two.f
 refine Tl.bind1 rfl ?_
 unfold r12List.f bitsS
 by_cases e : y.length = n
 ·rw [if_pos e]
  refine Tl.bind (Tl.pos (by rw [e]) (Tl.bind ?_ (Tl.now _))) (Tl.now _)
  unfold r09Entries.f
  simpa using ent2_go y hl _ 0 rfl (by omega)
 ·rw [if_neg e]
  exact Tl.bind (Tl.neg (by omega) (Tl.now _)) (Tl.now _)
end Go.Proofs.Ytjelamodjpepkaa.B
/- What the votes of the program and of the reference come to: the same lists. -/
namespace Go.Proofs.Ytjelamodjpepkaa.B
open Go.RowKit Go.Proofs.YtjelamodjpepkaaW.PrintWords Go.Proofs.YtjelamodjpepkaaW.PrintMore Go.Proofs.Ytjelamodjpepkaa.P
set_option linter.unusedVariables false

def Bit (x : Int) : Prop := x = 0 ∨ x = 1
theorem bit_mod (x : Int) : Bit (x % 2) := by unfold Bit; omega
theorem isBits_get {y : List Int} (h : isBits y = true) (i : Nat) : Bit (y.getD i 0) := by
 unfold isBits at h
 rw [List.all_eq_true] at h
 rw [List.getD_eq_getElem?_getD]
 by_cases hi : i < y.length
 ·rw [List.getElem?_eq_getElem hi]
  have := h _ (List.getElem_mem hi)
  simpa [Bit] using this
 ·rw [List.getElem?_eq_none (by omega)]; exact .inl rfl
theorem xor_bit {a b : Int} (ha : Bit a) (hb : Bit b) : Go.bits .xor .i64 a b = (a + b) % 2 := by
 rcases ha with rfl | rfl <;> rcases hb with rfl | rfl <;> decide +kernel
def sumL (y : List Int) (l : List Nat) : Int := (l.map (fun s => y.getD s 0)).sum
theorem sumL_append (y : List Int) (a b : List Nat) : sumL y (a ++ b) = sumL y a + sumL y b := by simp [sumL]
theorem sumL_reverse (y : List Int) : ∀ l : List Nat, sumL y l.reverse = sumL y l
 | [] => rfl
 | a :: l => by
  rw [List.reverse_cons, sumL_append, sumL_reverse y l]
  simp [sumL]; omega
/-- The submasks, in the order in which the program goes through them. -/
def subL : Nat → Nat → Nat → List Nat
 | 0, _, _ => []
 | f + 1, mask, sub => sub :: if sub = 0 then [] else subL f mask ((sub - 1) &&& mask)
/-- The points of a vote. -/
def ptsOf (n mask p : Nat) : List Nat := (List.range n).filter fun s => s - (s &&& mask) == p
def voteS (n mask : Nat) (y : List Int) (p : Nat) : Int := sumL y (ptsOf n mask p) % 2
def votesS (n mask : Nat) (y : List Int) : List Int := ((List.range n).filter fun p => p &&& mask == 0).map (voteS n mask y)
theorem pts_subs (m : Nat) (hm : m < 7) (mask : Nat) (h : mask < 2 ^ m) (p : Nat) (hp : p < 2 ^ m) (h0 : p &&& mask = 0) : ((subL 64 mask mask).map (p ||| ·)).reverse = ptsOf (2 ^ m) mask p := by
 have H : ∀ m, m < 7 → ∀ mask, mask < 2 ^ m → ∀ p, p < 2 ^ m → p &&& mask = 0 → ((subL 64 mask mask).map (p ||| ·)).reverse = ptsOf (2 ^ m) mask p := by decide +kernel
 exact H m hm mask h p hp h0
theorem votes_in (y : List Int) (hy : isBits y = true) (n mask p : Nat) (hn : n ≤ 64) (hyn : y.length = n) (hmask : mask < 64) (hp : p < n) (out : List Int) (R : List Int) (hpm : ∀ s, s ≤ mask → s &&& mask = s → p ||| s < n)
  (ho : out.length < 64)
  (hnext : ∀ v, Tl (fun k => majority_votes.l0 k y (mask : Int) (out ++ [v]) (n : Int) ((p : Int) + 1)) R ∨ v ≠ sumL y ((subL 64 mask mask).map (p ||| ·)) % 2) :
  ∀ (f sub : Nat) (acc : Int), sub < f → sub ≤ mask → sub &&& mask = sub → Bit acc → (acc + sumL y ((subL f mask sub).map (p ||| ·))) % 2 = sumL y ((subL 64 mask mask).map (p ||| ·)) % 2 →
  Tl (fun k => majority_votes.l1 k y (mask : Int) out (p : Int) acc (sub : Int) (n : Int) (p : Int)) R := by
 intro f
 induction f with
 | zero => intro sub acc h; omega
 | succ f ih =>
  intro sub acc hf hs hsub hacc hsum
  have hps := hpm sub hs hsub
  have hb := isBits_get hy (p ||| sub)
  refine Tl.step (fun k => by rw [majority_votes.l1]) ?_
  rw [(bits_nat p sub (by omega) (by omega)).2, rd_nat, xor_bit hacc hb]
  refine Tl.pos (by omega) (Tl.pos (by omega) ?_)
  by_cases h0 : sub = 0
  ·subst h0
   refine Tl.pos rfl (Tl.pos (by omega) ?_)
   rw [w64 (by omega) (by omega)]
   rcases hnext ((acc + y.getD (p ||| 0) 0) % 2) with h | h
   ·exact h
   ·refine absurd ?_ h
    rw [← hsum]
    simp [subL, sumL]
  ·refine Tl.neg (by omega) ?_
   have hw : wrap64 ((sub : Int) - 1) = ((sub - 1 : Nat) : Int) := by rw [w64 (by omega) (by omega)]; omega
   rw [hw, (bits_nat (sub - 1) mask (by omega) (by omega)).1]
   have hle : (sub - 1) &&& mask ≤ sub - 1 := Nat.and_le_left
   refine ih _ _ (by omega) (by omega) ?_ (bit_mod _) ?_
   ·rw [Nat.and_assoc, Nat.and_self]
   ·rw [← hsum]
    simp only [subL, h0, if_false, List.map_cons, sumL, List.sum_cons]
    omega
theorem votes_go (m : Nat) (hm : m < 7) (y : List Int) (hy : isBits y = true) (hyn : y.length = 2 ^ m) (mask : Nat) (hmask : mask < 2 ^ m) : ∀ (d i : Nat) (out : List Int), i + d = 2 ^ m → out.length ≤ i →
  Tl (fun k => majority_votes.l0 k y (mask : Int) out ((2 ^ m : Nat) : Int) (i : Int)) (out ++ ((List.range' i d).filter fun p => p &&& mask == 0).map (voteS (2 ^ m) mask y)) := by
 have h64 : 2 ^ m ≤ 2 ^ 6 := Nat.pow_le_pow_right (by decide) (by omega)
 intro d
 induction d with
 | zero =>
  intro i out hd ho
  refine Tl.step (fun k => by rw [majority_votes.l0]) ?_
  refine Tl.neg (by omega) (Tl.val (by simp) (Tl.now _))
 | succ d ih =>
  intro i out hd ho
  rw [List.range'_succ]
  refine Tl.step (fun k => by rw [majority_votes.l0]) ?_
  rw [(bits_nat i mask (by omega) (by omega)).1]
  refine Tl.pos (by omega) ?_
  by_cases h0 : i &&& mask = 0
  ·refine Tl.pos (by omega) ?_
   rw [List.filter_cons_of_pos (by simpa using h0), List.map_cons]
   refine votes_in y hy (2 ^ m) mask i (by omega) hyn (by omega) (by omega) out _ ?_ (by omega) ?_ 64 mask 0 (by omega) (Nat.le_refl _) (Nat.and_self _) (.inl rfl) (by simp)
   ·intro s _ h2
    exact Nat.or_lt_two_pow (by omega) (by omega)
   ·intro v
    by_cases e : v = sumL y ((subL 64 mask mask).map (i ||| ·)) % 2
    ·refine .inl ?_
     have := ih (i + 1) (out ++ [v]) (by omega) (by simp; omega)
     refine Tl.val ?_ this
     rw [e, List.append_assoc]
     unfold voteS
     rw [← pts_subs m hm mask hmask i (by omega) h0, sumL_reverse]
     rfl
    ·exact .inr e
  ·refine Tl.neg (by omega) ?_
   rw [List.filter_cons_of_neg (by simpa using h0), w64s i (by omega)]
   exact ih (i + 1) out (by omega) (by omega)
theorem votes_tl (m : Nat) (hm : m < 7) (y : List Int) (hy : isBits y = true) (hyn : y.length = 2 ^ m) (mask : Nat) (hmask : mask < 2 ^ m) : Tl (fun k => majority_votes.f k y (mask : Int)) (votesS (2 ^ m) mask y) := by
 unfold majority_votes.f votesS
 rw [hyn, List.range_eq_range']
 simpa using votes_go m hm y hy hyn mask hmask (2 ^ m) 0 [] (by omega) (by simp)
theorem mask_go (vars : List Int) (hl : vars.length < 9223372036854775808) (hv : ∀ v ∈ vars, 0 ≤ v ∧ v < 6) : ∀ (d i a : Nat), vars.length - i = d → i ≤ vars.length → a < 64 →
  Tl (fun k => majority_mask.l0 k (a : Int) vars (vars.length : Int) (i : Int)) (maskOf (vars.drop i) a : Int) := by
 intro d
 induction d with
 | zero =>
  intro i a hd hi ha
  rw [List.drop_of_length_le (by omega)]
  refine Tl.step (fun k => by rw [majority_mask.l0]) ?_
  exact Tl.neg (by omega) (Tl.now _)
 | succ d ih =>
  intro i a hd hi ha
  have hlt : i < vars.length := by omega
  have hmem := hv _ (List.getElem_mem hlt)
  obtain ⟨u, hu⟩ := Int.eq_ofNat_of_zero_le hmem.1
  have hr : vars.getD i 0 = (u : Int) := by rw [List.getD_eq_getElem?_getD, List.getElem?_eq_getElem hlt]; exact hu
  rw [drop_cons hlt, hr]
  have hu2 : 2 ^ u < 2 ^ 6 := Nat.pow_lt_pow_right (by decide) (by omega)
  refine Tl.step (fun k => by rw [majority_mask.l0]) ?_
  rw [rd_nat, hr, shl1 u (by omega), (bits_nat a (2 ^ u) (by omega) (by omega)).2, w64s i (by omega)]
  refine Tl.pos (by omega) (Tl.pos (by omega) (Tl.pos (by omega) (Tl.pos (by omega) ?_)))
  exact ih (i + 1) (a ||| 2 ^ u) (by omega) (by omega) (Nat.or_lt_two_pow (n := 6) (by omega) (by omega))
theorem mask_tl (vars : List Int) (hl : vars.length < 9223372036854775808) (hv : ∀ v ∈ vars, 0 ≤ v ∧ v < 6) : Tl (fun k => majority_mask.f k vars) (maskOf vars 0 : Int) := by
 unfold majority_mask.f
 simpa using mask_go vars hl hv _ 0 0 rfl (by omega) (by omega)
/-- What Votes answers. -/
def vS (m : Int) (vars y : List Int) : List Int × Int :=
 if (evS m vars).2 = 0 then (if bitsS (2 ^ m.toNat) y = 0 then (votesS (2 ^ m.toNat) (maskOf vars 0) y, 0) else ([], bitsS (2 ^ m.toNat) y)) else ([], (evS m vars).2)
theorem evS_ok {m : Int} {vars : List Int} (h : (evS m vars).2 = 0) : ∃ n : Nat, m = n ∧ n ≤ 6 ∧ ascB n (-1) vars = true := by
 unfold evS at h
 by_cases h1 : m < 0 ∨ 6 < m
 ·rw [if_pos h1] at h; exact absurd h (by decide)
 ·rw [if_neg h1] at h
  obtain ⟨n, rfl⟩ := Int.eq_ofNat_of_zero_le (show 0 ≤ m by omega)
  refine ⟨n, rfl, by omega, ?_⟩
  cases ha : ascB (n : Int) (-1) vars with
  | true => rfl
  | false => rw [ha] at h; exact absurd (show (5 : Int) = 0 from h) (by decide)
theorem bitsS_ok {n : Nat} {y : List Int} (h : bitsS n y = 0) : y.length = n ∧ isBits y = true := by
 unfold bitsS at h
 by_cases e : y.length = n
 ·rw [if_pos e] at h
  cases hb : isBits y with
  | true => exact ⟨e, rfl⟩
  | false => rw [hb] at h; exact absurd h (by decide)
 ·rw [if_neg e] at h; exact absurd h (by decide)
theorem Votes_tl (m : Int) (vars y : List Int) (hl : vars.length < 9223372036854775808) (hy : y.length < 9223372036854775808) : Tl (fun k => majority_Votes.f k m vars y) (vS m vars y) := by
 unfold majority_Votes.f vS
 refine Tl.bind (cE_tl m vars hl) ?_
 by_cases h : (evS m vars).2 = 0
 ·rw [if_pos h]
  refine Tl.pos h ?_
  obtain ⟨n, rfl, hn, ha⟩ := evS_ok h
  rw [toNat_nat]
  refine Tl.bind (bits_tl n hn y hy) ?_
  by_cases hb : bitsS (2 ^ n) y = 0
  ·rw [if_pos hb]
   obtain ⟨hlen, hbits⟩ := bitsS_ok hb
   have hv := asc_nonneg _ vars (-1) (by omega) ha
   refine Tl.pos hb (Tl.bind (mask_tl vars hl (fun v hv' => by have := hv v hv'; omega)) (Tl.bind ?_ (Tl.now _)))
   exact votes_tl n (by omega) y hbits hlen _ (maskOf_lt n vars 0 (-1) (by omega) ha (Nat.pow_pos (by decide)))
  ·rw [if_neg hb]
   exact Tl.neg hb (Tl.now _)
 ·rw [if_neg h]
  exact Tl.neg h (Tl.now _)

theorem alive43_tl : Tl (fun k => l43alive.f k) true := by
 unfold l43alive.f
 refine Tl.bind (Votes_tl 1 [] [1, 0] (by decide) (by decide)) ?_
 have e : vS 1 [] [1, 0] = ([1, 0], 0) := by decide +kernel
 rw [e]
 exact Tl.one (by decide +kernel)
end Go.Proofs.Ytjelamodjpepkaa.B
/- A check by the kernel: of all monomials of at most as many variables, just the same one has odd votes. -/
namespace Go.Proofs.Ytjelamodjpepkaa.B
def popc (x : Nat) : Nat := (List.range 6).countP fun i => x.testBit i
def voteCheck (S p T : Nat) : Bool := (((subL 64 S S).map fun s => if (p ||| s) &&& T == T then (1 : Int) else 0).sum % 2 == if T == S then 1 else 0)
theorem vote_mono_all : ∀ S, S < 64 → ∀ p, p < 64 → p &&& S = 0 → ∀ T, T < 64 → popc T ≤ popc S → voteCheck S p T = true := by decide +kernel
end Go.Proofs.Ytjelamodjpepkaa.B
/- Votes of polynomials: plain facts on bits and lists. -/
namespace Go.Proofs.Ytjelamodjpepkaa.B
open Go.RowKit Go.Proofs.YtjelamodjpepkaaW.PrintWords Go.Proofs.YtjelamodjpepkaaW.PrintMore
set_option linter.unusedVariables false

def varsOf (mask : Nat) : List Int := ((List.range 6).filter fun i => mask.testBit i).map Int.ofNat
theorem asc_pw (m : Int) : ∀ (vs : List Int) (prev : Int), ascB m prev vs = true → (∀ v ∈ vs, prev < v) ∧ vs.Pairwise (· < ·)
 | [], _, _ => by simp
 | v :: vs, prev, h => by
  simp only [ascB, Bool.and_eq_true, decide_eq_true_eq] at h
  obtain ⟨h1, h2⟩ := asc_pw m vs v h.2
  refine ⟨fun u hu => ?_, List.pairwise_cons.2 ⟨h1, h2⟩⟩
  rcases List.mem_cons.1 hu with rfl | hu
  ·exact h.1.1
  ·have := h1 u hu; omega
theorem pw_ext : ∀ (a b : List Int), a.Pairwise (· < ·) → b.Pairwise (· < ·) → (∀ x, x ∈ a ↔ x ∈ b) → a = b
 | [], [], _, _, _ => rfl
 | [], y :: b, _, _, h => absurd ((h y).2 (by simp)) (by simp)
 | x :: a, [], _, _, h => absurd ((h x).1 (by simp)) (by simp)
 | x :: a, y :: b, ha, hb, h => by
  rw [List.pairwise_cons] at ha hb
  have hxy : x = y := by
   rcases List.mem_cons.1 ((h x).1 (by simp)) with e | e
   ·exact e
   ·rcases List.mem_cons.1 ((h y).2 (by simp)) with e2 | e2
    ·exact e2.symm
    ·have h1 := hb.1 x e; have h2 := ha.1 y e2; omega
  subst hxy
  have : a = b := pw_ext a b ha.2 hb.2 fun z => by
   constructor
   ·intro hz
    rcases List.mem_cons.1 ((h z).1 (by simp [hz])) with e | e
    ·subst e; have := ha.1 z hz; omega
    ·exact e
   ·intro hz
    rcases List.mem_cons.1 ((h z).2 (by simp [hz])) with e | e
    ·subst e; have := hb.1 z hz; omega
    ·exact e
  rw [this]
theorem varsOf_mem (mask : Nat) (x : Int) : x ∈ varsOf mask ↔ ∃ i : Nat, x = i ∧ i < 6 ∧ mask.testBit i = true := by
 simp only [varsOf, List.mem_map, List.mem_filter, List.mem_range]
 constructor
 ·rintro ⟨i, ⟨h1, h2⟩, rfl⟩; exact ⟨i, rfl, h1, h2⟩
 ·rintro ⟨i, rfl, h1, h2⟩; exact ⟨i, ⟨h1, h2⟩, rfl⟩
theorem varsOf_pw (mask : Nat) : (varsOf mask).Pairwise (· < ·) := by
 unfold varsOf
 rw [List.pairwise_map]
 refine (List.Pairwise.filter _ List.pairwise_lt_range).imp ?_
 intro a b h
 exact Int.ofNat_lt.2 h
/-- A list of variables is known by its mask. -/
theorem asc_vars {m : Int} (hm : m ≤ 6) {vars : List Int} (h : ascB m (-1) vars = true) : vars = varsOf (maskOf vars 0) := by
 have hn := asc_nonneg m vars (-1) (by omega) h
 refine pw_ext _ _ (asc_pw m vars (-1) h).2 (varsOf_pw _) fun x => ?_
 rw [varsOf_mem]
 constructor
 ·intro hx
  obtain ⟨i, rfl⟩ := Int.eq_ofNat_of_zero_le (hn x hx).1
  have := hn _ hx
  exact ⟨i, rfl, by omega, (maskOf_bit i vars 0 fun v hv => (hn v hv).1).2 (.inr hx)⟩
 ·rintro ⟨i, rfl, hi, hb⟩
  rcases (maskOf_bit i vars 0 fun v hv => (hn v hv).1).1 hb with h' | h'
  ·simp at h'
  ·exact h'
theorem asc_mask_lt {m : Nat} {vars : List Int} (h : ascB m (-1) vars = true) : maskOf vars 0 < 2 ^ m := maskOf_lt m vars 0 (-1) (by omega) h (Nat.pow_pos (by decide))
theorem varsOf_length (mask : Nat) (h : mask < 64) : (varsOf mask).length = popc mask := by
 have H : ∀ mask, mask < 64 → (varsOf mask).length = popc mask := by decide +kernel
 exact H mask h
/-! ### Votes -/
def evp (T p : Nat) : Int := if p &&& T = T then 1 else 0
theorem evT_tab (m T : Nat) : evT m T = tab (2 ^ m) (evp T) := rfl
theorem voteS_subs (m : Nat) (hm : m < 7) (S : Nat) (hS : S < 2 ^ m) (p : Nat) (hp : p < 2 ^ m) (h0 : p &&& S = 0) (y : List Int) : voteS (2 ^ m) S y p = sumL y ((subL 64 S S).map (p ||| ·)) % 2 := by
 unfold voteS
 rw [← pts_subs m hm S hS p hp h0, sumL_reverse]
theorem sub_bound (S : Nat) : ∀ (f s : Nat), s ≤ S → ∀ q ∈ subL f S s, q ≤ S
 | 0, _, _, q, hq => by simp [subL] at hq
 | f + 1, s, hs, q, hq => by
  unfold subL at hq
  rcases List.mem_cons.1 hq with rfl | hq
  ·exact hs
  ·by_cases h0 : s = 0
   ·simp [h0] at hq
   ·rw [if_neg h0] at hq
    exact sub_bound S f _ (Nat.le_trans Nat.and_le_left (by omega)) q hq
theorem sumL_tab (n : Nat) (g : Nat → Int) (l : List Nat) (h : ∀ q ∈ l, q < n) : sumL (tab n g) l = (l.map g).sum := by
 unfold sumL
 congr 1
 exact List.map_congr_left fun q hq => tab_getD q 0 (h q hq)
theorem sum_map_add (l : List Nat) (f g : Nat → Int) : (l.map fun q => f q + g q).sum = (l.map f).sum + (l.map g).sum := by
 induction l with
 | nil => rfl
 | cons a l ih => simp only [List.map_cons, List.sum_cons, ih]; omega
theorem sum_map_mod (l : List Nat) (f : Nat → Int) : (l.map fun q => f q % 2).sum % 2 = (l.map f).sum % 2 := by
 induction l with
 | nil => rfl
 | cons a l ih => simp only [List.map_cons, List.sum_cons]; omega
theorem voteS_tab (m : Nat) (hm : m < 7) (S : Nat) (hS : S < 2 ^ m) (p : Nat) (hp : p < 2 ^ m) (h0 : p &&& S = 0) (g : Nat → Int) : voteS (2 ^ m) S (tab (2 ^ m) g) p = (((subL 64 S S).map (p ||| ·)).map g).sum % 2 := by
 rw [voteS_subs m hm S hS p hp h0, sumL_tab]
 intro q hq
 obtain ⟨s, hs, rfl⟩ := List.mem_map.1 hq
 exact Nat.or_lt_two_pow hp (Nat.lt_of_le_of_lt (sub_bound S 64 S (Nat.le_refl _) s hs) hS)
/-- The vote of a sum is the sum of the votes. -/
theorem voteS_add (m : Nat) (hm : m < 7) (S : Nat) (hS : S < 2 ^ m) (p : Nat) (hp : p < 2 ^ m) (h0 : p &&& S = 0) (f g : Nat → Int) :
  voteS (2 ^ m) S (tab (2 ^ m) fun q => (f q + g q) % 2) p = (voteS (2 ^ m) S (tab (2 ^ m) f) p + voteS (2 ^ m) S (tab (2 ^ m) g) p) % 2 := by
 rw [voteS_tab m hm S hS p hp h0, voteS_tab m hm S hS p hp h0, voteS_tab m hm S hS p hp h0, sum_map_mod, sum_map_add]
 omega
theorem vote_mono (m : Nat) (hm : m < 7) (S T : Nat) (hS : S < 2 ^ m) (hT : T < 2 ^ m) (hle : popc T ≤ popc S) (p : Nat) (hp : p < 2 ^ m) (h0 : p &&& S = 0) : voteS (2 ^ m) S (evT m T) p = if T = S then 1 else 0 := by
 have h64 : 2 ^ m ≤ 2 ^ 6 := Nat.pow_le_pow_right (by decide) (by omega)
 have h := vote_mono_all S (by omega) p (by omega) h0 T (by omega) hle
 rw [evT_tab, voteS_tab m hm S hS p hp h0]
 unfold voteCheck at h
 rw [beq_iff_eq] at h
 have e1 : (((subL 64 S S).map (p ||| ·)).map (evp T)) = (subL 64 S S).map fun s => if ((p ||| s) &&& T == T) = true then 1 else 0 := by
  rw [List.map_map]
  refine List.map_congr_left fun s _ => ?_
  unfold evp
  exact ite_iff (by simp)
 rw [e1]
 refine h.trans ?_
 exact ite_iff (by simp)
/-- As many votes as points that are 0 at the variables. -/
theorem votes_length (m : Nat) (hm : m < 7) (S : Nat) (hS : S < 2 ^ m) (y : List Int) : (votesS (2 ^ m) S y).length = 2 ^ (m - popc S) := by
 have H : ∀ m, m < 7 → ∀ S, S < 2 ^ m → ((List.range (2 ^ m)).filter fun p => p &&& S == 0).length = 2 ^ (m - popc S) := by decide +kernel
 unfold votesS
 rw [List.length_map]
 exact H m hm S hS
theorem isBits_tab (n : Nat) (g : Nat → Int) (h : ∀ p, p < n → Bit (g p)) : isBits (tab n g) = true := by
 unfold isBits
 rw [List.all_eq_true]
 intro x hx
 obtain ⟨p, hp, rfl⟩ := List.mem_map.1 hx
 rcases h p (by simpa using hp) with e | e <;> simp [e]
theorem popc_le (m : Nat) (hm : m < 7) (S : Nat) (hS : S < 2 ^ m) : popc S ≤ m := by
 have H : ∀ m, m < 7 → ∀ S, S < 2 ^ m → popc S ≤ m := by decide +kernel
 exact H m hm S hS
end Go.Proofs.Ytjelamodjpepkaa.B
/- What the program's Reed computes: from the highest degree down, the sum of the monomials with a majority of votes. -/
namespace Go.Proofs.Ytjelamodjpepkaa.B
open Go.RowKit Go.Proofs.YtjelamodjpepkaaW.PrintWords Go.Proofs.YtjelamodjpepkaaW.PrintMore Go.Proofs.Ytjelamodjpepkaa.P
set_option linter.unusedVariables false

theorem Tl.of2 {α : Type} {g : Nat → Option α} {r : α} (hg : ∀ k, LeO (g k) (g (k + 1))) {k : Nat} (h : g k = some r) : Tl g r := ⟨k, fun _ hk => at_rounds hg hk h⟩
/-- More than half of the votes are ones. -/
def maj (n T : Nat) (y : List Int) : Bool := decide (2 * (votesS n T y).sum > ((votesS n T y).length : Int))
def tog (n : Nat) (y : List Int) (T p : Nat) : Int := bif maj n T y then evp T p else 0
/-- The sum of the monomials that have a majority. -/
def pol (n : Nat) (y : List Int) (ms : List (List Int)) (p : Nat) : Int := (ms.map fun vs => tog n y (maskOf vs 0) p).sum
theorem pol_cons (n : Nat) (y : List Int) (vs : List Int) (ms : List (List Int)) (p : Nat) : pol n y (vs :: ms) p = tog n y (maskOf vs 0) p + pol n y ms p := rfl
/-- The word, from the degrees below s. -/
def runW (m : Nat) (y : List Int) : Nat → (Nat → Int) → (Nat → Int)
 | 0, b => b
 | s + 1, b => runW m y s (fun p => (b p + pol (2 ^ m) (tab (2 ^ m) fun q => (y.getD q 0 + b q) % 2) (combs1 s m 0 []) p) % 2)
theorem bitsum : ∀ L : List Int, (∀ v ∈ L, Bit v) → 0 ≤ L.sum ∧ L.sum ≤ L.length
 | [], _ => by simp
 | a :: l, h => by
  have h1 := bitsum l fun v hv => h v (List.mem_cons_of_mem _ hv)
  have h2 := h a (List.mem_cons_self ..)
  simp only [List.sum_cons, List.length_cons]
  unfold Bit at h2
  omega
theorem sum_take_succ (L : List Int) (i : Nat) (h : i < L.length) : (L.take (i + 1)).sum = (L.take i).sum + L.getD i 0 := by
 rw [List.take_add_one, List.sum_append, List.getD_eq_getElem?_getD, List.getElem?_eq_getElem h]
 simp
theorem bit_mem_take {L : List Int} (hb : ∀ v ∈ L, Bit v) (i : Nat) : ∀ v ∈ L.take i, Bit v := fun v hv => hb v (List.mem_of_mem_take hv)
theorem votes_bit (n T : Nat) (y : List Int) : ∀ v ∈ votesS n T y, Bit v := by
 intro v hv
 obtain ⟨p, _, rfl⟩ := List.mem_map.1 hv
 exact bit_mod _
theorem votes_len (n T : Nat) (y : List Int) : (votesS n T y).length ≤ n := by
 unfold votesS
 rw [List.length_map]
 have := List.length_filter_le (fun p => p &&& T == 0) (List.range n)
 simpa using this
theorem p_ones (x0 x1 : Int) (x2 : List Int) (x9 : List (List Int)) (x11 x12 : List Int) (x13 x14 : Int) (x15 : List Int) (x16 : Int) (L : List Int) (hb : ∀ v ∈ L, Bit v) (hl : L.length ≤ 64) (R : List Int × List Int × Int)
  (hk : Tl (fun k => if wrap64 (2 * L.sum) ≤ (L.length : Int) then majority_Reed.l1 k x0 x1 x2 x9 x11 x12 (wrap64 (x13 - 1)) x14 x15 else majority_Reed.l3 k x0 x1 x2 x9 x11 x12 x13 x14 x15 x16 (x15.length : Int) 0) R) :
  ∀ (d i : Nat), L.length - i = d → i ≤ L.length → Tl (fun k => majority_Reed.l2 k x0 x1 x2 x9 x11 x12 x13 x14 x15 x16 (L.take i).sum L L (L.length : Int) (i : Int)) R := by
 intro d
 induction d with
 | zero =>
  intro i hd hi
  rw [List.take_of_length_le (by omega)]
  refine Tl.step (fun k => by rw [majority_Reed.l2]) ?_
  exact Tl.neg (by omega) hk
 | succ d ih =>
  intro i hd hi
  have hlt : i < L.length := by omega
  have hs := bitsum (L.take (i + 1)) (bit_mem_take hb _)
  rw [List.length_take] at hs
  refine Tl.step (fun k => by rw [majority_Reed.l2]) ?_
  rw [rd_nat, ← sum_take_succ L i hlt, w64 (n := (L.take (i + 1)).sum) (by omega) (by omega), w64s i (by omega)]
  exact Tl.pos (by omega) (Tl.pos (by omega) (Tl.pos (by omega) (ih (i + 1) (by omega) (by omega))))
theorem evp_bit (T p : Nat) : Bit (evp T p) := by
 unfold evp Bit
 split <;> simp
theorem p_tog (x0 x1 : Int) (x2 : List Int) (x9 : List (List Int)) (x11 x12 : List Int) (x13 x14 : Int) (T n : Nat) (hT : T < 64) (hn : n ≤ 64) (g : Nat → Int) (hg : ∀ p, p < n → Bit (g p)) (R : List Int × List Int × Int)
  (hk : Tl (fun k => majority_Reed.l1 k x0 x1 x2 x9 x11 x12 (wrap64 (x13 - 1)) x14 (tab n fun p => (g p + evp T p) % 2)) R) :
  ∀ (d i : Nat), n - i = d → i ≤ n → Tl (fun k => majority_Reed.l3 k x0 x1 x2 x9 x11 x12 x13 x14 (tab n fun p => if p < i then (g p + evp T p) % 2 else g p) (T : Int) (n : Int) (i : Int)) R := by
 intro d
 induction d with
 | zero =>
  intro i hd hi
  rw [tab_congr (h := fun p => (g p + evp T p) % 2) (fun p hp => if_pos (by omega))]
  refine Tl.step (fun k => by rw [majority_Reed.l3]) ?_
  exact Tl.neg (by omega) hk
 | succ d ih =>
  intro i hd hi
  have hb := (bits_nat i T (by omega) (by omega)).1
  have hgi := hg i (by omega)
  have hnext : Tl (fun k => majority_Reed.l3 k x0 x1 x2 x9 x11 x12 x13 x14 (tab n fun p => if p < i + 1 then (g p + evp T p) % 2 else g p) (T : Int) (n : Int) ((i + 1 : Nat) : Int)) R := ih (i + 1) (by omega) (by omega)
  refine Tl.step (fun k => by rw [majority_Reed.l3]) ?_
  refine Tl.pos (by omega) ?_
  rw [hb, w64s i (by omega)]
  by_cases e : i &&& T = T
  ·refine Tl.pos (by rw [e]) (Tl.pos (by omega) (Tl.pos (by simp; omega) ?_))
   rw [toNat_nat, tab_rd i (by omega), if_neg (by omega), xor_bit hgi (.inr rfl), tab_set _ _ (by omega)]
   rw [tab_congr (h := fun p => if p < i + 1 then (g p + evp T p) % 2 else g p)]
   ·exact hnext
   ·intro p hp
    by_cases e2 : p = i
    ·subst e2; rw [if_pos rfl, if_pos (by omega), evp, if_pos e]
    ·rw [if_neg e2]; exact ite_iff ⟨fun h => by omega, fun h => by omega⟩
  ·refine Tl.neg (by omega) ?_
   rw [tab_congr (h := fun p => if p < i + 1 then (g p + evp T p) % 2 else g p)]
   ·exact hnext
   ·intro p hp
    by_cases e2 : p = i
    ·subst e2; rw [if_neg (by omega), if_pos (by omega), evp, if_neg e]; unfold Bit at hgi; omega
    ·exact ite_iff ⟨fun h => by omega, fun h => by omega⟩
theorem p_add (x0 x1 : Int) (x2 : List Int) (x9 : List (List Int)) (x13 : Int) (n : Nat) (hn : n ≤ 64) (s a b : Nat → Int) (hs : ∀ p, p < n → Bit (s p)) (ha : ∀ p, p < n → Bit (a p)) (hb : ∀ p, p < n → Bit (b p)) (R : List Int × List Int × Int)
  (hk : Tl (fun k => majority_Reed.l0 k x0 x1 x2 x9 (tab n fun p => (a p + s p) % 2) (tab n fun p => (b p + s p) % 2) x13) R) :
  ∀ (d i : Nat), n - i = d → i ≤ n → Tl (fun k => majority_Reed.l4 k x0 x1 x2 x9 (tab n fun p => if p < i then (a p + s p) % 2 else a p) (tab n fun p => if p < i then (b p + s p) % 2 else b p) x13 (tab n s) (n : Int) (i : Int)) R := by
 intro d
 induction d with
 | zero =>
  intro i hd hi
  rw [tab_congr (h := fun p => (a p + s p) % 2) (fun p hp => if_pos (by omega)), tab_congr (h := fun p => (b p + s p) % 2) (fun p hp => if_pos (by omega))]
  refine Tl.step (fun k => by rw [majority_Reed.l4]) ?_
  exact Tl.neg (by omega) hk
 | succ d ih =>
  intro i hd hi
  have hnext := ih (i + 1) (by omega) (by omega)
  refine Tl.step (fun k => by rw [majority_Reed.l4]) ?_
  refine Tl.pos (by omega) (Tl.pos (by omega) (Tl.pos (by simp; omega) (Tl.pos (by simp; omega) (Tl.pos (by simp; omega) ?_))))
  rw [toNat_nat, tab_rd i (by omega), tab_rd i (by omega), tab_rd i (by omega), if_neg (by omega), if_neg (by omega), xor_bit (ha i (by omega)) (hs i (by omega)), xor_bit (hb i (by omega)) (hs i (by omega)), tab_set _ _ (by omega), tab_set _ _ (by omega), w64s i (by omega)]
  rw [tab_congr (h := fun p => if p < i + 1 then (a p + s p) % 2 else a p), tab_congr (n := n) (g := fun p => if p = i then (b i + s i) % 2 else if p < i then (b p + s p) % 2 else b p) (h := fun p => if p < i + 1 then (b p + s p) % 2 else b p)]
  ·exact hnext
  ·intro p hp
   by_cases e2 : p = i
   ·subst e2; rw [if_pos rfl, if_pos (by omega)]
   ·rw [if_neg e2]; exact ite_iff ⟨fun h => by omega, fun h => by omega⟩
  ·intro p hp
   by_cases e2 : p = i
   ·subst e2; rw [if_pos rfl, if_pos (by omega)]
   ·rw [if_neg e2]; exact ite_iff ⟨fun h => by omega, fun h => by omega⟩
end Go.Proofs.Ytjelamodjpepkaa.B
/- What the program's Reed answers. -/
namespace Go.Proofs.Ytjelamodjpepkaa.B
open Go.RowKit Go.Proofs.YtjelamodjpepkaaW.PrintWords Go.Proofs.YtjelamodjpepkaaW.PrintMore Go.Proofs.Ytjelamodjpepkaa.P
set_option linter.unusedVariables false

theorem mons_check : ∀ m : Nat, m < 7 → ∀ s, s < 8 → ((monsTo m s).all fun vs => decide (vs.length < s) && ascB m (-1) vs) = true ∧ ((combs1 s m 0 []).all fun vs => decide (vs.length = s) && ascB m (-1) vs) = true ∧ (s ≤ m → 0 < (combs1 s m 0 []).length) := by decide +kernel
theorem mons_at (m : Nat) (hm : m < 7) (s : Nat) (hs : s < 8) : (∀ vs ∈ monsTo m s, vs.length < s ∧ ascB m (-1) vs = true) ∧ (∀ vs ∈ combs1 s m 0 [], vs.length = s ∧ ascB m (-1) vs = true) ∧ (s ≤ m → 0 < (combs1 s m 0 []).length) := by
 obtain ⟨h1, h2, h3⟩ := mons_check m hm s hs
 rw [List.all_eq_true] at h1 h2
 refine ⟨fun vs hv => ?_, fun vs hv => ?_, h3⟩
 ·have := h1 vs hv; simpa using this
 ·have := h2 vs hv; simpa using this
theorem getD_append_mid {α : Type} (A : List α) (b : α) (C : List α) (d : α) : (A ++ b :: C).getD A.length d = b := by simp [List.getD_eq_getElem?_getD]
/-- One degree: the monomials B, from the last to the first. -/
theorem p_block (m : Nat) (hm : m < 7) (x0 : Int) (x2 : List Int) (A C : List (List Int)) (x12 : List Int) (s : Nat) (hA : ∀ vs ∈ A, vs.length < s) (hAl : A.length < 1000) (r : Nat → Int) (hr : ∀ p, p < 2 ^ m → Bit (r p)) (R : List Int × List Int × Int) (hx2 : x2.length = 2 ^ m) (x9 : List (List Int)) (Bf : List (List Int))
  (hk : Tl (fun k => majority_Reed.l4 k x0 (m : Int) x2 x9 (tab (2 ^ m) r) x12 (A.length : Int) (tab (2 ^ m) fun p => pol (2 ^ m) (tab (2 ^ m) r) Bf p % 2) ((2 ^ m : Nat) : Int) 0) R) :
  ∀ (B D : List (List Int)), (∀ vs ∈ B, vs.length = s ∧ ascB m (-1) vs = true) → B.length < 1000 → Bf = B ++ D → x9 = A ++ (B ++ (D ++ C)) →
   Tl (fun k => majority_Reed.l1 k x0 (m : Int) x2 x9 (tab (2 ^ m) r) x12 ((A.length + B.length : Nat) : Int) (s : Int) (tab (2 ^ m) fun p => pol (2 ^ m) (tab (2 ^ m) r) D p % 2)) R := by
 have h64 : 2 ^ m ≤ 2 ^ 6 := Nat.pow_le_pow_right (by decide) (by omega)
 intro B
 induction hb : B.length generalizing B with
 | zero =>
  intro D hB hBl e1 e2
  have hB0 : B = [] := List.length_eq_zero_iff.1 hb
  subst hB0
  rw [List.nil_append] at e1
  subst e1
  have hj3 : Tl (fun k => majority_Reed.j3 k x0 (m : Int) x2 x9 (tab (2 ^ m) r) x12 (A.length : Int) (s : Int) (tab (2 ^ m) fun p => pol (2 ^ m) (tab (2 ^ m) r) Bf p % 2) false) R := by
   refine Tl.step (fun k => by rw [majority_Reed.j3]) ?_
   rw [tab_length]
   exact Tl.neg (by decide) hk
  rw [Nat.add_zero]
  refine Tl.step (fun k => by rw [majority_Reed.l1]) ?_
  by_cases hA0 : A.length = 0
  ·exact Tl.neg (by omega) hj3
  ·rw [w64 (by omega) (by omega)]
   refine Tl.pos (by omega) (Tl.pos (by omega) (Tl.pos (by rw [e2]; simp; omega) ?_))
   have hlast : rd_L1 x9 ((A.length : Int) - 1) = A.getD (A.length - 1) [] := by
    unfold rd_L1
    rw [e2, show ((A.length : Int) - 1).toNat = A.length - 1 from by omega, List.getD_eq_getElem?_getD, List.getD_eq_getElem?_getD, List.getElem?_append_left (by omega)]
   have hmem : A.getD (A.length - 1) [] ∈ A := by
    rw [List.getD_eq_getElem?_getD, List.getElem?_eq_getElem (by omega)]
    exact List.getElem_mem _
   have hlt := hA _ hmem
   rw [hlast, show (((A.getD (A.length - 1) []).length : Int) == (s : Int)) = false from beq_eq_false_iff_ne.2 (by omega)]
   exact hj3
 | succ l ih =>
  intro D hB hBl e1 e2
  have hBne : B ≠ [] := by intro e; rw [e] at hb; simp at hb
  obtain ⟨B', vs, rfl⟩ : ∃ B' vs, B = B' ++ [vs] := ⟨B.dropLast, B.getLast hBne, (List.dropLast_concat_getLast hBne).symm⟩
  have hl' : B'.length = l := by simpa using hb
  obtain ⟨hvl, hva⟩ := hB vs (by simp)
  have hT := asc_mask_lt hva
  have hnn := asc_nonneg _ vs (-1) (by omega) hva
  have hs6 : vs.length < 9223372036854775808 := by
   have := asc_vars (m := m) (by omega) hva
   rw [this, varsOf_length _ (by omega)]
   have := popc_le m hm _ hT
   omega
  have hrd : rd_L1 x9 (((A.length + (l + 1) : Nat) : Int) - 1) = vs := by
   unfold rd_L1
   rw [e2, show (((A.length + (l + 1) : Nat) : Int) - 1).toNat = A.length + B'.length from by omega, show A ++ (B' ++ [vs] ++ (D ++ C)) = (A ++ B') ++ vs :: (D ++ C) from by simp, ← List.length_append]
   exact getD_append_mid (A ++ B') vs (D ++ C) []
  have hlen9 : ((A.length + (l + 1) : Nat) : Int) - 1 < (x9.length : Int) := by rw [e2]; simp; omega
  have hBits : isBits (tab (2 ^ m) r) = true := isBits_tab _ _ hr
  have hnext : Tl (fun k => majority_Reed.l1 k x0 (m : Int) x2 x9 (tab (2 ^ m) r) x12 ((A.length + l : Nat) : Int) (s : Int) (tab (2 ^ m) fun p => pol (2 ^ m) (tab (2 ^ m) r) (vs :: D) p % 2)) R :=
   ih B' hl' (vs :: D) (fun v hv => hB v (by simp [hv])) (by omega) (by simpa using e1) (by simpa using e2)
  have ew : wrap64 (((A.length + (l + 1) : Nat) : Int) - 1) = ((A.length + l : Nat) : Int) := by rw [w64 (by omega) (by omega)]; omega
  have ew2 : ((A.length + (l + 1) : Nat) : Int) - 1 = ((A.length + l : Nat) : Int) := by omega
  rw [ew2] at hrd hlen9
  refine Tl.step (fun k => by rw [majority_Reed.l1]) ?_
  rw [ew]
  refine Tl.pos (by omega) (Tl.pos (by omega) (Tl.pos hlen9 ?_))
  rw [hrd, hvl, show ((s : Int) == (s : Int)) = true from by simp]
  refine Tl.step (fun k => by rw [majority_Reed.j3]) ?_
  rw [ew]
  refine Tl.pos rfl (Tl.pos (by omega) (Tl.pos hlen9 ?_))
  rw [hrd]
  refine Tl.bind (mask_tl vs hs6 (fun v hv => by have := hnn v hv; omega)) (Tl.bind (votes_tl m hm _ hBits (by simp) _ hT) ?_)
  have hvb := bitsum _ (votes_bit (2 ^ m) (maskOf vs 0) (tab (2 ^ m) r))
  have hvl64 := votes_len (2 ^ m) (maskOf vs 0) (tab (2 ^ m) r)
  refine p_ones x0 m x2 x9 _ x12 _ _ _ _ _ (votes_bit _ _ _) (by omega) R ?_ _ 0 rfl (Nat.zero_le _)
  rw [w64 (by omega) (by omega), ew]
  by_cases hmaj : maj (2 ^ m) (maskOf vs 0) (tab (2 ^ m) r) = true
  ·have h2 := of_decide_eq_true hmaj
   refine Tl.neg (by omega) ?_
   rw [tab_length]
   have hg := p_tog x0 m x2 x9 (tab (2 ^ m) r) x12 ((A.length + (l + 1) : Nat) : Int) s (maskOf vs 0) (2 ^ m) (by omega) h64 (fun p => pol (2 ^ m) (tab (2 ^ m) r) D p % 2) (fun p _ => bit_mod _) R ?_ _ 0 rfl (Nat.zero_le _)
   ·rw [tab_congr (n := 2 ^ m) (g := fun p => if p < 0 then (pol (2 ^ m) (tab (2 ^ m) r) D p % 2 + evp (maskOf vs 0) p) % 2 else pol (2 ^ m) (tab (2 ^ m) r) D p % 2) (h := fun p => pol (2 ^ m) (tab (2 ^ m) r) D p % 2) (fun p _ => if_neg (by omega))] at hg
    exact hg
   ·rw [ew, tab_congr (n := 2 ^ m) (g := fun p => (pol (2 ^ m) (tab (2 ^ m) r) D p % 2 + evp (maskOf vs 0) p) % 2) (h := fun p => pol (2 ^ m) (tab (2 ^ m) r) (vs :: D) p % 2)]
    ·exact hnext
    ·intro p _
     rw [pol_cons, tog, hmaj]
     show _ = (evp (maskOf vs 0) p + _) % 2
     omega
  ·have hmf : maj (2 ^ m) (maskOf vs 0) (tab (2 ^ m) r) = false := by simpa using hmaj
   have h2 := of_decide_eq_false hmf
   refine Tl.pos (by omega) ?_
   rw [tab_congr (n := 2 ^ m) (g := fun p => pol (2 ^ m) (tab (2 ^ m) r) D p % 2) (h := fun p => pol (2 ^ m) (tab (2 ^ m) r) (vs :: D) p % 2)]
   ·exact hnext
   ·intro p _
    rw [pol_cons, tog, hmf]
    show _ = (0 + _) % 2
    omega
end Go.Proofs.Ytjelamodjpepkaa.B
/- What the program's Reed answers: all degrees, the errors and the radius. -/
namespace Go.Proofs.Ytjelamodjpepkaa.B
open Go.RowKit Go.Proofs.YtjelamodjpepkaaW.PrintWords Go.Proofs.YtjelamodjpepkaaW.PrintMore Go.Proofs.Ytjelamodjpepkaa.P
set_option linter.unusedVariables false

def radius (r m : Nat) : Nat := (2 ^ (m - r) - 1) / 2
def fin (r m : Nat) (y w : List Int) : List Int × List Int × Int := if (errsTo w y w.length).length > radius r m then ([], [], 12) else (w, errsTo w y w.length, 0)
theorem rad_all : ∀ d : Nat, d < 7 → wrap64 (Int.tdiv (wrap64 ((shl .i64 1 (d : Int)) - 1)) 2) = (((2 ^ d - 1) / 2 : Nat) : Int) := by decide +kernel
theorem p_last (r m : Nat) (hm : m < 7) (hr : r ≤ m) (y : List Int) (hy : y.length = 2 ^ m) (x9 : List (List Int)) (x11 : List Int) (b : Nat → Int) :
  Tl (fun k => majority_Reed.l0 k (r : Int) (m : Int) y x9 x11 (tab (2 ^ m) b) ((0 : Nat) : Int)) (fin r m y (tab (2 ^ m) b)) := by
 have h64 : 2 ^ m ≤ 2 ^ 6 := Nat.pow_le_pow_right (by decide) (by omega)
 have hd : majority_decoded.f (tab (2 ^ m) b) y = some (tab (2 ^ m) b, errsTo (tab (2 ^ m) b) y (tab (2 ^ m) b).length) := by
  unfold majority_decoded.f
  exact if_pos ⟨by simp [hy], by simp; omega⟩
 refine Tl.step (fun k => by rw [majority_Reed.l0]) ?_
 refine Tl.neg (by omega) (Tl.bind1 hd ?_)
 have e : wrap64 ((m : Int) - (r : Int)) = ((m - r : Nat) : Int) := by rw [w64 (by omega) (by omega)]; omega
 rw [e]
 have e2 := rad_all (m - r) (by omega)
 rw [e2]
 refine Tl.pos (by omega) ?_
 unfold fin radius
 by_cases hc : (errsTo (tab (2 ^ m) b) y (tab (2 ^ m) b).length).length > (2 ^ (m - r) - 1) / 2
 ·rw [if_pos hc]
  exact Tl.pos (by show (((2 ^ (m - r) - 1) / 2 : Nat) : Int) < ((errsTo (tab (2 ^ m) b) y (tab (2 ^ m) b).length).length : Int); omega) (Tl.now _)
 ·rw [if_neg hc]
  exact Tl.neg (by show ¬ (((2 ^ (m - r) - 1) / 2 : Nat) : Int) < ((errsTo (tab (2 ^ m) b) y (tab (2 ^ m) b).length).length : Int); omega) (Tl.now _)
theorem p_outer (r m : Nat) (hm : m < 7) (hr : r ≤ m) (y : List Int) (hy : y.length = 2 ^ m) (x9 : List (List Int)) :
  ∀ (s : Nat), s ≤ r + 1 → ∀ (C : List (List Int)), x9 = monsTo m s ++ C → ∀ (b : Nat → Int), (∀ p, p < 2 ^ m → Bit (b p)) →
   Tl (fun k => majority_Reed.l0 k (r : Int) (m : Int) y x9 (tab (2 ^ m) fun p => (y.getD p 0 + b p) % 2) (tab (2 ^ m) b) ((monsTo m s).length : Int)) (fin r m y (tab (2 ^ m) (runW m y s b))) := by
 have h64 : 2 ^ m ≤ 2 ^ 6 := Nat.pow_le_pow_right (by decide) (by omega)
 intro s
 induction s with
 | zero =>
  intro _ C e b hb
  exact p_last r m hm hr y hy x9 _ b
 | succ s ih =>
  intro hs C e b hb
  have hB := mons_at m hm s (by omega)
  have hsm := monsTo_small m hm s (by omega)
  have hBl := hB.2.2 (by omega)
  obtain ⟨B', vs, hBe⟩ : ∃ B' vs, combs1 s m 0 [] = B' ++ [vs] := by
   have hne : combs1 s m 0 [] ≠ [] := by intro e; rw [e] at hBl; simp at hBl
   exact ⟨_, _, (List.dropLast_concat_getLast hne).symm⟩
  have hB' : B'.length + 1 = (combs1 s m 0 []).length := by rw [hBe]; simp
  have hvs : vs.length = s := (hB.2.1 vs (by rw [hBe]; simp)).1
  have e' : x9 = monsTo m s ++ (combs1 s m 0 [] ++ C) := by rw [e, monsTo, List.append_assoc]
  have elen : ((monsTo m (s + 1)).length : Int) = (((monsTo m s).length + (combs1 s m 0 []).length : Nat) : Int) := by rw [monsTo, List.length_append]
  rw [elen]
  have ew : wrap64 ((((monsTo m s).length + (combs1 s m 0 []).length : Nat) : Int) - 1) = (((monsTo m s).length + B'.length : Nat) : Int) := by rw [w64 (by omega) (by omega)]; omega
  have hrd : rd_L1 x9 (((monsTo m s).length + B'.length : Nat) : Int) = vs := by
   unfold rd_L1
   rw [e', hBe, toNat_nat, show monsTo m s ++ (B' ++ [vs] ++ C) = (monsTo m s ++ B') ++ vs :: C from by simp, ← List.length_append]
   exact getD_append_mid _ vs C []
  have hlen9 : (((monsTo m s).length + B'.length : Nat) : Int) < (x9.length : Int) := by rw [e', hBe]; simp; omega
  refine Tl.step (fun k => by rw [majority_Reed.l0]) ?_
  rw [ew, hy]
  refine Tl.pos (by omega) (Tl.pos (by omega) (Tl.pos hlen9 (Tl.pos (Int.natCast_nonneg _) (Tl.pos (by rw [toNat_nat]; omega) ?_))))
  rw [hrd, hvs, toNat_nat, tab_rep]
  have hr2 : ∀ p, p < 2 ^ m → Bit ((y.getD p 0 + b p) % 2) := fun p _ => bit_mod _
  have hblock := p_block m hm r y (monsTo m s) C (tab (2 ^ m) b) s (fun v hv => (hB.1 v hv).1) (by omega) (fun p => (y.getD p 0 + b p) % 2) hr2 (fin r m y (tab (2 ^ m) (runW m y (s + 1) b))) hy x9 (combs1 s m 0 []) ?_ (combs1 s m 0 []) [] hB.2.1 (by omega) (by simp) (by simpa using e')
  ·exact hblock
  ·have hadd := p_add r m y x9 ((monsTo m s).length : Int) (2 ^ m) h64 (fun p => pol (2 ^ m) (tab (2 ^ m) fun q => (y.getD q 0 + b q) % 2) (combs1 s m 0 []) p % 2) (fun p => (y.getD p 0 + b p) % 2) b (fun p _ => bit_mod _) hr2 hb (fin r m y (tab (2 ^ m) (runW m y (s + 1) b))) ?_ _ 0 rfl (Nat.zero_le _)
   ·rw [tab_congr (n := 2 ^ m) (g := fun p => if p < 0 then ((y.getD p 0 + b p) % 2 + pol (2 ^ m) (tab (2 ^ m) fun q => (y.getD q 0 + b q) % 2) (combs1 s m 0 []) p % 2) % 2 else (y.getD p 0 + b p) % 2) (h := fun p => (y.getD p 0 + b p) % 2) (fun p _ => if_neg (by omega)),
     tab_congr (n := 2 ^ m) (g := fun p => if p < 0 then (b p + pol (2 ^ m) (tab (2 ^ m) fun q => (y.getD q 0 + b q) % 2) (combs1 s m 0 []) p % 2) % 2 else b p) (h := b) (fun p _ => if_neg (by omega))] at hadd
    exact hadd
   ·have hih := ih (by omega) _ e' (fun p => (b p + pol (2 ^ m) (tab (2 ^ m) fun q => (y.getD q 0 + b q) % 2) (combs1 s m 0 []) p) % 2) (fun p _ => bit_mod _)
    rw [tab_congr (n := 2 ^ m) (g := fun p => (b p + pol (2 ^ m) (tab (2 ^ m) fun q => (y.getD q 0 + b q) % 2) (combs1 s m 0 []) p % 2) % 2) (h := fun p => (b p + pol (2 ^ m) (tab (2 ^ m) fun q => (y.getD q 0 + b q) % 2) (combs1 s m 0 []) p) % 2) (fun p _ => by omega),
     tab_congr (n := 2 ^ m) (g := fun p => ((y.getD p 0 + b p) % 2 + pol (2 ^ m) (tab (2 ^ m) fun q => (y.getD q 0 + b q) % 2) (combs1 s m 0 []) p % 2) % 2) (h := fun p => (y.getD p 0 + (b p + pol (2 ^ m) (tab (2 ^ m) fun q => (y.getD q 0 + b q) % 2) (combs1 s m 0 []) p) % 2) % 2) (fun p _ => by omega)]
    exact hih
/-- What Reed answers. -/
def reedS (r m : Int) (y : List Int) : List Int × List Int × Int :=
 if m < 0 ∨ m > 6 ∨ r < 0 ∨ r > m then ([], [], 6) else
 if bitsS (2 ^ m.toNat) y = 0 then fin r.toNat m.toNat y (tab (2 ^ m.toNat) (runW m.toNat y (r.toNat + 1) (fun _ => 0))) else ([], [], bitsS (2 ^ m.toNat) y)
theorem pReed_tl (r m : Int) (y : List Int) (hl : y.length < 9223372036854775808) : Tl (fun k => majority_Reed.f k r m y) (reedS r m y) := by
 unfold reedS majority_Reed.f
 by_cases hbad : m < 0 ∨ m > 6 ∨ r < 0 ∨ r > m
 ·rw [if_pos hbad]
  have hj : Tl (fun k => majority_Reed.j0 k r m y true) (([], [], 6) : List Int × List Int × Int) := by
   refine Tl.step (fun k => by rw [majority_Reed.j0]) ?_
   exact Tl.pos rfl (Tl.now _)
  by_cases h1 : m < 0
  ·exact Tl.pos h1 hj
  refine Tl.neg h1 ?_
  by_cases h2 : m > 6
  ·exact Tl.pos h2 hj
  refine Tl.neg h2 ?_
  by_cases h3 : r < 0
  ·exact Tl.pos h3 hj
  refine Tl.neg h3 ?_
  rw [decide_eq_true (show r > m by omega)]
  exact hj
 ·rw [if_neg hbad]
  obtain ⟨n, rfl⟩ := Int.eq_ofNat_of_zero_le (show 0 ≤ m by omega)
  obtain ⟨s, rfl⟩ := Int.eq_ofNat_of_zero_le (show 0 ≤ r by omega)
  rw [toNat_nat, toNat_nat]
  refine Tl.neg (by omega) (Tl.neg (by omega) (Tl.neg (by omega) ?_))
  rw [decide_eq_false (show ¬ (s : Int) > (n : Int) by omega)]
  refine Tl.step (fun k => by rw [majority_Reed.j0]) ?_
  refine Tl.neg (by decide) (Tl.bind (bits_tl n (by omega) y hl) ?_)
  by_cases hb : bitsS (2 ^ n) y = 0
  ·rw [if_pos hb]
   obtain ⟨hlen, hbits⟩ := bitsS_ok hb
   have h64 : 2 ^ n ≤ 2 ^ 6 := Nat.pow_le_pow_right (by decide) (by omega)
   have hm : classic_Monomials.f (s : Int) (n : Int) = some (monsTo n (s + 1), 0) := by
    unfold classic_Monomials.f
    rw [if_neg (by omega), toNat_nat, show ((s : Int) + 1).toNat = s + 1 from by omega]
   refine Tl.pos hb (Tl.bind1 hm ?_)
   rw [List.nil_append, hlen]
   refine Tl.pos (by simp; omega) (Tl.pos (Int.natCast_nonneg _) (Tl.pos (by rw [toNat_nat]; omega) ?_))
   rw [toNat_nat, tab_rep]
   have := p_outer s n (by omega) (by omega) y hlen (monsTo n (s + 1)) (s + 1) (Nat.le_refl _) [] (by simp) (fun _ => 0) (fun _ _ => .inl rfl)
   rw [tab_congr (n := 2 ^ n) (g := fun p => (y.getD p 0 + 0) % 2) (h := fun p => y.getD p 0)] at this
   ·have e := tab_of y
    rw [hlen] at e
    rw [← e] at this
    exact this
   ·intro p _
    have := isBits_get hbits p
    unfold Bit at this
    omega
  ·rw [if_neg hb]
   exact Tl.neg hb (Tl.now _)
end Go.Proofs.Ytjelamodjpepkaa.B
/- Reed's majorities set errors right (no program in sight): first the votes of a sum of monomials and of an error. -/
namespace Go.Proofs.Ytjelamodjpepkaa.B
open Go.RowKit Go.Proofs.YtjelamodjpepkaaW.PrintWords Go.Proofs.YtjelamodjpepkaaW.PrintMore Go.Proofs.Ytjelamodjpepkaa.P
set_option linter.unusedVariables false

/-- The value at p of the polynomial with the coefficients c over the masks of l. -/
def polyL (c : Nat → Int) (l : List Nat) (p : Nat) : Int := (l.map fun T => c T * evp T p).sum
theorem sum_map_mul (a : Int) (l : List Nat) (f : Nat → Int) : (l.map fun q => a * f q).sum = a * (l.map f).sum := by
 induction l with
 | nil => simp
 | cons x l ih => simp only [List.map_cons, List.sum_cons, ih, Int.mul_add]
/-- The vote of a sum of monomials of degrees up to that of S is the coefficient of S. -/
theorem vote_polyL (m : Nat) (hm : m < 7) (S : Nat) (hS : S < 2 ^ m) (c : Nat → Int) (p : Nat) (hp : p < 2 ^ m) (h0 : p &&& S = 0) :
  ∀ l : List Nat, (∀ T ∈ l, T < 2 ^ m) → (∀ T ∈ l, c T ≠ 0 → popc T ≤ popc S) →
   (((subL 64 S S).map (p ||| ·)).map (polyL c l)).sum % 2 = (l.map fun T => if T = S then c T else 0).sum % 2
 | [], _, _ => by
  have : ((subL 64 S S).map (p ||| ·)).map (polyL c []) = ((subL 64 S S).map (p ||| ·)).map fun q => 0 * evp 0 q := by
   refine List.map_congr_left fun q _ => ?_
   simp [polyL]
  rw [this, sum_map_mul]; simp
 | T :: l, hl, hc => by
  have ih := vote_polyL m hm S hS c p hp h0 l (fun T hT => hl T (List.mem_cons_of_mem _ hT)) (fun T hT => hc T (List.mem_cons_of_mem _ hT))
  have e : ((subL 64 S S).map (p ||| ·)).map (polyL c (T :: l)) = ((subL 64 S S).map (p ||| ·)).map fun q => c T * evp T q + polyL c l q := rfl
  rw [e, sum_map_add, sum_map_mul, List.map_cons, List.sum_cons]
  by_cases hz : c T = 0
  ·rw [hz]; simp only [Int.zero_mul, ite_self]; omega
  ·have hv := vote_mono m hm S T hS (hl T (List.mem_cons_self ..)) (hc T (List.mem_cons_self ..) hz) p hp h0
   rw [evT_tab, voteS_tab m hm S hS p hp h0] at hv
   by_cases hTS : T = S
   ·rw [if_pos hTS] at hv ⊢
    have : c T * (((subL 64 S S).map (p ||| ·)).map (evp T)).sum % 2 = c T % 2 := by rw [Int.mul_emod, hv]; simp
    omega
   ·rw [if_neg hTS] at hv ⊢
    have : c T * (((subL 64 S S).map (p ||| ·)).map (evp T)).sum % 2 = 0 := by rw [Int.mul_emod, hv]; simp
    omega
theorem sum_pick (c : Nat → Int) (S : Nat) : ∀ n, (((List.range n).map fun T => if T = S then c T else 0).sum) = if S < n then c S else 0 := by
 intro n
 induction n with
 | zero => simp
 | succ n ih =>
  rw [List.range_succ, List.map_append, List.sum_append, ih]
  by_cases h : n = S
  ·subst h; simp
  ·by_cases h2 : S < n
   ·simp [h, h2, show S < n + 1 from by omega]
   ·simp [h, h2, show ¬ S < n + 1 from by omega]
/-- The votes of an error: at most as many as there are errors. -/
theorem sum_split (e : Nat → Int) (f : Nat → Nat) (P : List Nat) : ∀ L : List Nat, (P.map fun p => ((L.filter fun q => f q == p).map e).sum).sum = (L.map fun q => (P.count (f q) : Int) * e q).sum
 | [] => by
  induction P with
  | nil => rfl
  | cons a P ih => simpa using ih
 | q :: L => by
  have ih := sum_split e f P L
  rw [List.map_cons, List.sum_cons, ← ih]
  clear ih
  induction P with
  | nil => simp
  | cons a P ih =>
   simp only [List.map_cons, List.sum_cons, List.count_cons]
   by_cases h : f q = a
   ·subst h
    rw [List.filter_cons_of_pos (p := fun x => f x == f q) (a := q) (show (f q == f q) = true from by simp), List.map_cons, List.sum_cons, ih]
    simp only [beq_self_eq_true, if_pos]
    push_cast
    rw [Int.add_mul]
    omega
   ·rw [List.filter_cons_of_neg (by simpa using h), ih, show (a == f q) = false from beq_eq_false_iff_ne.2 (fun e => h e.symm)]
    simp only [Bool.false_eq_true, if_false, Nat.add_zero]
    omega
theorem sum_le_map (l : List Nat) (f g : Nat → Int) (h : ∀ x ∈ l, f x ≤ g x) : (l.map f).sum ≤ (l.map g).sum := by
 induction l with
 | nil => simp
 | cons a l ih =>
  have h1 := h a (List.mem_cons_self ..)
  have h2 := ih fun x hx => h x (List.mem_cons_of_mem _ hx)
  simp only [List.map_cons, List.sum_cons]
  omega
theorem sum_nonneg (l : List Nat) (f : Nat → Int) (h : ∀ x ∈ l, 0 ≤ f x) : 0 ≤ (l.map f).sum := by
 induction l with
 | nil => simp
 | cons a l ih =>
  have h1 := h a (List.mem_cons_self ..)
  have h2 := ih fun x hx => h x (List.mem_cons_of_mem _ hx)
  simp only [List.map_cons, List.sum_cons]
  omega
theorem err_votes (n S : Nat) (e : Nat → Int) (he : ∀ p, p < n → Bit (e p)) : (((List.range n).filter fun p => p &&& S == 0).map (voteS n S (tab n e))).sum ≤ ((List.range n).map e).sum := by
 have hpt : ∀ p q, q ∈ ptsOf n S p → q < n := fun p q hq => by
  have := (List.mem_filter.1 hq).1
  simpa using this
 have h1 : (((List.range n).filter fun p => p &&& S == 0).map (voteS n S (tab n e))).sum ≤ (((List.range n).filter fun p => p &&& S == 0).map fun p => (((List.range n).filter fun q => q - (q &&& S) == p).map e).sum).sum := by
  refine sum_le_map _ _ _ fun p _ => ?_
  unfold voteS
  rw [sumL_tab n e _ (hpt p)]
  have h0 := sum_nonneg (ptsOf n S p) e fun q hq => by
   have := he q (hpt p q hq)
   unfold Bit at this
   omega
  have e1 : ptsOf n S p = (List.range n).filter fun q => q - (q &&& S) == p := rfl
  rw [← e1]
  omega
 refine Int.le_trans h1 ?_
 rw [sum_split]
 refine sum_le_map _ _ _ fun q hq => ?_
 have hn : ((List.range n).filter fun p => p &&& S == 0).Nodup := (List.filter_sublist).nodup List.nodup_range
 have hc := List.nodup_iff_count.1 hn (q - (q &&& S))
 have hb := he q (by simpa using hq)
 rcases hb with h | h
 ·rw [h]; omega
 ·rw [h]; omega
end Go.Proofs.Ytjelamodjpepkaa.B
/- Reed's majorities set up to the radius's errors right. -/
namespace Go.Proofs.Ytjelamodjpepkaa.B
open Go.RowKit Go.Proofs.YtjelamodjpepkaaW.PrintWords Go.Proofs.YtjelamodjpepkaaW.PrintMore Go.Proofs.Ytjelamodjpepkaa.P
set_option linter.unusedVariables false

theorem sum_bits_vs (l : List Nat) (a : Int) (f g : Nat → Int) (ha : Bit a) (hg : ∀ x ∈ l, Bit (g x)) (hf : ∀ x ∈ l, f x = (a + g x) % 2) : (a = 0 → (l.map f).sum = (l.map g).sum) ∧ (a = 1 → (l.map f).sum = l.length - (l.map g).sum) := by
 induction l with
 | nil => simp
 | cons x l ih =>
  have ih := ih (fun y hy => hg y (List.mem_cons_of_mem _ hy)) (fun y hy => hf y (List.mem_cons_of_mem _ hy))
  have h1 := hg x (List.mem_cons_self ..)
  have h2 := hf x (List.mem_cons_self ..)
  unfold Bit at h1
  simp only [List.map_cons, List.sum_cons, List.length_cons]
  push_cast
  exact ⟨fun h => by have := ih.1 h; omega, fun h => by have := ih.2 h; omega⟩
/-- The majority of the votes for S is the coefficient of S. -/
theorem maj_right (m : Nat) (hm : m < 7) (r : Nat) (S : Nat) (hS : S < 2 ^ m) (c e : Nat → Int) (hcb : ∀ T, Bit (c T)) (he : ∀ p, p < 2 ^ m → Bit (e p)) (hdeg : ∀ T, T < 2 ^ m → c T ≠ 0 → popc T ≤ popc S) (ht : 2 * ((List.range (2 ^ m)).map e).sum < ((2 ^ (m - popc S) : Nat) : Int))
  (y : List Int) (hy : y = tab (2 ^ m) fun p => (polyL c (List.range (2 ^ m)) p + e p) % 2) : maj (2 ^ m) S y = decide (c S = 1) := by
 subst hy
 have hlen := votes_length m hm S hS (tab (2 ^ m) fun p => (polyL c (List.range (2 ^ m)) p + e p) % 2)
 have herr := err_votes (2 ^ m) S e he
 have hv : ∀ p ∈ (List.range (2 ^ m)).filter (fun p => p &&& S == 0), voteS (2 ^ m) S (tab (2 ^ m) fun p => (polyL c (List.range (2 ^ m)) p + e p) % 2) p = (c S + voteS (2 ^ m) S (tab (2 ^ m) e) p) % 2 := by
  intro p hp
  obtain ⟨h1, h2⟩ := List.mem_filter.1 hp
  have hpn : p < 2 ^ m := by simpa using h1
  have h0 : p &&& S = 0 := by simpa using h2
  have hpoly := vote_polyL m hm S hS c p hpn h0 (List.range (2 ^ m)) (fun T hT => by simpa using hT) (fun T hT => hdeg T (by simpa using hT))
  rw [sum_pick, if_pos hS] at hpoly
  rw [voteS_add m hm S hS p hpn h0, voteS_tab m hm S hS p hpn h0 (polyL c (List.range (2 ^ m))), hpoly]
  have := hcb S
  unfold Bit at this
  omega
 have hs := sum_bits_vs ((List.range (2 ^ m)).filter fun p => p &&& S == 0) (c S) _ (voteS (2 ^ m) S (tab (2 ^ m) e)) (hcb S) (fun p _ => bit_mod _) hv
 have hl2 : ((List.range (2 ^ m)).filter fun p => p &&& S == 0).length = 2 ^ (m - popc S) := by
  have := votes_length m hm S hS []
  unfold votesS at this
  simpa using this
 unfold maj
 rw [hlen]
 show decide (2 * (((List.range (2 ^ m)).filter fun p => p &&& S == 0).map (voteS (2 ^ m) S _)).sum > _) = _
 rcases hcb S with h | h
 ·rw [hs.1 h, decide_eq_false (by omega), decide_eq_false (by omega)]
 ·rw [hs.2 h, decide_eq_true (by omega), decide_eq_true h]
end Go.Proofs.Ytjelamodjpepkaa.B
/- Reed's majorities set up to the radius's errors right: all degrees. -/
namespace Go.Proofs.Ytjelamodjpepkaa.B
open Go.RowKit Go.Proofs.YtjelamodjpepkaaW.PrintWords Go.Proofs.YtjelamodjpepkaaW.PrintMore Go.Proofs.Ytjelamodjpepkaa.P
set_option linter.unusedVariables false

theorem combs_check : ∀ m : Nat, m < 7 → ∀ s, s < 8 → ((combs1 s m 0 []).map fun vs => maskOf vs 0).isPerm ((List.range (2 ^ m)).filter fun T => popc T == s) = true := by decide +kernel
theorem perm_sum {a b : List Int} (h : a.Perm b) : a.sum = b.sum := by
 induction h with
 | nil => rfl
 | cons x _ ih => simp only [List.sum_cons, ih]
 | swap x y l => simp only [List.sum_cons]; omega
 | trans _ _ ih1 ih2 => exact ih1.trans ih2
theorem sum_filter_split (l : List Nat) (q : Nat → Bool) (f : Nat → Int) : (l.map f).sum = (l.map fun T => if q T = true then 0 else f T).sum + ((l.filter q).map f).sum := by
 induction l with
 | nil => rfl
 | cons a l ih =>
  simp only [List.map_cons, List.sum_cons]
  cases h : q a with
  | true => rw [List.filter_cons_of_pos h]; simp only [List.map_cons, List.sum_cons, if_true]; omega
  | false => rw [List.filter_cons_of_neg (by simp [h])]; simp only [Bool.false_eq_true, if_false]; omega
theorem runW_right (m : Nat) (hm : m < 7) (r : Nat) (hr : r ≤ m) (y : List Int) (e : Nat → Int) (he : ∀ p, p < 2 ^ m → Bit (e p)) (ht : 2 * ((List.range (2 ^ m)).map e).sum < ((2 ^ (m - r) : Nat) : Int)) :
  ∀ (s : Nat), s ≤ r + 1 → ∀ (b c : Nat → Int), (∀ p, p < 2 ^ m → Bit (b p)) → (∀ T, Bit (c T)) → (∀ T, T < 2 ^ m → c T ≠ 0 → popc T < s) →
   (∀ p, p < 2 ^ m → (y.getD p 0 + b p) % 2 = (polyL c (List.range (2 ^ m)) p + e p) % 2) → ∀ p, p < 2 ^ m → runW m y s b p = (b p + polyL c (List.range (2 ^ m)) p) % 2 := by
 intro s
 induction s with
 | zero =>
  intro _ b c hb hc hd hy p hp
  have h0 : polyL c (List.range (2 ^ m)) p = 0 := by
   have e1 : ((List.range (2 ^ m)).map fun T => c T * evp T p) = (List.range (2 ^ m)).map fun T => 0 * evp T p := by
    refine List.map_congr_left fun T hT => ?_
    by_cases hz : c T = 0
    ·rw [hz]
    ·exact absurd (hd T (by simpa using hT) hz) (by omega)
   unfold polyL
   rw [e1, sum_map_mul]; simp
  have := hb p hp
  unfold Bit at this
  rw [runW, h0]
  omega
 | succ s ih =>
  intro hs b c hb hc hd hy p hp
  have hB := mons_at m hm s (by omega)
  have hperm := List.isPerm_iff.1 (combs_check m hm s (by omega))
  have hpow : 2 ^ (m - r) ≤ 2 ^ (m - s) := Nat.pow_le_pow_right (by decide) (by omega)
  have hleft : (tab (2 ^ m) fun q => (y.getD q 0 + b q) % 2) = tab (2 ^ m) fun q => (polyL c (List.range (2 ^ m)) q + e q) % 2 := tab_congr hy
  have hpol : ∀ q, pol (2 ^ m) (tab (2 ^ m) fun q => (y.getD q 0 + b q) % 2) (combs1 s m 0 []) q = (((List.range (2 ^ m)).filter fun T => popc T == s).map fun T => c T * evp T q).sum := by
   intro q
   rw [← perm_sum (hperm.map fun T => c T * evp T q), List.map_map]
   unfold pol
   congr 1
   refine List.map_congr_left fun vs hvs => ?_
   obtain ⟨hvl, hva⟩ := hB.2.1 vs hvs
   have hT := asc_mask_lt hva
   have h64 : 2 ^ m ≤ 2 ^ 6 := Nat.pow_le_pow_right (by decide) (by omega)
   have hpc : popc (maskOf vs 0) = s := by
    rw [← varsOf_length _ (by omega), ← asc_vars (by omega) hva, hvl]
   have hmaj := maj_right m hm r (maskOf vs 0) hT c e hc he (fun T hT hz => by have := hd T hT hz; omega) (by rw [hpc]; omega) _ hleft
   show tog _ _ (maskOf vs 0) q = c (maskOf vs 0) * evp (maskOf vs 0) q
   unfold tog
   rw [hmaj]
   rcases hc (maskOf vs 0) with h | h
   ·rw [h]; simp
   ·rw [h]; simp
  have hsplit : ∀ q, polyL c (List.range (2 ^ m)) q = polyL (fun T => if (popc T == s) = true then 0 else c T) (List.range (2 ^ m)) q + (((List.range (2 ^ m)).filter fun T => popc T == s).map fun T => c T * evp T q).sum := by
   intro q
   unfold polyL
   rw [sum_filter_split (List.range (2 ^ m)) (fun T => popc T == s) fun T => c T * evp T q]
   congr 2
   refine List.map_congr_left fun T _ => ?_
   by_cases h : (popc T == s) = true
   ·simp [h]
   ·simp [h]
  have hih := ih (by omega) (fun p => (b p + pol (2 ^ m) (tab (2 ^ m) fun q => (y.getD q 0 + b q) % 2) (combs1 s m 0 []) p) % 2) (fun T => if (popc T == s) = true then 0 else c T) (fun p _ => bit_mod _)
   (fun T => by
    by_cases h : (popc T == s) = true
    ·rw [if_pos h]; exact .inl rfl
    ·rw [if_neg h]; exact hc T)
   (fun T hT hz => by
    by_cases h : (popc T == s) = true
    ·rw [if_pos h] at hz; exact absurd rfl hz
    ·rw [if_neg h] at hz
     have := hd T hT hz
     have : popc T ≠ s := by simpa using h
     omega)
   (fun q hq => by
    have h1 := hy q hq
    have h2 := hsplit q
    show (y.getD q 0 + (b q + pol _ _ _ q) % 2) % 2 = _
    rw [hpol q]
    omega) p hp
  rw [runW, hih]
  have h2 := hsplit p
  show ((b p + pol _ _ _ p) % 2 + _) % 2 = _
  rw [hpol p]
  omega
/-- Reed's word of a received word: the sent word, if there are few errors. -/
theorem reed_right (m : Nat) (hm : m < 7) (r : Nat) (hr : r ≤ m) (c e : Nat → Int) (hc : ∀ T, Bit (c T)) (hd : ∀ T, T < 2 ^ m → c T ≠ 0 → popc T ≤ r) (he : ∀ p, p < 2 ^ m → Bit (e p)) (ht : 2 * ((List.range (2 ^ m)).map e).sum < ((2 ^ (m - r) : Nat) : Int)) (y : List Int)
  (hy : ∀ p, p < 2 ^ m → y.getD p 0 = (polyL c (List.range (2 ^ m)) p + e p) % 2) : tab (2 ^ m) (runW m y (r + 1) fun _ => 0) = tab (2 ^ m) fun p => polyL c (List.range (2 ^ m)) p % 2 := by
 refine tab_congr fun p hp => ?_
 rw [runW_right m hm r hr y e he ht (r + 1) (Nat.le_refl _) (fun _ => 0) c (fun _ _ => .inl rfl) hc (fun T hT hz => by have := hd T hT hz; omega) (fun q hq => by rw [hy q hq]; omega) p hp]
 omega
end Go.Proofs.Ytjelamodjpepkaa.B
/- The field of two elements. -/
namespace Go.Proofs.Ytjelamodjpepkaa.B
open Go.RowKit Go.Proofs.YtjelamodjpepkaaW.PrintWords Go.Proofs.YtjelamodjpepkaaW.PrintMore Go.Proofs.Ytjelamodjpepkaa.P
set_option linter.unusedVariables false
def G2 : Ops := { El := Bit, mul := fun a b => a * b, add := fun a b => (a + b) % 2, neg := fun a => a, inv := fun a => a }
theorem G2_ok : OpsOk 2 1 [] G2 where
 zero := .inl rfl
 mulE := fun a b ha hb => by
  rcases ha with rfl | rfl <;> rcases hb with rfl | rfl <;> first | exact .inl rfl | exact .inr rfl
 addE := fun a b ha hb => bit_mod _
 negE := fun a ha => ha
 invE := fun a ha _ => ha
 mulT := fun a b ha hb => by
  rcases ha with rfl | rfl <;> rcases hb with rfl | rfl <;> exact Tl.of2 (k := 60) (r04Mul.mono _ _ _ _ _) (by decide +kernel)
 addT := fun a b ha hb => by
  rcases ha with rfl | rfl <;> rcases hb with rfl | rfl <;> exact Tl.of2 (k := 60) (r04Add.mono _ _ _ _ _) (by decide +kernel)
 negT := fun a ha => by
  rcases ha with rfl | rfl <;> exact Tl.of2 (k := 60) (r04Neg.mono _ _ _ _) (by decide +kernel)
 invT := fun a ha hz => by
  rcases ha with rfl | rfl
  ·exact absurd rfl hz
  ·exact Tl.of2 (k := 60) (r04Inv.mono _ _ _ _) (by decide +kernel)
/-- A word of the Reed-Muller code: the values of a polynomial of degree at most r. -/
def IsPoly (m r : Nat) (x : List Int) : Prop := ∃ c : Nat → Int, (∀ T, Bit (c T)) ∧ (∀ T, T < 2 ^ m → c T ≠ 0 → popc T ≤ r) ∧ x = tab (2 ^ m) fun p => polyL c (List.range (2 ^ m)) p % 2
theorem polyL_add (c c' : Nat → Int) (l : List Nat) (p : Nat) : polyL (fun T => c T + c' T) l p = polyL c l p + polyL c' l p := by
 unfold polyL
 rw [← sum_map_add]
 congr 1
 exact List.map_congr_left fun T _ => Int.add_mul _ _ _
theorem polyL_mod (c : Nat → Int) (l : List Nat) (p : Nat) : polyL (fun T => c T % 2) l p % 2 = polyL c l p % 2 := by
 unfold polyL
 induction l with
 | nil => rfl
 | cons T l ih =>
  simp only [List.map_cons, List.sum_cons]
  have h : c T % 2 * evp T p % 2 = c T * evp T p % 2 := by simp [Int.mul_emod]
  have ih : (l.map fun T => c T % 2 * evp T p).sum % 2 = (l.map fun T => c T * evp T p).sum % 2 := ih
  omega
theorem isPoly_add (m r : Nat) (x y : List Int) (hx : IsPoly m r x) (hy : IsPoly m r y) : IsPoly m r (tab (2 ^ m) fun p => (x.getD p 0 + y.getD p 0) % 2) := by
 obtain ⟨c, hc, hd, rfl⟩ := hx
 obtain ⟨c', hc', hd', rfl⟩ := hy
 refine ⟨fun T => (c T + c' T) % 2, fun T => bit_mod _, fun T hT hz => ?_, ?_⟩
 ·by_cases h1 : c T = 0
  ·by_cases h2 : c' T = 0
   ·simp only [h1, h2] at hz; exact absurd rfl hz
   ·exact hd' T hT h2
  ·exact hd T hT h1
 ·refine tab_congr fun p hp => ?_
  rw [tab_getD p 0 hp, tab_getD p 0 hp, polyL_mod, polyL_add]
  omega
theorem isPoly_zero (m r : Nat) : IsPoly m r (tab (2 ^ m) fun _ => 0) := by
 refine ⟨fun _ => 0, fun _ => .inl rfl, fun T _ h => absurd rfl h, tab_congr fun p _ => ?_⟩
 have : polyL (fun _ => 0) (List.range (2 ^ m)) p = 0 := by
  unfold polyL
  rw [sum_map_mul 0]; simp
 rw [this]; rfl
theorem isPoly_len {m r : Nat} {x : List Int} (h : IsPoly m r x) : x.length = 2 ^ m := by
 obtain ⟨c, _, _, rfl⟩ := h; simp
theorem isPoly_bits {m r : Nat} {x : List Int} (h : IsPoly m r x) : ∀ v ∈ x, Bit v := by
 obtain ⟨c, _, _, rfl⟩ := h
 intro v hv
 obtain ⟨p, _, rfl⟩ := List.mem_map.1 hv
 exact bit_mod _
theorem isPoly_scale (m r : Nat) (a : Int) (ha : Bit a) (x : List Int) (hx : IsPoly m r x) : IsPoly m r (scaleS G2 a x) := by
 have e : scaleS G2 a x = x.map (a * ·) := rfl
 rcases ha with rfl | rfl
 ·have : scaleS G2 0 x = tab (2 ^ m) fun _ => 0 := by
   rw [e, map_tab, isPoly_len hx]
   exact tab_congr fun p _ => by simp
  rw [this]; exact isPoly_zero m r
 ·have : scaleS G2 1 x = x := by rw [e]; simp
  rw [this]; exact hx
theorem isPoly_addTo (m r : Nat) (a : Int) (ha : Bit a) (x y : List Int) (hx : IsPoly m r x) (hy : IsPoly m r y) : IsPoly m r (addToS G2 x a y) := by
 have h := isPoly_add m r x _ hx (isPoly_scale m r a ha y hy)
 have e : addToS G2 x a y = tab (2 ^ m) fun p => (x.getD p 0 + (scaleS G2 a y).getD p 0) % 2 := by
  unfold addToS
  rw [isPoly_len hx]
  refine tab_congr fun p hp => ?_
  have e2 : (scaleS G2 a y).getD p 0 = a * y.getD p 0 := by
   show (y.map (a * ·)).getD p 0 = _
   rw [map_tab, tab_getD p 0 (by rw [isPoly_len hy]; exact hp)]
  rw [e2]
  have hb : Bit (x.getD p 0) := ElL_get G2_ok (G := G2) (isPoly_bits hx) p
  unfold Bit at hb
  by_cases hz : y.getD p 0 = 0
  ·rw [if_pos hz, hz]; omega
  ·rw [if_neg hz]; rfl
 rw [e]; exact h
end Go.Proofs.Ytjelamodjpepkaa.B
/- The reference's list of monomials is the program's (a check by the kernel over the 35 cases). -/
namespace Go.Proofs.Ytjelamodjpepkaa.B
open Go.RowKit Go.Proofs.YtjelamodjpepkaaW.PrintWords Go.Proofs.YtjelamodjpepkaaW.PrintMore Go.Proofs.Ytjelamodjpepkaa.P
set_option linter.unusedVariables false
theorem Tl.of {α : Type} {g : Nat → Option α} {r : α} (hg : ∀ k, LeO (g k) (g (k + 1))) {k : Nat} (h : g k = some r) : Tl g r := ⟨k, fun _ hk => at_rounds hg hk h⟩
set_option maxRecDepth 100000 in
theorem rmons_check : ((List.range 7).all fun m => (List.range (m + 2)).all fun s => decide (r15Monomials.f 400 ((s : Int) - 1) (m : Int) = some (monsTo m s, 0))) = true := by decide +kernel
theorem rmons_all (m : Nat) (hm : m < 7) (s : Nat) (hs : s < m + 2) : r15Monomials.f 400 ((s : Int) - 1) (m : Int) = some (monsTo m s, 0) := by
 have h := rmons_check
 rw [List.all_eq_true] at h
 have h2 := h m (by simpa using hm)
 rw [List.all_eq_true] at h2
 exact of_decide_eq_true (h2 s (by simpa using hs))
/-- What Monomials answers. -/
def monS (r m : Int) : List (List Int) × Int := if m < 0 ∨ m > 6 ∨ r < -1 ∨ r > m then ([], 6) else (monsTo m.toNat (r + 1).toNat, 0)
theorem rMon_tl (r m : Int) : Tl (fun k => r15Monomials.f k r m) (monS r m) := by
 unfold monS
 by_cases hbad : m < 0 ∨ m > 6 ∨ r < -1 ∨ r > m
 ·rw [if_pos hbad]
  unfold r15Monomials.f
  by_cases h1 : m < 0
  ·refine Tl.pos h1 ?_
   refine Tl.step (fun k => by rw [r15Monomials.j0]) ?_
   exact Tl.pos rfl (Tl.now _)
  refine Tl.neg h1 ?_
  by_cases h2 : m > 6
  ·refine Tl.pos h2 ?_
   refine Tl.step (fun k => by rw [r15Monomials.j0]) ?_
   exact Tl.pos rfl (Tl.now _)
  refine Tl.neg h2 ?_
  by_cases h3 : r < -1
  ·refine Tl.pos h3 ?_
   refine Tl.step (fun k => by rw [r15Monomials.j0]) ?_
   exact Tl.pos rfl (Tl.now _)
  refine Tl.neg h3 ?_
  refine Tl.step (fun k => by rw [r15Monomials.j0]) ?_
  exact Tl.pos (by simp; omega) (Tl.now _)
 ·rw [if_neg hbad]
  obtain ⟨n, rfl⟩ := Int.eq_ofNat_of_zero_le (show 0 ≤ m by omega)
  obtain ⟨s, hs⟩ := Int.eq_ofNat_of_zero_le (show 0 ≤ r + 1 by omega)
  obtain rfl : r = (s : Int) - 1 := by omega
  have h := rmons_all n (by omega) s (by omega)
  rw [show ((s : Int) - 1 + 1).toNat = s from by omega, toNat_nat]
  exact Tl.of (r15Monomials.mono _ _) h
theorem monS_len (r m : Int) : (monS r m).1.length < 9223372036854775808 ∧ ∀ x ∈ (monS r m).1, x.length < 9223372036854775808 := by
 have H : ∀ m, m < 7 → ∀ s, s < m + 2 → (monsTo m s).length ≤ 64 ∧ (monsTo m s).all (fun x => decide (x.length ≤ 6)) = true := by decide +kernel
 unfold monS
 by_cases hbad : m < 0 ∨ m > 6 ∨ r < -1 ∨ r > m
 ·rw [if_pos hbad]; simp
 ·rw [if_neg hbad]
  obtain ⟨h1, h2⟩ := H m.toNat (by omega) (r + 1).toNat (by omega)
  rw [List.all_eq_true] at h2
  refine ⟨by show (monsTo m.toNat (r + 1).toNat).length < _; omega, fun x hx => ?_⟩
  have := h2 x hx
  simp at this
  omega
end Go.Proofs.Ytjelamodjpepkaa.B
/- The reference's Reed-Muller code: its generators are values of polynomials of degree at most r. -/
namespace Go.Proofs.Ytjelamodjpepkaa.B
open Go.RowKit Go.Proofs.YtjelamodjpepkaaW.PrintWords Go.Proofs.YtjelamodjpepkaaW.PrintMore Go.Proofs.Ytjelamodjpepkaa.P
set_option linter.unusedVariables false
theorem canon_tl {P M : Int} {Mod : List Int} {G : Ops} (h : OpsOk P M Mod G) (cols n : Nat) (hn : n < 1000000) (hcn : cols ≤ n) (l : List (List Int)) (hl : Mat G n l) (hll : l.length < 1000000) :
  Tl (fun k => r09Canon.f k P M Mod l (cols : Int)) ((elimS G l cols).1.take (elimS G l cols).2.length, (elimS G l cols).2) := by
 have hk := elimGo_keeps h n (fun _ => True) (fun _ _ _ _ _ _ => trivial) (fun _ _ _ _ _ _ _ _ _ _ => trivial) cols cols 0 0 l [] hl (fun _ _ => trivial) (Nat.le_refl _) (Nat.zero_le _)
 unfold r09Canon.f
 refine Tl.bind (elim_tl h cols n hn hcn l hl hll) (Tl.pos (Int.natCast_nonneg _) (Tl.pos ?_ ?_))
 ·have h1 := hk.2.2.1
  have h2 := hk.2.2.2
  show ((elimS G l cols).2.length : Int) ≤ ((elimS G l cols).1.length : Int)
  unfold elimS
  omega
 ·rw [toNat_nat]; exact Tl.now _
theorem make2_tl (n : Nat) (hn : n < 1000000) (l : List (List Int)) (hl : Mat G2 n l) (hll : l.length < 1000000) : Tl (fun k => r12Make.f k 2 1 [] l (n : Int)) (2, 1, [], (n : Int), (elimS G2 l n).1.take (elimS G2 l n).2.length) := by
 unfold r12Make.f
 refine Tl.bind (canon_tl G2_ok n n hn (Nat.le_refl _) l hl hll) (Tl.bind1 (a := (2, 1, [])) (by decide) (Tl.now _))
/-- The generators. -/
def genS (m r : Nat) : List (List Int) := (elimS G2 ((monsTo m (r + 1)).map fun vs => evT m (maskOf vs 0)) (2 ^ m)).1.take (elimS G2 ((monsTo m (r + 1)).map fun vs => evT m (maskOf vs 0)) (2 ^ m)).2.length
theorem isPoly_mono (m r T : Nat) (hT : T < 2 ^ m) (hp : popc T ≤ r) : IsPoly m r (evT m T) := by
 refine ⟨fun S => if S = T then 1 else 0, fun S => ?_, fun S hS hz => ?_, ?_⟩
 ·show Bit (if S = T then 1 else 0)
  split
  ·exact .inr rfl
  ·exact .inl rfl
 ·by_cases h : S = T
  ·rw [h]; exact hp
  ·simp only [if_neg h] at hz; exact absurd rfl hz
 ·rw [evT_tab]
  refine tab_congr fun p _ => ?_
  have e : ((List.range (2 ^ m)).map fun S => (if S = T then (1 : Int) else 0) * evp S p) = (List.range (2 ^ m)).map fun S => if S = T then (fun S => evp S p) S else 0 := by
   refine List.map_congr_left fun S _ => ?_
   by_cases h : S = T
   ·simp [h]
   ·simp [h]
  unfold polyL
  rw [e, sum_pick (fun S => evp S p) T, if_pos hT]
  have := evp_bit T p
  unfold Bit at this
  show evp T p = evp T p % 2
  omega
theorem mons_poly (m : Nat) (hm : m < 7) (r : Nat) (hr : r ≤ m) : ∀ x ∈ (monsTo m (r + 1)).map fun vs => evT m (maskOf vs 0), IsPoly m r x := by
 intro x hx
 obtain ⟨vs, hvs, rfl⟩ := List.mem_map.1 hx
 have h := (mons_at m hm (r + 1) (by omega)).1 vs hvs
 have hT := asc_mask_lt h.2
 have h64 : 2 ^ m ≤ 2 ^ 6 := Nat.pow_le_pow_right (by decide) (by omega)
 refine isPoly_mono m r _ hT ?_
 rw [← varsOf_length _ (by omega), ← asc_vars (by omega) h.2]
 omega
theorem poly_mat {m r : Nat} {l : List (List Int)} (h : ∀ x ∈ l, IsPoly m r x) : Mat G2 (2 ^ m) l := fun x hx => ⟨isPoly_len (h x hx), isPoly_bits (h x hx)⟩
theorem gen_poly (m : Nat) (hm : m < 7) (r : Nat) (hr : r ≤ m) : ∀ x ∈ genS m r, IsPoly m r x := by
 have hp := mons_poly m hm r hr
 have hk := elimGo_keeps G2_ok (2 ^ m) (IsPoly m r) (fun a x ha _ _ hx => isPoly_scale m r a ha x hx) (fun a x y ha _ _ _ _ hx hy => isPoly_addTo m r a ha x y hx hy) (2 ^ m) (2 ^ m) 0 0 _ [] (poly_mat hp) hp (Nat.le_refl _) (Nat.zero_le _)
 intro x hx
 exact hk.2.1 x (List.mem_of_mem_take hx)
theorem rm_tl (m : Nat) (hm : m < 7) (r : Nat) (hr : r ≤ m) : Tl (fun k => r15ReedMuller.f k (r : Int) (m : Int)) (2, 1, [], ((2 ^ m : Nat) : Int), genS m r, 0) := by
 have h64 : 2 ^ m ≤ 2 ^ 6 := Nat.pow_le_pow_right (by decide) (by omega)
 have hmon := rMon_tl (r : Int) (m : Int)
 have e : monS (r : Int) (m : Int) = (monsTo m (r + 1), 0) := by
  unfold monS
  rw [if_neg (by omega), toNat_nat, show ((r : Int) + 1).toNat = r + 1 from by omega]
 rw [e] at hmon
 have hlen := monS_len (r : Int) (m : Int)
 rw [e] at hlen
 have hsm := monsTo_small m hm (r + 1) (by omega)
 have hmake := make2_tl (2 ^ m) (by omega) _ (poly_mat (mons_poly m hm r hr)) (by rw [List.length_map]; omega)
 have H : ∀ (d i : Nat), (monsTo m (r + 1)).length - i = d → i ≤ (monsTo m (r + 1)).length → Tl (fun k => r15ReedMuller.l0 k (m : Int) (monsTo m (r + 1)) (((monsTo m (r + 1)).take i).map fun vs => evT m (maskOf vs 0)) (i : Int)) (2, 1, [], ((2 ^ m : Nat) : Int), genS m r, 0) := by
  intro d
  induction d with
  | zero =>
   intro i hd hi
   rw [List.take_of_length_le (by omega)]
   refine Tl.step (fun k => by rw [r15ReedMuller.l0]) ?_
   refine Tl.neg (by omega) (Tl.bind1 (a := (2, 1, [])) (by decide) ?_)
   rw [u64 (by omega) (by omega), shl1 m (by omega)]
   exact Tl.pos (by omega) (Tl.bind hmake (Tl.now _))
  | succ d ih =>
   intro i hd hi
   have hlt : i < (monsTo m (r + 1)).length := by omega
   have hnext := ih (i + 1) (by omega) (by omega)
   have hrd : rd_L1 (monsTo m (r + 1)) (i : Int) = (monsTo m (r + 1))[i] := by simp [rd_L1, hlt]
   have hmem := List.getElem_mem hlt
   have hasc := ((mons_at m hm (r + 1) (by omega)).1 _ hmem).2
   have het := rE_tl (m : Int) _ (hlen.2 _ hmem)
   have hev : evS (m : Int) (monsTo m (r + 1))[i] = (evT m (maskOf (monsTo m (r + 1))[i] 0), 0) := by
    unfold evS
    rw [if_neg (by omega), hasc, toNat_nat]; rfl
   rw [hev] at het
   rw [List.take_add_one, List.getElem?_eq_getElem hlt, List.map_append] at hnext
   refine Tl.step (fun k => by rw [r15ReedMuller.l0]) ?_
   rw [hrd, w64s i (by omega)]
   exact Tl.pos (by omega) (Tl.pos (by omega) (Tl.bind het (Tl.pos (by simp; omega) hnext)))
 unfold r15ReedMuller.f
 refine Tl.bind hmon (Tl.pos rfl ?_)
 simpa using H _ 0 rfl (Nat.zero_le _)
end Go.Proofs.Ytjelamodjpepkaa.B
/- The reference's Combine: a sum of rows; what AddTo keeps holds of it. -/
namespace Go.Proofs.Ytjelamodjpepkaa.B
open Go.RowKit Go.Proofs.YtjelamodjpepkaaW.PrintWords Go.Proofs.YtjelamodjpepkaaW.PrintMore Go.Proofs.Ytjelamodjpepkaa.P
set_option linter.unusedVariables false
section
variable {P M : Int} {Mod : List Int} {G : Ops}
/-- The sum of the rows from i on, added to acc. -/
def combGo (G : Ops) (msg : List Int) (rows : List (List Int)) : Nat → Nat → List Int → List Int
 | 0, _, acc => acc
 | d + 1, i, acc => combGo G msg rows d (i + 1) (if msg.getD i 0 = 0 then acc else addToS G acc (msg.getD i 0) (rows.getD i []))
theorem comb_go (h : OpsOk P M Mod G) (n : Nat) (hn : n < 1000000) (msg : List Int) (hm : ElL G msg) (rows : List (List Int)) (hrows : Mat G n rows) (hlen : msg.length = rows.length) (hll : rows.length < 1000000) :
  ∀ (d i : Nat) (acc : List Int), rows.length - i = d → i ≤ rows.length → acc.length = n ∧ ElL G acc → Tl (fun k => r09Combine.l0 k msg rows acc (i : Int) P M Mod) (combGo G msg rows d i acc) ∧ (combGo G msg rows d i acc).length = n ∧ ElL G (combGo G msg rows d i acc) := by
 intro d
 induction d with
 | zero =>
  intro i acc hd hi hacc
  refine ⟨?_, hacc⟩
  refine Tl.step (fun k => by rw [r09Combine.l0]) ?_
  refine Tl.neg (by omega) ?_
  refine Tl.step (fun k => by rw [r09Combine.j1]) ?_
  exact Tl.neg (by decide) (Tl.now _)
 | succ d ih =>
  intro i acc hd hi hacc
  have hlt : i < rows.length := by omega
  have hM := Mat_get hrows i hlt
  have hmi := ElL_get h hm i
  have hnext := ih (i + 1) (if msg.getD i 0 = 0 then acc else addToS G acc (msg.getD i 0) (rows.getD i [])) (by omega) (by omega) (by
   split
   ·exact hacc
   ·exact addToS_ok h _ hmi hacc hM.2)
  refine ⟨?_, hnext.2⟩
  refine Tl.step (fun k => by rw [r09Combine.l0]) ?_
  rw [decide_eq_true (show (i : Int) < (msg.length : Int) by omega)]
  refine Tl.pos (by omega) ?_
  refine Tl.step (fun k => by rw [r09Combine.j1]) ?_
  rw [rd_nat, rdL_nat, w64s i (by omega)]
  refine Tl.pos rfl (Tl.pos (by omega) (Tl.pos (by omega) ?_))
  by_cases hz : msg.getD i 0 = 0
  ·have hn1 := hnext.1
   rw [if_pos hz] at hn1
   unfold combGo
   rw [if_pos hz]
   exact Tl.pos hz hn1
  ·have hn1 := hnext.1
   rw [if_neg hz] at hn1
   unfold combGo
   rw [if_neg hz]
   exact Tl.neg hz (Tl.pos (by omega) (Tl.bind (addTo_tl h _ hmi _ _ hacc.2 hM.2 (by rw [hacc.1, hM.1]; omega) (by omega)) hn1))
theorem comb_tl (h : OpsOk P M Mod G) (n : Nat) (hn : n < 1000000) (msg : List Int) (hm : ElL G msg) (rows : List (List Int)) (hrows : Mat G n rows) (hlen : msg.length = rows.length) (hll : rows.length < 1000000) :
  Tl (fun k => r09Combine.f k P M Mod msg rows (n : Int)) (combGo G msg rows rows.length 0 (List.replicate n 0)) := by
 unfold r09Combine.f
 refine Tl.pos (Int.natCast_nonneg _) (Tl.pos (by rw [toNat_nat]; omega) ?_)
 rw [toNat_nat]
 exact (comb_go h n hn msg hm rows hrows hlen hll rows.length 0 _ rfl (Nat.zero_le _) ⟨by simp, fun v hv => by rw [(List.mem_replicate.1 hv).2]; exact h.zero⟩).1
theorem comb_keeps (Q : List Int → Prop) (msg : List Int) (rows : List (List Int)) (hadd : ∀ i x, i < rows.length → Q x → Q (addToS G x (msg.getD i 0) (rows.getD i []))) : ∀ (d i : Nat) (acc : List Int), rows.length - i = d → Q acc → Q (combGo G msg rows d i acc)
 | 0, _, _, _, ha => ha
 | d + 1, i, acc, hd, ha => by
  unfold combGo
  refine comb_keeps Q msg rows hadd d (i + 1) _ (by omega) ?_
  split
  ·exact ha
  ·exact hadd i acc (by omega) ha
end
/-- A word that Encode makes is a polynomial of degree at most r. -/
theorem encode_poly (m : Nat) (hm : m < 7) (r : Nat) (hr : r ≤ m) (msg : List Int) (hmsg : ElL G2 msg) : IsPoly m r (combGo G2 msg (genS m r) (genS m r).length 0 (List.replicate (2 ^ m) 0)) := by
 refine comb_keeps (IsPoly m r) msg _ (fun i x hi hx => isPoly_addTo m r _ (ElL_get G2_ok hmsg i) x _ hx (gen_poly m hm r hr _ ?_)) _ 0 _ rfl ?_
 ·rw [List.getD_eq_getElem?_getD, List.getElem?_eq_getElem hi]
  exact List.getElem_mem hi
 ·rw [tab_rep]; exact isPoly_zero m r
end Go.Proofs.Ytjelamodjpepkaa.B
/- The reference's comparison of rows, and its check of a matrix of bits. -/
namespace Go.Proofs.Ytjelamodjpepkaa.B
open Go.RowKit Go.Proofs.YtjelamodjpepkaaW.PrintWords Go.Proofs.YtjelamodjpepkaaW.PrintMore Go.Proofs.Ytjelamodjpepkaa.P
set_option linter.unusedVariables false
theorem sameInts_go (a b : List Int) (hab : a.length = b.length) (hl : a.length < 1000000) : ∀ (d i : Nat), a.length - i = d → i ≤ a.length → Tl (fun k => r09SameInts.l0 k a b (i : Int)) (decide (a.drop i = b.drop i)) := by
 intro d
 induction d with
 | zero =>
  intro i hd hi
  rw [List.drop_of_length_le (by omega), List.drop_of_length_le (by omega)]
  refine Tl.step (fun k => by rw [r09SameInts.l0]) ?_
  exact Tl.neg (by omega) (Tl.now _)
 | succ d ih =>
  intro i hd hi
  have hnext := ih (i + 1) (by omega) (by omega)
  rw [drop_cons (show i < a.length by omega), drop_cons (show i < b.length by omega)]
  refine Tl.step (fun k => by rw [r09SameInts.l0]) ?_
  rw [rd_nat, rd_nat, w64s i (by omega)]
  refine Tl.pos (by omega) (Tl.pos (by omega) (Tl.pos (by omega) ?_))
  by_cases h : a.getD i 0 = b.getD i 0
  ·refine Tl.pos h (Tl.val ?_ hnext)
   rw [h]; simp
  ·refine Tl.neg h (Tl.val ?_ (Tl.now _))
   simp only [List.cons.injEq, h, false_and, decide_false]
theorem sameInts_tl (a b : List Int) (hl : a.length < 1000000) : Tl (fun k => r09SameInts.f k a b) (decide (a = b)) := by
 unfold r09SameInts.f
 by_cases hab : a.length = b.length
 ·exact Tl.pos (by omega) (by simpa using sameInts_go a b hab hl _ 0 rfl (Nat.zero_le _))
 ·refine Tl.neg (by omega) (Tl.val ?_ (Tl.now _))
  rw [decide_eq_false]
  intro h; exact hab (by rw [h])
theorem drop_consL {xs : List (List Int)} {i : Nat} (h : i < xs.length) : xs.drop i = xs.getD i [] :: xs.drop (i + 1) := by
 rw [List.drop_eq_getElem_cons h, List.getD_eq_getElem?_getD, List.getElem?_eq_getElem h]; rfl
theorem sameRows_go (a b : List (List Int)) (hab : a.length = b.length) (hl : a.length < 1000000) (hr : ∀ r ∈ a, r.length < 1000000) : ∀ (d i : Nat), a.length - i = d → i ≤ a.length → Tl (fun k => r09SameRows.l0 k a b (i : Int)) (decide (a.drop i = b.drop i)) := by
 intro d
 induction d with
 | zero =>
  intro i hd hi
  rw [List.drop_of_length_le (by omega), List.drop_of_length_le (by omega)]
  refine Tl.step (fun k => by rw [r09SameRows.l0]) ?_
  exact Tl.neg (by omega) (Tl.now _)
 | succ d ih =>
  intro i hd hi
  have hnext := ih (i + 1) (by omega) (by omega)
  have hmem : a.getD i [] ∈ a := by
   rw [List.getD_eq_getElem?_getD, List.getElem?_eq_getElem (by omega)]
   exact List.getElem_mem _
  rw [drop_consL (show i < a.length by omega), drop_consL (show i < b.length by omega)]
  refine Tl.step (fun k => by rw [r09SameRows.l0]) ?_
  rw [rdL_nat, rdL_nat, w64s i (by omega)]
  refine Tl.pos (by omega) (Tl.pos (by omega) (Tl.pos (by omega) (Tl.bind (sameInts_tl _ _ (hr _ hmem)) ?_)))
  by_cases h : a.getD i [] = b.getD i []
  ·refine Tl.pos (by simpa using h) (Tl.val ?_ hnext)
   rw [h]; simp
  ·refine Tl.neg (by simpa using h) (Tl.val ?_ (Tl.now _))
   simp only [List.cons.injEq, h, false_and, decide_false]
theorem sameRows_tl (a b : List (List Int)) (hl : a.length < 1000000) (hr : ∀ r ∈ a, r.length < 1000000) : Tl (fun k => r09SameRows.f k a b) (decide (a = b)) := by
 unfold r09SameRows.f
 by_cases hab : a.length = b.length
 ·exact Tl.pos (by omega) (by simpa using sameRows_go a b hab hl hr _ 0 rfl (Nat.zero_le _))
 ·refine Tl.neg (by omega) (Tl.val ?_ (Tl.now _))
  rw [decide_eq_false]
  intro h; exact hab (by rw [h])
end Go.Proofs.Ytjelamodjpepkaa.B
/- The reference's check of a code over the field of two elements, and its Encode: they end. -/
namespace Go.Proofs.Ytjelamodjpepkaa.B
open Go.RowKit Go.Proofs.YtjelamodjpepkaaW.PrintWords Go.Proofs.YtjelamodjpepkaaW.PrintMore Go.Proofs.Ytjelamodjpepkaa.P
set_option linter.unusedVariables false
theorem fieldCheck2_tl : Tl (fun k => r04Check.f k 2 1 []) 0 := Tl.of2 (k := 60) (r04Check.mono _ _ _) (by decide +kernel)
theorem isBits_of {y : List Int} (h : ElL G2 y) : isBits y = true := by
 unfold isBits
 rw [List.all_eq_true]
 intro v hv
 rcases h v hv with e | e <;> simp [e]
theorem matCheck_tl (n : Nat) (hn : n ≤ 64) (l : List (List Int)) (hl : Mat G2 n l) (hll : l.length ≤ 256) : Tl (fun k => r09Check.f k 2 1 [] (n : Int) l) 0 := by
 have H1 : ∀ (d i : Nat), l.length - i = d → i ≤ l.length → Tl (fun k => r09Check.l1 k (i : Int) 2 1 [] (n : Int) l) 0 := by
  intro d
  induction d with
  | zero =>
   intro i hd hi
   refine Tl.step (fun k => by rw [r09Check.l1]) ?_
   exact Tl.neg (by omega) (Tl.now _)
  | succ d ih =>
   intro i hd hi
   have hM := Mat_get hl i (by omega)
   have he := ent2_go (l.getD i []) (by rw [hM.1]; omega) _ 0 rfl (Nat.zero_le _)
   rw [List.drop_zero, isBits_of hM.2] at he
   refine Tl.step (fun k => by rw [r09Check.l1]) ?_
   rw [rdL_nat, w64s i (by omega)]
   refine Tl.pos (by omega) (Tl.pos (by omega) (Tl.bind (a := 0) ?_ (Tl.pos rfl (ih (i + 1) (by omega) (by omega)))))
   unfold r09Entries.f
   simpa using he
 have H0 : ∀ (d i : Nat), l.length - i = d → i ≤ l.length → Tl (fun k => r09Check.l0 k (i : Int) 2 1 [] (n : Int) l) 0 := by
  intro d
  induction d with
  | zero =>
   intro i hd hi
   refine Tl.step (fun k => by rw [r09Check.l0]) ?_
   exact Tl.neg (by omega) (H1 _ 0 rfl (Nat.zero_le _))
  | succ d ih =>
   intro i hd hi
   have hM := Mat_get hl i (by omega)
   refine Tl.step (fun k => by rw [r09Check.l0]) ?_
   rw [rdL_nat, w64s i (by omega)]
   exact Tl.pos (by omega) (Tl.pos (by omega) (Tl.pos (by rw [hM.1]) (ih (i + 1) (by omega) (by omega))))
 unfold r09Check.f
 refine Tl.bind fieldCheck2_tl (Tl.pos rfl (Tl.neg (by omega) (Tl.neg (by omega) ?_)))
 rw [decide_eq_false (show ¬ (l.length : Int) > 256 by omega)]
 refine Tl.step (fun k => by rw [r09Check.j0]) ?_
 exact Tl.neg (by decide) (H0 _ 0 rfl (Nat.zero_le _))
/-- Whether the rows are canonical. -/
def codeS (n : Nat) (l : List (List Int)) : Int := if (elimS G2 l n).1.take (elimS G2 l n).2.length = l then 0 else 5
theorem codeCheck_tl (n : Nat) (hn1 : 1 ≤ n) (hn : n ≤ 64) (l : List (List Int)) (hl : Mat G2 n l) (hll : l.length ≤ 256) : Tl (fun k => r12Check.f k 2 1 [] (n : Int) l) (codeS n l) := by
 have hk := elimGo_keeps G2_ok n (fun _ => True) (fun _ _ _ _ _ _ => trivial) (fun _ _ _ _ _ _ _ _ _ _ => trivial) n n 0 0 l [] hl (fun _ _ => trivial) (Nat.le_refl _) (Nat.zero_le _)
 unfold r12Check.f
 refine Tl.bind fieldCheck2_tl (Tl.pos rfl (Tl.neg (by omega) (Tl.neg (by omega) (Tl.bind (a := codeS n l) ?_ (Tl.now _)))))
 unfold r10Check.f
 refine Tl.bind (matCheck_tl n hn l hl hll) (Tl.pos rfl (Tl.bind (canon_tl G2_ok n n (by omega) (Nat.le_refl _) l hl (by omega)) (Tl.bind (sameRows_tl _ l ?_ ?_) ?_)))
 ·have h1 := hk.2.2.1
  have h2 := List.length_take_le (elimS G2 l n).2.length (elimS G2 l n).1
  have h3 : (elimS G2 l n).1.length = l.length := h1
  have h4 : ((elimS G2 l n).1.take (elimS G2 l n).2.length).length ≤ (elimS G2 l n).1.length := by rw [List.length_take]; omega
  show ((elimS G2 l n).1.take (elimS G2 l n).2.length).length < _
  omega
 ·intro r hr
  have := (hk.1 r (List.mem_of_mem_take hr)).1
  omega
 ·unfold codeS
  by_cases h : (elimS G2 l n).1.take (elimS G2 l n).2.length = l
  ·rw [if_pos h]; exact Tl.pos (by simpa using h) (Tl.now _)
  ·rw [if_neg h]; exact Tl.neg (by simpa using h) (Tl.now _)
end Go.Proofs.Ytjelamodjpepkaa.B
/- The reference's Encode over the Reed-Muller code: it ends, and its words are polynomials. -/
namespace Go.Proofs.Ytjelamodjpepkaa.B
open Go.RowKit Go.Proofs.YtjelamodjpepkaaW.PrintWords Go.Proofs.YtjelamodjpepkaaW.PrintMore Go.Proofs.Ytjelamodjpepkaa.P
set_option linter.unusedVariables false
theorem list2_tl (y : List Int) (hl : y.length < 9223372036854775808) (n : Nat) : Tl (fun k => r12List.f k 2 1 [] y (n : Int)) (bitsS n y) := by
 unfold r12List.f bitsS
 by_cases h : y.length = n
 ·rw [if_pos h]
  refine Tl.pos (by omega) (Tl.bind (a := bif isBits y then 0 else 2) ?_ (Tl.now _))
  unfold r09Entries.f
  simpa using ent2_go y hl _ 0 rfl (Nat.zero_le _)
 ·rw [if_neg h]
  exact Tl.neg (by omega) (Tl.now _)
/-- What Encode answers over rows of bits. -/
def encS (n : Nat) (l : List (List Int)) (msg : List Int) : List Int × Int := if codeS n l = 0 then (if bitsS l.length msg = 0 then (combGo G2 msg l l.length 0 (List.replicate n 0), 0) else ([], bitsS l.length msg)) else ([], codeS n l)
theorem bits_el {y : List Int} (h : isBits y = true) : ElL G2 y := by
 intro v hv
 unfold isBits at h
 rw [List.all_eq_true] at h
 have := h v hv
 simpa [G2, Bit] using this
theorem enc_tl (n : Nat) (hn1 : 1 ≤ n) (hn : n ≤ 64) (l : List (List Int)) (hl : Mat G2 n l) (hll : l.length ≤ 256) (msg : List Int) (hm : msg.length < 9223372036854775808) : Tl (fun k => r12Encode.f k 2 1 [] (n : Int) l msg) (encS n l msg) := by
 unfold r12Encode.f encS
 refine Tl.bind (codeCheck_tl n hn1 hn l hl hll) ?_
 by_cases hc : codeS n l = 0
 ·rw [if_pos hc]
  refine Tl.pos hc (Tl.bind (list2_tl msg hm l.length) ?_)
  by_cases hb : bitsS l.length msg = 0
  ·rw [if_pos hb]
   obtain ⟨hlen, hbits⟩ := bitsS_ok hb
   exact Tl.pos hb (Tl.bind (comb_tl G2_ok n (by omega) msg (bits_el hbits) l hl hlen (by omega)) (Tl.now _))
  ·rw [if_neg hb]
   exact Tl.neg hb (Tl.now _)
 ·rw [if_neg hc]
  exact Tl.neg hc (Tl.now _)
theorem enc_poly (m : Nat) (hm : m < 7) (r : Nat) (hr : r ≤ m) (msg : List Int) (h : (encS (2 ^ m) (genS m r) msg).2 = 0) : IsPoly m r (encS (2 ^ m) (genS m r) msg).1 := by
 unfold encS at h ⊢
 by_cases hc : codeS (2 ^ m) (genS m r) = 0
 ·rw [if_pos hc] at h ⊢
  by_cases hb : bitsS (genS m r).length msg = 0
  ·rw [if_pos hb]
   exact encode_poly m hm r hr msg (bits_el (bitsS_ok hb).2)
  ·rw [if_neg hb] at h
   exact absurd h hb
 ·rw [if_neg hc] at h
  exact absurd h hc
theorem gen_len (m : Nat) (hm : m < 7) (r : Nat) (hr : r ≤ m) : (genS m r).length ≤ 64 := by
 have hp := mons_poly m hm r hr
 have hk := elimGo_keeps G2_ok (2 ^ m) (IsPoly m r) (fun a x ha _ _ hx => isPoly_scale m r a ha x hx) (fun a x y ha _ _ _ _ hx hy => isPoly_addTo m r a ha x y hx hy) (2 ^ m) (2 ^ m) 0 0 _ [] (poly_mat hp) hp (Nat.le_refl _) (Nat.zero_le _)
 have h1 := hk.2.2.1
 rw [List.length_map] at h1
 have h2 := (monsTo_small m hm (r + 1) (by omega)).1
 unfold genS elimS
 rw [List.length_take]
 omega
end Go.Proofs.Ytjelamodjpepkaa.B
/- The reference's Support and Weight of a word of bits, and Add over the field of two elements. -/
namespace Go.Proofs.Ytjelamodjpepkaa.B
open Go.RowKit Go.Proofs.YtjelamodjpepkaaW.PrintWords Go.Proofs.YtjelamodjpepkaaW.PrintMore Go.Proofs.Ytjelamodjpepkaa.P
set_option linter.unusedVariables false
end Go.Proofs.Ytjelamodjpepkaa.B
/- Counting errors. -/
namespace Go.Proofs.Ytjelamodjpepkaa.B
open Go.RowKit Go.Proofs.YtjelamodjpepkaaW.PrintWords Go.Proofs.YtjelamodjpepkaaW.PrintMore Go.Proofs.Ytjelamodjpepkaa.P
set_option linter.unusedVariables false
theorem rep_get (n i : Nat) : (List.replicate n (0 : Int)).getD i 0 = 0 := by
 rw [List.getD_eq_getElem?_getD, List.getElem?_replicate]
 split <;> rfl
theorem errs_supp (w z y : List Int) (n : Nat) (h : ∀ i, i < n → (w.getD i 0 = z.getD i 0 ↔ y.getD i 0 = 0)) : errsTo w z n = errsTo y (List.replicate y.length 0) n := by
 unfold errsTo
 congr 1
 refine List.filter_congr fun i hi => ?_
 have hi2 : i < n := by simpa using hi
 rw [rep_get]
 by_cases e : y.getD i 0 = 0
 ·have := (h i hi2).2 e
  rw [bne_eq_false_iff_eq.2 this, bne_eq_false_iff_eq.2 e]
 ·have : w.getD i 0 ≠ z.getD i 0 := fun e2 => e ((h i hi2).1 e2)
  rw [bne_iff_ne.2 this, bne_iff_ne.2 e]
theorem errs_count (y : List Int) (hy : isBits y = true) : ∀ n, ((errsTo y (List.replicate y.length 0) n).length : Int) = ((List.range n).map fun p => y.getD p 0).sum := by
 intro n
 induction n with
 | zero => rfl
 | succ n ih =>
  have hb := isBits_get hy n
  rw [List.range_succ, List.map_append, List.sum_append, ← ih]
  by_cases h : y.getD n 0 = 0
  ·rw [errsTo_no _ _ n (by rw [rep_get, h])]
   simp only [List.map_cons, List.map_nil, List.sum_cons, List.sum_nil, h]
   omega
  ·rw [errsTo_yes _ _ n (by rw [rep_get]; exact h)]
   unfold Bit at hb
   simp only [List.map_cons, List.map_nil, List.sum_cons, List.sum_nil, List.length_append, List.length_cons, List.length_nil]
   omega
end Go.Proofs.Ytjelamodjpepkaa.B
/- A field of numbers, rows over it, and the rows that a list of rows spans. -/
namespace Go.Proofs.Ytjelamodjpepkaa.B
set_option linter.unusedVariables false
set_option linter.unusedSectionVars false

/-- The laws of a field. -/
structure Fld (G : Ops) : Prop where
 zero : G.El 0
 one : G.El 1
 addE : ∀ a b, G.El a → G.El b → G.El (G.add a b)
 mulE : ∀ a b, G.El a → G.El b → G.El (G.mul a b)
 negE : ∀ a, G.El a → G.El (G.neg a)
 invE : ∀ a, G.El a → a ≠ 0 → G.El (G.inv a)
 addC : ∀ a b, G.El a → G.El b → G.add a b = G.add b a
 addA : ∀ a b c, G.El a → G.El b → G.El c → G.add (G.add a b) c = G.add a (G.add b c)
 add0 : ∀ a, G.El a → G.add a 0 = a
 addN : ∀ a, G.El a → G.add a (G.neg a) = 0
 mulC : ∀ a b, G.El a → G.El b → G.mul a b = G.mul b a
 mulA : ∀ a b c, G.El a → G.El b → G.El c → G.mul (G.mul a b) c = G.mul a (G.mul b c)
 mul1 : ∀ a, G.El a → G.mul 1 a = a
 dist : ∀ a b c, G.El a → G.El b → G.El c → G.mul a (G.add b c) = G.add (G.mul a b) (G.mul a c)
 mulI : ∀ a, G.El a → a ≠ 0 → G.mul (G.inv a) a = 1
section
variable {G : Ops} (h : Fld G)
include h
theorem Fld.zadd {a : Int} (ha : G.El a) : G.add 0 a = a := by rw [h.addC _ _ h.zero ha, h.add0 _ ha]
theorem Fld.nadd {a : Int} (ha : G.El a) : G.add (G.neg a) a = 0 := by rw [h.addC _ _ (h.negE _ ha) ha, h.addN _ ha]
theorem Fld.cancel {a b c : Int} (ha : G.El a) (hb : G.El b) (hc : G.El c) (e : G.add a b = G.add a c) : b = c := by
 have e1 := congrArg (G.add (G.neg a)) e
 rw [← h.addA _ _ _ (h.negE _ ha) ha hb, ← h.addA _ _ _ (h.negE _ ha) ha hc, h.nadd ha, h.zadd hb, h.zadd hc] at e1
 exact e1
theorem Fld.mul0 {a : Int} (ha : G.El a) : G.mul a 0 = 0 := by
 have e := h.dist a 0 0 ha h.zero h.zero
 rw [h.add0 _ h.zero] at e
 have hm := h.mulE _ _ ha h.zero
 exact (h.cancel hm hm h.zero (by rw [← e, h.add0 _ hm])).symm ▸ rfl
theorem Fld.zmul {a : Int} (ha : G.El a) : G.mul 0 a = 0 := by rw [h.mulC _ _ h.zero ha, h.mul0 ha]
theorem Fld.dist2 {a b c : Int} (ha : G.El a) (hb : G.El b) (hc : G.El c) : G.mul (G.add a b) c = G.add (G.mul a c) (G.mul b c) := by
 rw [h.mulC _ _ (h.addE _ _ ha hb) hc, h.dist _ _ _ hc ha hb, h.mulC _ _ hc ha, h.mulC _ _ hc hb]
theorem Fld.neg_unique {a b : Int} (ha : G.El a) (hb : G.El b) (e : G.add a b = 0) : b = G.neg a := h.cancel ha hb (h.negE _ ha) (by rw [e, h.addN _ ha])
theorem Fld.neg0 : G.neg 0 = 0 := (h.neg_unique h.zero h.zero (h.add0 _ h.zero)).symm
theorem Fld.negM {a b : Int} (ha : G.El a) (hb : G.El b) : G.mul (G.neg a) b = G.neg (G.mul a b) := by
 refine h.neg_unique (h.mulE _ _ ha hb) (h.mulE _ _ (h.negE _ ha) hb) ?_
 rw [← h.dist2 ha (h.negE _ ha) hb, h.addN _ ha, h.zmul hb]
theorem Fld.add4 {a b c d : Int} (ha : G.El a) (hb : G.El b) (hc : G.El c) (hd : G.El d) : G.add (G.add a b) (G.add c d) = G.add (G.add a c) (G.add b d) := by
 rw [h.addA _ _ _ ha hb (h.addE _ _ hc hd), h.addA _ _ _ ha hc (h.addE _ _ hb hd), ← h.addA _ _ _ hb hc hd, ← h.addA _ _ _ hc hb hd, h.addC _ _ hb hc]
theorem Fld.negA {a b : Int} (ha : G.El a) (hb : G.El b) : G.neg (G.add a b) = G.add (G.neg a) (G.neg b) := by
 have hna := h.negE _ ha
 have hnb := h.negE _ hb
 refine (h.neg_unique (h.addE _ _ ha hb) (h.addE _ _ hna hnb) ?_).symm
 rw [h.add4 ha hb hna hnb, h.addN _ ha, h.addN _ hb, h.add0 _ h.zero]
theorem Fld.mulNeg {a b : Int} (ha : G.El a) (hb : G.El b) : G.mul a (G.neg b) = G.neg (G.mul a b) := by
 rw [h.mulC _ _ ha (h.negE _ hb), h.negM hb ha, h.mulC _ _ hb ha]
theorem Fld.negneg {a : Int} (ha : G.El a) : G.neg (G.neg a) = a := (h.neg_unique (h.negE _ ha) ha (h.nadd ha)).symm
/-- x + a y + (- a) y = x -/
theorem Fld.back {x a y : Int} (hx : G.El x) (ha : G.El a) (hy : G.El y) : G.add (G.add x (G.mul a y)) (G.mul (G.neg a) y) = x := by
 have hm := h.mulE _ _ ha hy
 rw [h.negM ha hy, h.addA _ _ _ hx hm (h.negE _ hm), h.addN _ hm, h.add0 _ hx]
/-- x + a (y + b r) = (x + a y) + (a b) r -/
theorem Fld.nest {x a y b r : Int} (hx : G.El x) (ha : G.El a) (hy : G.El y) (hb : G.El b) (hr : G.El r) : G.add x (G.mul a (G.add y (G.mul b r))) = G.add (G.add x (G.mul a y)) (G.mul (G.mul a b) r) := by
 have hbr := h.mulE _ _ hb hr
 rw [h.dist _ _ _ ha hy hbr, ← h.addA _ _ _ hx (h.mulE _ _ ha hy) (h.mulE _ _ ha hbr), ← h.mulA _ _ _ ha hb hr]
/-- (x + a y) + -(s + a t) w = (x + -s w) + a (y + -t w) -/
theorem Fld.lin {x a y s t w : Int} (hx : G.El x) (ha : G.El a) (hy : G.El y) (hs : G.El s) (ht : G.El t) (hw : G.El w) :
  G.add (G.add x (G.mul a y)) (G.mul (G.neg (G.add s (G.mul a t))) w) = G.add (G.add x (G.mul (G.neg s) w)) (G.mul a (G.add y (G.mul (G.neg t) w))) := by
 have hat := h.mulE _ _ ha ht
 have hns := h.negE _ hs
 have hnt := h.negE _ ht
 have e : G.mul (G.neg (G.add s (G.mul a t))) w = G.add (G.mul (G.neg s) w) (G.mul a (G.mul (G.neg t) w)) := by
  rw [h.negA hs hat, h.dist2 hns (h.negE _ hat) hw, ← h.mulNeg ha ht, h.mulA _ _ _ ha hnt hw]
 have h1 := h.mulE _ _ ha hy
 have h2 := h.mulE _ _ hns hw
 have h3 := h.mulE _ _ hnt hw
 rw [e, h.dist _ _ _ ha hy h3, h.add4 hx h1 h2 (h.mulE _ _ ha h3)]
end
/-! ### Rows -/
/-- A row of the length n. -/
def Row (G : Ops) (n : Nat) (x : List Int) : Prop := x.length = n ∧ ElL G x
theorem row_get {G : Ops} (h : Fld G) {n : Nat} {x : List Int} (hx : Row G n x) (i : Nat) : G.El (x.getD i 0) := by
 rw [List.getD_eq_getElem?_getD]
 by_cases hi : i < x.length
 ·rw [List.getElem?_eq_getElem hi]; exact hx.2 _ (List.getElem_mem hi)
 ·rw [List.getElem?_eq_none (by omega)]; exact h.zero
theorem row_ext {n : Nat} {x y : List Int} (hx : x.length = n) (hy : y.length = n) (e : ∀ i, i < n → x.getD i 0 = y.getD i 0) : x = y := by
 rw [tab_of x, tab_of y, hx, hy]
 exact tab_congr e
theorem getD_out {x : List Int} {i : Nat} (h : x.length ≤ i) : x.getD i 0 = 0 := by
 rw [List.getD_eq_getElem?_getD, List.getElem?_eq_none h]; rfl
def zeroS (n : Nat) : List Int := List.replicate n 0
theorem zeroS_get (n i : Nat) : (zeroS n).getD i 0 = 0 := by
 unfold zeroS
 rw [List.getD_eq_getElem?_getD, List.getElem?_replicate]
 split <;> rfl
section
variable {G : Ops} (h : Fld G) {n : Nat}
include h
theorem row_zero : Row G n (zeroS n) := ⟨by simp [zeroS], fun v hv => by rw [(List.mem_replicate.1 hv).2]; exact h.zero⟩
theorem addTo_get {a : Int} (ha : G.El a) {x y : List Int} (hx : Row G n x) (hy : Row G n y) (i : Nat) : (addToS G x a y).getD i 0 = G.add (x.getD i 0) (G.mul a (y.getD i 0)) := by
 by_cases hi : i < x.length
 ·unfold addToS
  rw [tab_getD i 0 hi]
  by_cases hz : y.getD i 0 = 0
  ·rw [if_pos hz, hz, h.mul0 ha, h.add0 _ (row_get h hx i)]
  ·rw [if_neg hz]
 ·have h1 := hx.1
  have h2 := hy.1
  rw [getD_out (by unfold addToS; rw [tab_length]; omega), getD_out (by omega), getD_out (by omega), h.mul0 ha, h.add0 _ h.zero]
theorem addTo_row {a : Int} (ha : G.El a) {x y : List Int} (hx : Row G n x) (hy : Row G n y) : Row G n (addToS G x a y) := by
 refine ⟨by unfold addToS; rw [tab_length, hx.1], fun v hv => ?_⟩
 unfold addToS at hv
 obtain ⟨i, hi, rfl⟩ := List.mem_map.1 hv
 show G.El (if y.getD i 0 = 0 then _ else _)
 split
 ·exact row_get h hx i
 ·exact h.addE _ _ (row_get h hx i) (h.mulE _ _ ha (row_get h hy i))
theorem scale_row {a : Int} (ha : G.El a) {x : List Int} (hx : Row G n x) : Row G n (scaleS G a x) := by
 unfold scaleS
 refine ⟨by simp [hx.1], fun v hv => ?_⟩
 obtain ⟨u, hu, rfl⟩ := List.mem_map.1 hv
 exact h.mulE _ _ ha (hx.2 _ hu)
theorem scale_get {a : Int} (ha : G.El a) {x : List Int} (hx : Row G n x) (i : Nat) : (scaleS G a x).getD i 0 = G.mul a (x.getD i 0) := by
 unfold scaleS
 rw [map_tab]
 by_cases hi : i < x.length
 ·rw [tab_getD i 0 hi]
 ·rw [getD_out (by rw [tab_length]; omega), getD_out (by omega), h.mul0 ha]
/-- zero plus a row is the scaled row. -/
theorem scale_addTo {a : Int} (ha : G.El a) {x : List Int} (hx : Row G n x) : scaleS G a x = addToS G (zeroS n) a x := by
 refine row_ext (scale_row h ha hx).1 (addTo_row h ha (row_zero h) hx).1 fun i _ => ?_
 rw [scale_get h ha hx, addTo_get h ha (row_zero h) hx, zeroS_get, h.zadd (h.mulE _ _ ha (row_get h hx i))]
end
/-! ### Spans -/
/-- The combinations of rows. -/
inductive Sp (G : Ops) (n : Nat) (l : List (List Int)) : List Int → Prop
 | zero : Sp G n l (zeroS n)
 | add {x : List Int} {r : List Int} {a : Int} : Sp G n l x → r ∈ l → G.El a → Sp G n l (addToS G x a r)
section
variable {G : Ops} (h : Fld G) {n : Nat} {l l' : List (List Int)}
include h
theorem Sp.row (hl : Mat G n l) {x : List Int} (hx : Sp G n l x) : Row G n x := by
 induction hx with
 | zero => exact row_zero h
 | add _ hr ha ih => exact addTo_row h ha ih (hl _ hr)
theorem Sp.mem (hl : Mat G n l) {r : List Int} (hr : r ∈ l) : Sp G n l r := by
 have e : r = addToS G (zeroS n) 1 r := by
  refine row_ext (hl r hr).1 (addTo_row h h.one (row_zero h) (hl r hr)).1 fun i _ => ?_
  rw [addTo_get h h.one (row_zero h) (hl r hr), zeroS_get, h.mul1 _ (row_get h (hl r hr) i), h.zadd (row_get h (hl r hr) i)]
 rw [e]
 exact Sp.add Sp.zero hr h.one
theorem Sp.addTo (hl : Mat G n l) {x y : List Int} {a : Int} (hx : Sp G n l x) (hy : Sp G n l y) (ha : G.El a) : Sp G n l (addToS G x a y) := by
 induction hy with
 | zero =>
  have hr := Sp.row h hl hx
  have e : addToS G x a (zeroS n) = x := by
   refine row_ext (addTo_row h ha hr (row_zero h)).1 hr.1 fun i _ => ?_
   rw [addTo_get h ha hr (row_zero h), zeroS_get, h.mul0 ha, h.add0 _ (row_get h hr i)]
  rw [e]; exact hx
 | @add y r b hy hr hb ih =>
  have hxr := Sp.row h hl hx
  have hyr := Sp.row h hl hy
  have hrr := hl r hr
  have e : addToS G x a (addToS G y b r) = addToS G (addToS G x a y) (G.mul a b) r := by
   refine row_ext (addTo_row h ha hxr (addTo_row h hb hyr hrr)).1 (addTo_row h (h.mulE _ _ ha hb) (addTo_row h ha hxr hyr) hrr).1 fun i _ => ?_
   rw [addTo_get h ha hxr (addTo_row h hb hyr hrr), addTo_get h hb hyr hrr, addTo_get h (h.mulE _ _ ha hb) (addTo_row h ha hxr hyr) hrr, addTo_get h ha hxr hyr]
   exact h.nest (row_get h hxr i) ha (row_get h hyr i) hb (row_get h hrr i)
  rw [e]
  exact Sp.add ih hr (h.mulE _ _ ha hb)
theorem Sp.scale (hl : Mat G n l) {x : List Int} {a : Int} (hx : Sp G n l x) (ha : G.El a) : Sp G n l (scaleS G a x) := by
 rw [scale_addTo h ha (Sp.row h hl hx)]
 exact Sp.addTo h hl Sp.zero hx ha
theorem Sp.trans (hl' : Mat G n l') (hs : ∀ r ∈ l, Sp G n l' r) {x : List Int} (hx : Sp G n l x) : Sp G n l' x := by
 induction hx with
 | zero => exact Sp.zero
 | add _ hr ha ih => exact Sp.addTo h hl' ih (hs _ hr) ha
end
end Go.Proofs.Ytjelamodjpepkaa.B
/- What elimination leaves: reduced rows that span the same space. -/
namespace Go.Proofs.Ytjelamodjpepkaa.B
set_option linter.unusedVariables false
set_option linter.unusedSectionVars false

theorem mem_getD {l : List (List Int)} {i : Nat} (hi : i < l.length) : l.getD i [] ∈ l := by
 rw [List.getD_eq_getElem?_getD, List.getElem?_eq_getElem hi]
 exact List.getElem_mem hi
theorem getD_mem {l : List (List Int)} {r : List Int} (hr : r ∈ l) : ∃ i, i < l.length ∧ l.getD i [] = r := by
 obtain ⟨i, hi, rfl⟩ := List.mem_iff_getElem.1 hr
 exact ⟨i, hi, by rw [List.getD_eq_getElem?_getD, List.getElem?_eq_getElem hi]; rfl⟩
theorem getD_set {l : List (List Int)} {i : Nat} (hi : i < l.length) (x : List Int) (j : Nat) : (l.set i x).getD j [] = if j = i then x else l.getD j [] := by
 rw [List.getD_eq_getElem?_getD, List.getD_eq_getElem?_getD, List.getElem?_set]
 by_cases e : i = j
 ·subst e; simp [hi]
 ·rw [if_neg e, if_neg (fun h => e h.symm)]
theorem swap_getD {l : List (List Int)} {a q : Nat} (ha : a < l.length) (hq : q < l.length) (j : Nat) : (swapS l a q).getD j [] = l.getD (if j = q then a else if j = a then q else j) [] := by
 unfold swapS
 rw [getD_set (by simpa using hq), getD_set ha]
 by_cases h1 : j = q
 ·rw [if_pos h1, if_pos h1]
 ·rw [if_neg h1, if_neg h1]
  by_cases h2 : j = a
  ·rw [if_pos h2, if_pos h2]
  ·rw [if_neg h2, if_neg h2]
theorem swap_get {l : List (List Int)} {a q : Nat} (ha : a < l.length) (hq : q < l.length) (j c : Nat) : ent (swapS l a q) j c = ent l (if j = q then a else if j = a then q else j) c := by
 unfold ent; rw [swap_getD ha hq]
section
variable {G : Ops} (h : Fld G) {n : Nat}
include h
theorem swap_mat {l : List (List Int)} (hl : Mat G n l) {a q : Nat} (ha : a < l.length) (hq : q < l.length) : Mat G n (swapS l a q) := Mat_set (Mat_set hl a _ (Mat_get hl q hq)) q _ (Mat_get hl a ha)
theorem ent_E {l : List (List Int)} (hl : Mat G n l) {i c : Nat} (hi : i < l.length) : G.El (ent l i c) := row_get h (Mat_get hl i hi) c
theorem piv_getD {l : List (List Int)} {a c : Nat} (ha : a < l.length) (j : Nat) (hj : j ≠ a) : (pivS G l a c).getD j [] = l.getD j [] := by
 unfold pivS
 split
 ·rfl
 ·rw [getD_set ha, if_neg hj]
theorem piv_len {l : List (List Int)} {a c : Nat} : (pivS G l a c).length = l.length := by
 unfold pivS
 split
 ·rfl
 ·simp
theorem piv_mat {l : List (List Int)} (hl : Mat G n l) {a c : Nat} (ha : a < l.length) (hz : ent l a c ≠ 0) : Mat G n (pivS G l a c) := by
 unfold pivS
 split
 ·exact hl
 ·exact Mat_set hl a _ (scale_row h (h.invE _ (ent_E h hl ha) hz) (Mat_get hl a ha))
theorem piv_one {l : List (List Int)} (hl : Mat G n l) {a c : Nat} (ha : a < l.length) (hz : ent l a c ≠ 0) : ent (pivS G l a c) a c = 1 := by
 unfold pivS
 split
 ·assumption
 ·have hi := h.invE _ (ent_E h hl ha) hz
  show (((l.set a (scaleS G (G.inv (ent l a c)) (l.getD a []))).getD a [])).getD c 0 = 1
  rw [getD_set ha, if_pos rfl, scale_get h hi (Mat_get hl a ha)]
  exact h.mulI _ (ent_E h hl ha) hz
theorem piv_zero {l : List (List Int)} (hl : Mat G n l) {a c : Nat} (ha : a < l.length) (hz : ent l a c ≠ 0) {c' : Nat} (h0 : ent l a c' = 0) : ent (pivS G l a c) a c' = 0 := by
 unfold pivS
 split
 ·assumption
 ·have hi := h.invE _ (ent_E h hl ha) hz
  show (((l.set a (scaleS G (G.inv (ent l a c)) (l.getD a []))).getD a [])).getD c' 0 = 0
  rw [getD_set ha, if_pos rfl, scale_get h hi (Mat_get hl a ha)]
  exact (congrArg _ h0).trans (h.mul0 hi)
theorem clear_len {l : List (List Int)} {a c : Nat} : (clearS G l a c).length = l.length := by unfold clearS; rw [tab_length]
theorem clear_getD {l : List (List Int)} {a c j : Nat} (hj : j < l.length) : (clearS G l a c).getD j [] = if j = a ∨ ent l j c = 0 then l.getD j [] else addToS G (l.getD j []) (G.neg (ent l j c)) (l.getD a []) := by
 unfold clearS
 rw [tab_getD j [] hj]
theorem clear_mat {l : List (List Int)} (hl : Mat G n l) {a c : Nat} (ha : a < l.length) : Mat G n (clearS G l a c) := by
 intro r hr
 obtain ⟨j, hj, rfl⟩ := getD_mem hr
 rw [clear_len h] at hj
 rw [clear_getD h hj]
 split
 ·exact Mat_get hl j hj
 ·exact addTo_row h (h.negE _ (ent_E h hl hj)) (Mat_get hl j hj) (Mat_get hl a ha)
theorem clear_get {l : List (List Int)} (hl : Mat G n l) {a c j : Nat} (ha : a < l.length) (hj : j < l.length) (hja : j ≠ a) (c' : Nat) : ent (clearS G l a c) j c' = G.add (ent l j c') (G.mul (G.neg (ent l j c)) (ent l a c')) := by
 have hE := ent_E h hl hj (c := c)
 have e : ent (clearS G l a c) j c' = ((clearS G l a c).getD j []).getD c' 0 := rfl
 rw [e, clear_getD h hj]
 by_cases hz : ent l j c = 0
 ·rw [if_pos (.inr hz), hz, h.neg0, h.zmul (ent_E h hl ha), h.add0 _ (ent_E h hl hj)]; rfl
 ·rw [if_neg (by intro h2; rcases h2 with h2 | h2; exact hja h2; exact hz h2), addTo_get h (h.negE _ hE) (Mat_get hl j hj) (Mat_get hl a ha)]; rfl
theorem clear_self {l : List (List Int)} {a c : Nat} (ha : a < l.length) : (clearS G l a c).getD a [] = l.getD a [] := by rw [clear_getD h ha, if_pos (.inl rfl)]
/-! ### One column -/
theorem swap_span {l : List (List Int)} (hl : Mat G n l) {a q : Nat} (ha : a < l.length) (hq : q < l.length) : ∀ r ∈ l, Sp G n (swapS l a q) r := by
 intro r hr
 obtain ⟨j, hj, rfl⟩ := getD_mem hr
 have hS := swap_mat h hl ha hq
 have hlen := swap_len (l := l) a q
 refine Sp.mem h hS ?_
 have e : l.getD j [] = (swapS l a q).getD (if j = q then a else if j = a then q else j) [] := by
  rw [swap_getD ha hq]
  by_cases h1 : j = q
  ·subst h1
   rw [if_pos rfl]
   by_cases h2 : a = j
   ·rw [if_pos h2, h2]
   ·rw [if_neg h2, if_pos rfl]
  ·rw [if_neg h1]
   by_cases h2 : j = a
   ·subst h2; rw [if_pos rfl, if_pos rfl]
   ·rw [if_neg h2, if_neg h1, if_neg h2]
 rw [e]
 refine mem_getD ?_
 rw [hlen]
 split
 ·exact ha
 ·split
  ·exact hq
  ·exact hj
theorem piv_span {l : List (List Int)} (hl : Mat G n l) {a c : Nat} (ha : a < l.length) (hz : ent l a c ≠ 0) : ∀ r ∈ l, Sp G n (pivS G l a c) r := by
 intro r hr
 obtain ⟨j, hj, rfl⟩ := getD_mem hr
 have hP := piv_mat h hl ha hz
 by_cases hja : j = a
 ·subst hja
  by_cases h1 : ent l j c = 1
  ·have e : pivS G l j c = l := if_pos h1
   rw [e]; exact Sp.mem h hl hr
  ·have hE := ent_E h hl hj (c := c)
   have hi := h.invE _ hE hz
   have hR := Mat_get hl j hj
   have e2 : (pivS G l j c).getD j [] = scaleS G (G.inv (ent l j c)) (l.getD j []) := by
    unfold pivS
    rw [if_neg h1, getD_set hj, if_pos rfl]
   have e : l.getD j [] = scaleS G (ent l j c) (scaleS G (G.inv (ent l j c)) (l.getD j [])) := by
    refine row_ext hR.1 (scale_row h hE (scale_row h hi hR)).1 fun i _ => ?_
    rw [scale_get h hE (scale_row h hi hR), scale_get h hi hR, ← h.mulA _ _ _ hE hi (row_get h hR i), h.mulC _ _ hE hi, h.mulI _ hE hz, h.mul1 _ (row_get h hR i)]
   rw [e, ← e2]
   exact Sp.scale h hP (Sp.mem h hP (mem_getD (by rw [piv_len h]; exact hj))) hE
 ·rw [← piv_getD h ha j hja (c := c)]
  exact Sp.mem h hP (mem_getD (by rw [piv_len h]; exact hj))
theorem clear_span {l : List (List Int)} (hl : Mat G n l) {a c : Nat} (ha : a < l.length) : ∀ r ∈ l, Sp G n (clearS G l a c) r := by
 intro r hr
 obtain ⟨j, hj, rfl⟩ := getD_mem hr
 have hC := clear_mat h hl ha (c := c)
 have hmem := mem_getD (l := clearS G l a c) (i := j) (by rw [clear_len h]; exact hj)
 have hmema := mem_getD (l := clearS G l a c) (i := a) (by rw [clear_len h]; exact ha)
 by_cases hja : j = a ∨ ent l j c = 0
 ·rw [clear_getD h hj, if_pos hja] at hmem
  exact Sp.mem h hC hmem
 ·rw [clear_getD h hj, if_neg hja] at hmem
  rw [clear_self h ha] at hmema
  have hE := ent_E h hl hj (c := c)
  have hN := h.negE _ hE
  have hR := Mat_get hl j hj
  have hA := Mat_get hl a ha
  have e : l.getD j [] = addToS G (addToS G (l.getD j []) (G.neg (ent l j c)) (l.getD a [])) (ent l j c) (l.getD a []) := by
   refine row_ext hR.1 (addTo_row h hE (addTo_row h hN hR hA) hA).1 fun i _ => ?_
   rw [addTo_get h hE (addTo_row h hN hR hA) hA, addTo_get h hN hR hA]
   have hb := h.back (row_get h hR i) hN (row_get h hA i)
   rw [h.negneg hE] at hb
   exact hb.symm
  rw [e]
  exact Sp.add (Sp.mem h hC hmem) hmema hE
end
/-- The rows' state ahead of column c, with a pivots found. -/
structure Inv (l : List (List Int)) (c a : Nat) (ps : List Nat) : Prop where
 len : ps.length = a
 le : a ≤ l.length
 asc : ∀ i j, i < j → j < a → ps.getD i 0 < ps.getD j 0
 lt : ∀ i, i < a → ps.getD i 0 < c
 one : ∀ i, i < a → ent l i (ps.getD i 0) = 1
 clr : ∀ i j, i < a → j < l.length → j ≠ i → ent l j (ps.getD i 0) = 0
 left : ∀ i c', i < a → c' < ps.getD i 0 → ent l i c' = 0
 low : ∀ i c', a ≤ i → i < l.length → c' < c → ent l i c' = 0
theorem getD_app {ps : List Nat} {c i : Nat} : (ps ++ [c]).getD i 0 = if i < ps.length then ps.getD i 0 else if i = ps.length then c else 0 := by
 rw [List.getD_eq_getElem?_getD, List.getD_eq_getElem?_getD]
 by_cases h1 : i < ps.length
 ·rw [if_pos h1, List.getElem?_append_left h1]
 ·rw [if_neg h1, List.getElem?_append_right (by omega)]
  by_cases h2 : i = ps.length
  ·rw [if_pos h2, h2]; simp
  ·rw [if_neg h2, List.getElem?_eq_none (by simp; omega)]; rfl
section
variable {G : Ops} (h : Fld G) {n : Nat}
include h
theorem findP_zero (l : List (List Int)) (c : Nat) : ∀ d i, findP l c d i = i + d → ∀ j, i ≤ j → j < i + d → ent l j c = 0
 | 0, i, _, j, h1, h2 => by omega
 | d + 1, i, he, j, h1, h2 => by
  unfold findP at he
  by_cases hz : ent l i c = 0
  ·rw [if_pos hz] at he
   by_cases e : j = i
   ·rw [e]; exact hz
   ·exact findP_zero l c d (i + 1) (by omega) j (by omega) (by omega)
  ·rw [if_neg hz] at he; omega
theorem inv_skip {l : List (List Int)} {c a : Nat} {ps : List Nat} (hI : Inv l c a ps) (hz : ∀ j, a ≤ j → j < l.length → ent l j c = 0) : Inv l (c + 1) a ps where
 len := hI.len
 le := hI.le
 asc := hI.asc
 lt := fun i hi => by have := hI.lt i hi; omega
 one := hI.one
 clr := hI.clr
 left := hI.left
 low := fun i c' h1 h2 h3 => by
  by_cases e : c' = c
  ·rw [e]; exact hz i h1 h2
  ·exact hI.low i c' h1 h2 (by omega)
/-- The step of a column with a pivot in the row q. -/
def stepS (G : Ops) (l : List (List Int)) (a q c : Nat) : List (List Int) := clearS G (pivS G (swapS l a q) a c) a c
theorem step_facts {l : List (List Int)} (hl : Mat G n l) {a q c : Nat} (ha : a ≤ q) (hq : q < l.length) (hz : ent l q c ≠ 0) : Mat G n (swapS l a q) ∧ ent (swapS l a q) a c ≠ 0 ∧ Mat G n (pivS G (swapS l a q) a c) ∧ (swapS l a q).length = l.length ∧ (pivS G (swapS l a q) a c).length = l.length := by
 have ha2 : a < l.length := by omega
 have h1 := swap_mat h hl ha2 hq
 have h2 : ent (swapS l a q) a c ≠ 0 := by rw [swap_ent a q c ha2 hq]; exact hz
 have h3 := swap_len (l := l) a q
 exact ⟨h1, h2, piv_mat h h1 (by omega) h2, h3, by rw [piv_len h, h3]⟩
theorem step_mat {l : List (List Int)} (hl : Mat G n l) {a q c : Nat} (ha : a ≤ q) (hq : q < l.length) (hz : ent l q c ≠ 0) : Mat G n (stepS G l a q c) ∧ (stepS G l a q c).length = l.length := by
 obtain ⟨h1, h2, h3, h4, h5⟩ := step_facts h hl ha hq hz
 unfold stepS
 exact ⟨clear_mat h h3 (by omega), by rw [clear_len h, h5]⟩
theorem step_span {l : List (List Int)} (hl : Mat G n l) {a q c : Nat} (ha : a ≤ q) (hq : q < l.length) (hz : ent l q c ≠ 0) : ∀ r ∈ l, Sp G n (stepS G l a q c) r := by
 obtain ⟨h1, h2, h3, h4, h5⟩ := step_facts h hl ha hq hz
 have hm := step_mat h hl ha hq hz
 intro r hr
 have s1 := swap_span h hl (show a < l.length by omega) hq r hr
 have s2 := piv_span h h1 (show a < _ by omega) h2
 have s3 := clear_span h h3 (c := c) (show a < _ by omega)
 exact Sp.trans h hm.1 s3 (Sp.trans h h3 s2 s1)
/-- The other way: what the step makes lies in the span. -/
theorem step_back {l L : List (List Int)} (hL : Mat G n L) (hl : Mat G n l) (hs : ∀ r ∈ l, Sp G n L r) {a q c : Nat} (ha : a ≤ q) (hq : q < l.length) (hz : ent l q c ≠ 0) : ∀ r ∈ stepS G l a q c, Sp G n L r := by
 obtain ⟨h1, h2, h3, h4, h5⟩ := step_facts h hl ha hq hz
 have g1 : ∀ j, j < l.length → Sp G n L ((swapS l a q).getD j []) := fun j hj => by
  rw [swap_getD (by omega) hq]
  refine hs _ (mem_getD ?_)
  split
  ·omega
  ·split <;> omega
 have g2 : ∀ j, j < l.length → Sp G n L ((pivS G (swapS l a q) a c).getD j []) := fun j hj => by
  by_cases hja : j = a
  ·subst hja
   by_cases e1 : ent (swapS l j q) j c = 1
   ·have e : pivS G (swapS l j q) j c = swapS l j q := if_pos e1
    rw [e]; exact g1 j hj
   ·have e : (pivS G (swapS l j q) j c).getD j [] = scaleS G (G.inv (ent (swapS l j q) j c)) ((swapS l j q).getD j []) := by
     unfold pivS
     rw [if_neg e1, getD_set (by omega), if_pos rfl]
    rw [e]
    exact Sp.scale h hL (g1 j hj) (h.invE _ (ent_E h h1 (by omega)) h2)
  ·rw [piv_getD h (by omega) j hja]; exact g1 j hj
 intro r hr
 obtain ⟨j, hj, rfl⟩ := getD_mem hr
 unfold stepS at hj ⊢
 rw [clear_len h, h5] at hj
 rw [clear_getD h (by omega)]
 split
 ·exact g2 j hj
 ·exact Sp.addTo h hL (g2 j hj) (g2 a (by omega)) (h.negE _ (ent_E h h3 (by omega)))
/-- Columns on the left are not touched; the column c is cleared. -/
theorem step_left {l : List (List Int)} (hl : Mat G n l) {a q c : Nat} (ha : a ≤ q) (hq : q < l.length) (hz : ent l q c ≠ 0) (hlow : ∀ i c', a ≤ i → i < l.length → c' < c → ent l i c' = 0) {j c' : Nat} (hj : j < l.length) (hc : c' < c) : ent (stepS G l a q c) j c' = ent l j c' := by
 obtain ⟨h1, h2, h3, h4, h5⟩ := step_facts h hl ha hq hz
 have s1 : ∀ j, j < l.length → ent (swapS l a q) j c' = ent l j c' := fun j hj => by
  rw [swap_get (by omega) hq]
  by_cases e1 : j = q
  ·rw [if_pos e1, hlow a c' (by omega) (by omega) hc, hlow j c' (by omega) (by omega) hc]
  ·rw [if_neg e1]
   by_cases e2 : j = a
   ·rw [if_pos e2, hlow q c' (by omega) (by omega) hc, hlow j c' (by omega) (by omega) hc]
   ·rw [if_neg e2]
 have za : ent (pivS G (swapS l a q) a c) a c' = 0 := piv_zero h h1 (by omega) h2 (by rw [s1 a (by omega)]; exact hlow a c' (by omega) (by omega) hc)
 have s2 : ∀ j, j < l.length → ent (pivS G (swapS l a q) a c) j c' = ent l j c' := fun j hj => by
  by_cases e : j = a
  ·rw [e, za, hlow a c' (by omega) (by omega) hc]
  ·unfold ent
   rw [piv_getD h (by omega) j e]
   exact s1 j hj
 unfold stepS
 by_cases e : j = a
 ·have : ent (clearS G (pivS G (swapS l a q) a c) a c) j c' = ent (pivS G (swapS l a q) a c) j c' := by
   unfold ent; rw [e, clear_self h (by omega)]
  rw [this]; exact s2 j hj
 ·rw [clear_get h h3 (by omega) (by omega) e, za, h.mul0 (h.negE _ (ent_E h h3 (by omega))), h.add0 _ (ent_E h h3 (by omega))]
  exact s2 j hj
theorem step_col {l : List (List Int)} (hl : Mat G n l) {a q c : Nat} (ha : a ≤ q) (hq : q < l.length) (hz : ent l q c ≠ 0) {j : Nat} (hj : j < l.length) : ent (stepS G l a q c) j c = if j = a then 1 else 0 := by
 obtain ⟨h1, h2, h3, h4, h5⟩ := step_facts h hl ha hq hz
 have hp := piv_one h h1 (show a < _ by omega) h2
 unfold stepS
 by_cases e : j = a
 ·rw [if_pos e]
  have : ent (clearS G (pivS G (swapS l a q) a c) a c) j c = ent (pivS G (swapS l a q) a c) a c := by
   unfold ent; rw [e, clear_self h (by omega)]
  rw [this, hp]
 ·have hE := ent_E h h3 (i := j) (c := c) (by omega)
  rw [if_neg e, clear_get h h3 (by omega) (by omega) e, hp, h.mulC _ _ (h.negE _ hE) h.one, h.mul1 _ (h.negE _ hE), h.addN _ hE]
theorem inv_step {l : List (List Int)} (hl : Mat G n l) {a q c : Nat} {ps : List Nat} (hI : Inv l c a ps) (ha : a ≤ q) (hq : q < l.length) (hz : ent l q c ≠ 0) : Inv (stepS G l a q c) (c + 1) (a + 1) (ps ++ [c]) := by
 have hlen := (step_mat h hl ha hq hz).2
 have hp := hI.len
 have hold : ∀ i, i < a → (ps ++ [c]).getD i 0 = ps.getD i 0 := fun i hi => by rw [getD_app, if_pos (by omega)]
 have hnew : (ps ++ [c]).getD a 0 = c := by rw [getD_app, if_neg (by omega), if_pos (by omega)]
 have hL : ∀ {j c'}, j < l.length → c' < c → ent (stepS G l a q c) j c' = ent l j c' := fun hj hc => step_left h hl ha hq hz hI.low hj hc
 have hC : ∀ {j}, j < l.length → ent (stepS G l a q c) j c = if j = a then 1 else 0 := fun hj => step_col h hl ha hq hz hj
 exact {
  len := by simp [hp]
  le := by omega
  asc := fun i j hij hj => by
   rw [hold i (by omega)]
   by_cases e : j = a
   ·rw [e, hnew]; exact hI.lt i (by omega)
   ·rw [hold j (by omega)]; exact hI.asc i j hij (by omega)
  lt := fun i hi => by
   by_cases e : i = a
   ·rw [e, hnew]; omega
   ·rw [hold i (by omega)]; have := hI.lt i (by omega); omega
  one := fun i hi => by
   by_cases e : i = a
   ·rw [e, hnew, hC (by omega), if_pos rfl]
   ·rw [hold i (by omega), hL (by have := hI.le; omega) (hI.lt i (by omega))]; exact hI.one i (by omega)
  clr := fun i j hi hj hji => by
   rw [hlen] at hj
   by_cases e : i = a
   ·rw [e, hnew, hC hj, if_neg (by omega)]
   ·rw [hold i (by omega), hL hj (hI.lt i (by omega))]; exact hI.clr i j (by omega) hj hji
  left := fun i c' hi hc => by
   by_cases e : i = a
   ·rw [e, hnew] at hc
    rw [e, hL (by omega) hc]; exact hI.low a c' (by omega) (by omega) hc
   ·rw [hold i (by omega)] at hc
    have := hI.lt i (by omega)
    rw [hL (by have := hI.le; omega) (by omega)]; exact hI.left i c' (by omega) hc
  low := fun i c' h1 h2 h3 => by
   rw [hlen] at h2
   by_cases e : c' = c
   ·rw [e, hC h2, if_neg (by omega)]
   ·rw [hL h2 (by omega)]; exact hI.low i c' (by omega) h2 (by omega) }
def castS (ps : List Nat) : List Int := ps.map fun (p : Nat) => ((p : Nat) : Int)
/-- Elimination: the state at the end, and the spans. -/
theorem elim_inv (cols : Nat) : ∀ (d c a : Nat) (l : List (List Int)) (ps : List Nat), cols = c + d → Mat G n l → Inv l c a ps →
  ∃ L ps' c', elimGo G d c a l (castS ps) = (L, castS ps') ∧ Mat G n L ∧ L.length = l.length ∧ Inv L c' ps'.length ps' ∧ c' ≤ cols ∧ (c' = cols ∨ ps'.length = L.length) ∧ (∀ r ∈ l, Sp G n L r) ∧ ∀ r ∈ L, Sp G n l r := by
 intro d
 induction d with
 | zero =>
  intro c a l ps hd hl hI
  exact ⟨l, ps, c, rfl, hl, rfl, by rw [hI.len]; exact hI, by omega, .inl (by omega), fun r hr => Sp.mem h hl hr, fun r hr => Sp.mem h hl hr⟩
 | succ d ih =>
  intro c a l ps hd hl hI
  unfold elimGo
  by_cases ha : a < l.length
  ·rw [if_pos ha]
   by_cases hk : findP l c (l.length - a) a = l.length
   ·rw [if_pos hk]
    exact ih (c + 1) a l ps (by omega) hl (inv_skip h hI fun j h1 h2 => findP_zero h l c (l.length - a) a (by omega) j h1 (by omega))
   ·rw [if_neg hk]
    have hfl := findP_le l c (l.length - a) a
    have hne := findP_ne l c (l.length - a) a (by omega)
    generalize findP l c (l.length - a) a = q at hk hne hfl
    have hq : q < l.length := by omega
    have hm := step_mat h hl hfl.1 hq hne
    obtain ⟨L, ps', c', e, r1, r2, r3, r4, r5, r6, r7⟩ := ih (c + 1) (a + 1) (stepS G l a q c) (ps ++ [c]) (by omega) hm.1 (inv_step h hl hI hfl.1 hq hne)
    refine ⟨L, ps', c', ?_, r1, by omega, r3, r4, r5, fun r hr => Sp.trans h r1 r6 (step_span h hl hfl.1 hq hne r hr), fun r hr => Sp.trans h hl (step_back h hl hl (fun r hr => Sp.mem h hl hr) hfl.1 hq hne) (r7 r hr)⟩
    have e2 : castS (ps ++ [c]) = castS ps ++ [(c : Int)] := by simp [castS]
    rw [e2] at e
    exact e
  ·rw [if_neg ha]
   exact ⟨l, ps, c, rfl, hl, rfl, by rw [hI.len]; exact hI, by omega, .inr (by have := hI.len; have := hI.le; omega), fun r hr => Sp.mem h hl hr, fun r hr => Sp.mem h hl hr⟩
end
/-- Reduced rows with their pivots. -/
structure Rr (n : Nat) (l : List (List Int)) (ps : List Nat) : Prop where
 len : ps.length = l.length
 asc : ∀ i j, i < j → j < l.length → ps.getD i 0 < ps.getD j 0
 lt : ∀ i, i < l.length → ps.getD i 0 < n
 one : ∀ i, i < l.length → ent l i (ps.getD i 0) = 1
 clr : ∀ i j, i < l.length → j < l.length → j ≠ i → ent l j (ps.getD i 0) = 0
 left : ∀ i c', i < l.length → c' < ps.getD i 0 → ent l i c' = 0
theorem getD_take {l : List (List Int)} {a i : Nat} (hi : i < a) : (l.take a).getD i [] = l.getD i [] := by
 rw [List.getD_eq_getElem?_getD, List.getD_eq_getElem?_getD, List.getElem?_take_of_lt hi]
theorem inv_rr {n c a : Nat} {l : List (List Int)} {ps : List Nat} (hI : Inv l c a ps) (hc : c ≤ n) : Rr n (l.take a) ps := by
 have hle := hI.le
 have hlen : (l.take a).length = a := by rw [List.length_take]; omega
 have he : ∀ {i c'}, i < a → ent (l.take a) i c' = ent l i c' := fun hi => by unfold ent; rw [getD_take hi]
 exact {
  len := by rw [hI.len, hlen]
  asc := fun i j h1 h2 => hI.asc i j h1 (by omega)
  lt := fun i hi => by have := hI.lt i (by omega); omega
  one := fun i hi => by rw [he (by omega)]; exact hI.one i (by omega)
  clr := fun i j h1 h2 h3 => by rw [he (by omega)]; exact hI.clr i j (by omega) (by omega) h3
  left := fun i c' h1 h2 => by rw [he (by omega)]; exact hI.left i c' (by omega) h2 }
/-- The canonical rows. -/
def canonS (G : Ops) (n : Nat) (l : List (List Int)) : List (List Int) := (elimS G l n).1.take (elimS G l n).2.length
section
variable {G : Ops} (h : Fld G) {n : Nat}
include h
theorem canon_rr {l : List (List Int)} (hl : Mat G n l) : ∃ ps, (elimS G l n).2 = castS ps ∧ Rr n (canonS G n l) ps ∧ Mat G n (canonS G n l) ∧ (canonS G n l).length ≤ l.length ∧ (∀ r ∈ l, Sp G n (canonS G n l) r) ∧ ∀ r ∈ canonS G n l, Sp G n l r := by
 obtain ⟨L, ps, c, e, r1, r2, r3, r4, r5, r6, r7⟩ := elim_inv h n n 0 0 l [] (by omega) hl {
  len := rfl
  le := Nat.zero_le _
  asc := fun i j _ h => by omega
  lt := fun i h => by omega
  one := fun i h => by omega
  clr := fun i j h => by omega
  left := fun i c h => by omega
  low := fun i c h1 h2 h3 => by omega }
 have e2 : elimS G l n = (L, castS ps) := e
 have e3 : canonS G n l = L.take ps.length := by
  unfold canonS
  rw [e2]; simp [castS]
 have hM : Mat G n (L.take ps.length) := fun r hr => r1 r (List.mem_of_mem_take hr)
 rw [e2, e3]
 refine ⟨ps, rfl, inv_rr r3 r4, hM, by rw [List.length_take]; omega, fun r hr => Sp.trans h hM (fun x hx => ?_) (r6 r hr), fun r hr => r7 r (List.mem_of_mem_take hr)⟩
 obtain ⟨i, hi, rfl⟩ := getD_mem hx
 by_cases hlt : i < ps.length
 ·refine Sp.mem h hM ?_
  rw [← getD_take hlt]
  exact mem_getD (by rw [List.length_take]; omega)
 ·have hn : c = n := by
   rcases r5 with r5 | r5
   ·exact r5
   ·omega
  have e4 : L.getD i [] = zeroS n := row_ext (Mat_get r1 i hi).1 (row_zero h).1 fun k hk => by
   rw [zeroS_get]
   exact r3.low i k (by omega) hi (by omega)
  rw [e4]; exact Sp.zero
/-- Reduced rows stay. -/
theorem rr_go {l : List (List Int)} {ps : List Nat} (hl : Mat G n l) (hR : Rr n l ps) : ∀ (d c a : Nat), n = c + d → a ≤ l.length → (∀ i, i < a → ps.getD i 0 < c) → (∀ i, a ≤ i → i < l.length → c ≤ ps.getD i 0) → elimGo G d c a l (castS (ps.take a)) = (l, castS ps) := by
 intro d
 induction d with
 | zero =>
  intro c a hd ha h1 h2
  have : a = l.length := by
   by_cases e : a < l.length
   ·have := h2 a (Nat.le_refl _) e
    have := hR.lt a e
    omega
   ·omega
  unfold elimGo
  rw [List.take_of_length_le (by rw [hR.len]; omega)]
 | succ d ih =>
  intro c a hd ha h1 h2
  unfold elimGo
  by_cases hlt : a < l.length
  ·rw [if_pos hlt]
   have hpa := h2 a (Nat.le_refl _) hlt
   by_cases hc : ps.getD a 0 = c
   ·have hone := hR.one a hlt
    rw [hc] at hone
    have hf : findP l c (l.length - a) a = a := by
     obtain ⟨k, hk⟩ : ∃ k, l.length - a = k + 1 := ⟨l.length - a - 1, by omega⟩
     rw [hk]
     unfold findP
     rw [if_neg (by rw [hone]; decide)]
    rw [hf, if_neg (by omega)]
    have e1 : swapS l a a = l := by
     refine List.ext_getElem? fun j => ?_
     unfold swapS
     rw [List.getElem?_set, List.getElem?_set]
     by_cases e : a = j
     ·subst e
      simp [hlt]
     ·simp [e]
    have e2 : pivS G l a c = l := if_pos hone
    have e3 : clearS G l a c = l := by
     have e4 : l = tab l.length fun i => l.getD i [] := tab_ext rfl fun p hp => by rw [List.getD_eq_getElem?_getD, List.getElem?_eq_getElem hp]; rfl
     unfold clearS
     conv => rhs; rw [e4]
     refine tab_congr fun j hj => ?_
     by_cases e : j = a
     ·rw [if_pos (.inl e)]
     ·have := hR.clr a j hlt hj e
      rw [hc] at this
      rw [if_pos (.inr this)]
    rw [e1, e2, e3]
    have e5 : castS (ps.take a) ++ [(c : Int)] = castS (ps.take (a + 1)) := by
     have hlen := hR.len
     rw [List.take_add_one]
     have : ps[a]? = some c := by
      have h3 : a < ps.length := by omega
      rw [List.getD_eq_getElem?_getD, List.getElem?_eq_getElem h3] at hc
      rw [List.getElem?_eq_getElem h3]
      exact congrArg some hc
     rw [this]; simp [castS]
    rw [e5]
    refine ih (c + 1) (a + 1) (by omega) (by omega) (fun i hi => ?_) (fun i hi hi2 => ?_)
    ·by_cases e : i = a
     ·rw [e]; omega
     ·have := h1 i (by omega); omega
    ·have := hR.asc a i (by omega) hi2; omega
   ·have hf : findP l c (l.length - a) a = l.length := by
     have hle := findP_le l c (l.length - a) a
     by_cases e : findP l c (l.length - a) a < l.length
     ·have hne := findP_ne l c (l.length - a) a (by omega)
      refine absurd (hR.left _ c e ?_) hne
      by_cases e2 : findP l c (l.length - a) a = a
      ·rw [e2]; omega
      ·have := hR.asc a _ (show a < findP l c (l.length - a) a by omega) e
       omega
     ·omega
    rw [if_pos hf]
    refine ih (c + 1) a (by omega) ha (fun i hi => by have := h1 i hi; omega) (fun i hi hi2 => ?_)
    by_cases e : i = a
    ·rw [e]; omega
    ·have := hR.asc a i (by omega) hi2; omega
  ·rw [if_neg hlt, List.take_of_length_le (by rw [hR.len]; omega)]
theorem canon_idem {l : List (List Int)} {ps : List Nat} (hl : Mat G n l) (hR : Rr n l ps) : elimS G l n = (l, castS ps) ∧ canonS G n l = l := by
 have e : elimS G l n = (l, castS ps) := by
  have := rr_go h hl hR n 0 0 (by omega) (Nat.zero_le _) (fun i hi => by omega) (fun i _ _ => Nat.zero_le _)
  exact this
 refine ⟨e, ?_⟩
 unfold canonS
 rw [e, List.take_of_length_le]
 have := hR.len
 simp [castS]; omega
end
/-- The remainder of v: for each row from i on, what v has at its pivot is taken off. -/
def restGo (G : Ops) (l : List (List Int)) (ps : List Nat) (v : List Int) : Nat → Nat → List Int → List Int
 | 0, _, out => out
 | d + 1, i, out => restGo G l ps v d (i + 1) (addToS G out (G.neg (v.getD (ps.getD i 0) 0)) (l.getD i []))
def restS (G : Ops) (l : List (List Int)) (ps : List Nat) (v : List Int) : List Int := restGo G l ps v l.length 0 v
section
variable {G : Ops} (h : Fld G) {n : Nat} {l : List (List Int)} {ps : List Nat}
include h
theorem restGo_lin (hl : Mat G n l) {v r : List Int} {a : Int} (ha : G.El a) (hv : Row G n v) (hr : Row G n r) : ∀ (d i : Nat) (o o' : List Int), i + d = l.length → Row G n o → Row G n o' →
  restGo G l ps (addToS G v a r) d i (addToS G o a o') = addToS G (restGo G l ps v d i o) a (restGo G l ps r d i o')
 | 0, _, _, _, _, _, _ => rfl
 | d + 1, i, o, o', hd, ho, ho' => by
  unfold restGo
  have hli := Mat_get hl i (by omega)
  have h1 := h.negE _ (row_get h hv (ps.getD i 0))
  have h2 := h.negE _ (row_get h hr (ps.getD i 0))
  have hvr := addTo_row h ha hv hr
  have h3 := h.negE _ (row_get h hvr (ps.getD i 0))
  rw [← restGo_lin hl ha hv hr d (i + 1) _ _ (by omega) (addTo_row h h1 ho hli) (addTo_row h h2 ho' hli)]
  congr 1
  refine row_ext (addTo_row h h3 (addTo_row h ha ho ho') hli).1 (addTo_row h ha (addTo_row h h1 ho hli) (addTo_row h h2 ho' hli)).1 fun k _ => ?_
  rw [addTo_get h h3 (addTo_row h ha ho ho') hli, addTo_get h ha ho ho', addTo_get h ha hv hr, addTo_get h ha (addTo_row h h1 ho hli) (addTo_row h h2 ho' hli), addTo_get h h1 ho hli, addTo_get h h2 ho' hli]
  exact h.lin (row_get h ho k) ha (row_get h ho' k) (row_get h hv _) (row_get h hr _) (row_get h hli k)
theorem restGo_zero (hl : Mat G n l) {v : List Int} (hv : Row G n v) : ∀ (d i : Nat) (o : List Int), i + d = l.length → Row G n o → (∀ k, i ≤ k → k < l.length → v.getD (ps.getD k 0) 0 = 0) → restGo G l ps v d i o = o
 | 0, _, _, _, _, _ => rfl
 | d + 1, i, o, hd, ho, hz => by
  unfold restGo
  have e : addToS G o (G.neg (v.getD (ps.getD i 0) 0)) (l.getD i []) = o := by
   have hli := Mat_get hl i (by omega)
   rw [hz i (Nat.le_refl _) (by omega), h.neg0]
   refine row_ext (addTo_row h h.zero ho hli).1 ho.1 fun k _ => ?_
   rw [addTo_get h h.zero ho hli, h.zmul (row_get h hli k), h.add0 _ (row_get h ho k)]
  rw [e]
  exact restGo_zero hl hv d (i + 1) o (by omega) ho fun k h1 h2 => hz k (by omega) h2
theorem restGo_mem (hl : Mat G n l) (hR : Rr n l ps) {j : Nat} (hj : j < l.length) : ∀ (d i : Nat), i + d = l.length → i ≤ j → restGo G l ps (l.getD j []) d i (l.getD j []) = zeroS n
 | 0, i, hd, hi => by omega
 | d + 1, i, hd, hi => by
  have hlj := Mat_get hl j hj
  unfold restGo
  by_cases e : i = j
  ·subst e
   have hone : (l.getD i []).getD (ps.getD i 0) 0 = 1 := hR.one i hj
   have hN := h.negE _ h.one
   have e2 : addToS G (l.getD i []) (G.neg 1) (l.getD i []) = zeroS n := by
    refine row_ext (addTo_row h hN hlj hlj).1 (row_zero h).1 fun k _ => ?_
    have hk := row_get h hlj k
    rw [addTo_get h hN hlj hlj, zeroS_get, h.negM h.one hk, h.mul1 _ hk, h.addN _ hk]
   rw [hone, e2]
   exact restGo_zero h hl hlj d (i + 1) _ (by omega) (row_zero h) fun k h1 h2 => hR.clr k i h2 hj (by omega)
  ·have hz : (l.getD j []).getD (ps.getD i 0) 0 = 0 := hR.clr i j (by omega) hj (by omega)
   have e2 : addToS G (l.getD j []) (G.neg 0) (l.getD i []) = l.getD j [] := by
    have hli := Mat_get hl i (by omega)
    rw [h.neg0]
    refine row_ext (addTo_row h h.zero hlj hli).1 hlj.1 fun k _ => ?_
    rw [addTo_get h h.zero hlj hli, h.zmul (row_get h hli k), h.add0 _ (row_get h hlj k)]
   rw [hz, e2]
   exact restGo_mem hl hR hj d (i + 1) (by omega) (by omega)
/-- A combination of reduced rows has the remainder 0. -/
theorem rest_span (hl : Mat G n l) (hR : Rr n l ps) {v : List Int} (hv : Sp G n l v) : restS G l ps v = zeroS n := by
 unfold restS
 induction hv with
 | zero => exact restGo_zero h hl (row_zero h) _ 0 _ (by omega) (row_zero h) fun k _ _ => zeroS_get _ _
 | @add x r a hx hr ha ih =>
  have hxr := Sp.row h hl hx
  have hrr := hl r hr
  rw [restGo_lin h hl ha hxr hrr _ 0 x r (by omega) hxr hrr, ih]
  obtain ⟨j, hj, rfl⟩ := getD_mem hr
  rw [restGo_mem h hl hR hj _ 0 (by omega) (Nat.zero_le _)]
  refine row_ext (addTo_row h ha (row_zero h) (row_zero h)).1 (row_zero h).1 fun k _ => ?_
  rw [addTo_get h ha (row_zero h) (row_zero h), zeroS_get, h.mul0 ha, h.add0 _ h.zero]
end
end Go.Proofs.Ytjelamodjpepkaa.B
/- The reference's Has: a combination of canonical rows is a word of the code. -/
namespace Go.Proofs.Ytjelamodjpepkaa.B
open Go.RowKit Go.Proofs.YtjelamodjpepkaaW.PrintWords Go.Proofs.YtjelamodjpepkaaW.PrintMore Go.Proofs.Ytjelamodjpepkaa.P
set_option linter.unusedVariables false
set_option linter.unusedSectionVars false
theorem castS_rd (ps : List Nat) (i : Nat) : rd (castS ps) (i : Int) = ((ps.getD i 0 : Nat) : Int) := by
 rw [rd_nat]
 unfold castS
 rw [List.getD_eq_getElem?_getD, List.getElem?_map, List.getD_eq_getElem?_getD]
 cases ps[i]? <;> rfl
section
variable {P M : Int} {Mod : List Int} {G : Ops}
theorem pivots_tl {n : Nat} (hn : n < 1000000) {l : List (List Int)} {ps : List Nat} (hl : Mat G n l) (hR : Rr n l ps) (hll : l.length < 1000000) : Tl (fun k => r10Pivots.f k l) (castS ps) := by
 have hps := hR.len
 have H : ∀ (d i : Nat), l.length - i = d → i ≤ l.length → Tl (fun k => r10Pivots.l0 k l (castS (ps.take i)) (i : Int)) (castS ps) := by
  intro d
  induction d with
  | zero =>
   intro i hd hi
   rw [List.take_of_length_le (by omega)]
   refine Tl.step (fun k => by rw [r10Pivots.l0]) ?_
   exact Tl.neg (by omega) (Tl.now _)
  | succ d ih =>
   intro i hd hi
   have hlt : i < l.length := by omega
   have hnext := ih (i + 1) (by omega) (by omega)
   have hpn := hR.lt i hlt
   have hrow := (Mat_get hl i hlt).1
   have e5 : castS (ps.take (i + 1)) = castS (ps.take i) ++ [((ps.getD i 0 : Nat) : Int)] := by
    have h3 : i < ps.length := by omega
    unfold castS
    rw [List.take_add_one, List.map_append, List.getD_eq_getElem?_getD, List.getElem?_eq_getElem h3]
    rfl
   rw [e5] at hnext
   have hal : (castS (ps.take i)).length < 17592186044416 := by simp [castS]; omega
   have H2 : ∀ (d c : Nat), ps.getD i 0 - c = d → c ≤ ps.getD i 0 → Tl (fun k => r10Pivots.l1 k l (castS (ps.take i)) (i : Int) (c : Int)) (castS ps) := by
    intro d
    induction d with
    | zero =>
     intro c hd2 hc
     obtain rfl : c = ps.getD i 0 := by omega
     have hone := hR.one i hlt
     refine Tl.step (fun k => by rw [r10Pivots.l1]) ?_
     rw [rdL_nat, rd_nat, w64s i (by omega)]
     refine Tl.pos (by omega) (Tl.pos (by omega) (Tl.pos (by rw [hrow]; omega) (Tl.pos (by omega) (Tl.neg ?_ (Tl.pos hal hnext)))))
     intro h0
     have : ent l i (ps.getD i 0) = 0 := h0
     omega
    | succ d ih2 =>
     intro c hd2 hc
     have hz : ent l i c = 0 := hR.left i c hlt (by omega)
     refine Tl.step (fun k => by rw [r10Pivots.l1]) ?_
     rw [rdL_nat, rd_nat, w64s c (by omega)]
     exact Tl.pos (by omega) (Tl.pos (by omega) (Tl.pos (by rw [hrow]; omega) (Tl.pos (by omega) (Tl.pos hz (ih2 (c + 1) (by omega) (by omega))))))
   refine Tl.step (fun k => by rw [r10Pivots.l0]) ?_
   exact Tl.pos (by omega) (H2 _ 0 rfl (Nat.zero_le _))
 unfold r10Pivots.f
 simpa [castS] using H _ 0 rfl (Nat.zero_le _)
theorem rest_tl (h : OpsOk P M Mod G) (hf : Fld G) {n : Nat} (hn : n < 1000000) {l : List (List Int)} {ps : List Nat} (hl : Mat G n l) (hR : Rr n l ps) (hll : l.length < 1000000) {v : List Int} (hv : Row G n v) : Tl (fun k => r10Rest.f k P M Mod l v) (restS G l ps v) := by
 have hps := hR.len
 have hcl : (castS ps).length = l.length := by simp [castS, hps]
 have hvl := hv.1
 have H : ∀ (d i : Nat) (o : List Int), l.length - i = d → i ≤ l.length → Row G n o → Tl (fun k => r10Rest.l0 k l v (castS ps) o (i : Int) P M Mod) (restGo G l ps v d i o) := by
  intro d
  induction d with
  | zero =>
   intro i o hd hi ho
   refine Tl.step (fun k => by rw [r10Rest.l0]) ?_
   exact Tl.neg (by omega) (Tl.now _)
  | succ d ih =>
   intro i o hd hi ho
   have hlt : i < l.length := by omega
   have hli := Mat_get hl i hlt
   have hpn := hR.lt i hlt
   have hE := row_get hf hv (ps.getD i 0)
   have hnext := ih (i + 1) _ (by omega) (by omega) (addTo_row hf (hf.negE _ hE) ho hli)
   have h1 := ho.1
   refine Tl.step (fun k => by rw [r10Rest.l0]) ?_
   rw [castS_rd, rd_nat, rdL_nat, w64s i (by omega)]
   exact Tl.pos (by omega) (Tl.pos (by omega) (Tl.pos (by omega) (Tl.pos (by omega) (Tl.pos (by omega) (Tl.bind (h.negT _ hE) (Tl.bind (addTo_tl h _ (hf.negE _ hE) _ _ ho.2 hli.2 (by rw [h1, hli.1]; omega) (by omega)) hnext))))))
 unfold r10Rest.f restS
 refine Tl.bind (pivots_tl hn hl hR hll) (Tl.bind1 rfl (Tl.pos (by simp; omega) ?_))
 rw [List.nil_append]
 exact H _ 0 v rfl (Nat.zero_le _) hv
theorem zero_tl (n : Nat) (hn : n < 1000000) : Tl (fun k => r10Zero.f k (zeroS n)) true := by
 have hlen : (zeroS n).length = n := by simp [zeroS]
 have H : ∀ (d i : Nat), n - i = d → i ≤ n → Tl (fun k => r10Zero.l0 k (zeroS n) (i : Int)) true := by
  intro d
  induction d with
  | zero =>
   intro i hd hi
   refine Tl.step (fun k => by rw [r10Zero.l0]) ?_
   exact Tl.neg (by omega) (Tl.now _)
  | succ d ih =>
   intro i hd hi
   refine Tl.step (fun k => by rw [r10Zero.l0]) ?_
   rw [rd_nat, w64s i (by omega)]
   exact Tl.pos (by omega) (Tl.pos (by omega) (Tl.pos (zeroS_get n i) (ih (i + 1) (by omega) (by omega))))
 exact H _ 0 rfl (Nat.zero_le _)
end
theorem G2_fld : Fld G2 where
 zero := .inl rfl
 one := .inr rfl
 addE := G2_ok.addE
 mulE := G2_ok.mulE
 negE := G2_ok.negE
 invE := G2_ok.invE
 addC := fun a b ha hb => by rcases ha with rfl | rfl <;> rcases hb with rfl | rfl <;> rfl
 addA := fun a b c ha hb hc => by rcases ha with rfl | rfl <;> rcases hb with rfl | rfl <;> rcases hc with rfl | rfl <;> rfl
 add0 := fun a ha => by rcases ha with rfl | rfl <;> rfl
 addN := fun a ha => by rcases ha with rfl | rfl <;> rfl
 mulC := fun a b ha hb => by rcases ha with rfl | rfl <;> rcases hb with rfl | rfl <;> rfl
 mulA := fun a b c ha hb hc => by rcases ha with rfl | rfl <;> rcases hb with rfl | rfl <;> rcases hc with rfl | rfl <;> rfl
 mul1 := fun a ha => by rcases ha with rfl | rfl <;> rfl
 dist := fun a b c ha hb hc => by rcases ha with rfl | rfl <;> rcases hb with rfl | rfl <;> rcases hc with rfl | rfl <;> rfl
 mulI := fun a ha hz => by
  rcases ha with rfl | rfl
  ·exact absurd rfl hz
  ·rfl
/-- Canonical rows pass the check. -/
theorem codeS_canon (n : Nat) (l : List (List Int)) (hl : Mat G2 n l) : codeS n (canonS G2 n l) = 0 := by
 obtain ⟨ps, _, hR, hM, _⟩ := canon_rr G2_fld hl
 unfold codeS
 have := (canon_idem G2_fld hM hR).2
 unfold canonS at this
 exact if_pos this
theorem has2_tl (n : Nat) (hn1 : 1 ≤ n) (hn : n ≤ 64) (l : List (List Int)) (hl : Mat G2 n l) (hll : l.length ≤ 256) (v : List Int) (hv : Sp G2 n l v) : Tl (fun k => r12Has.f k 2 1 [] (n : Int) (canonS G2 n l) v) (true, 0) := by
 obtain ⟨ps, _, hR, hM, hle, hsp, _⟩ := canon_rr G2_fld hl
 have hrow := Sp.row G2_fld hl hv
 have hb : isBits v = true := isBits_of hrow.2
 have hrest := rest_tl G2_ok G2_fld (show n < 1000000 by omega) hM hR (by omega) hrow
 rw [rest_span G2_fld hM hR (Sp.trans G2_fld hM hsp hv)] at hrest
 have hc := codeCheck_tl n hn1 hn _ hM (by omega)
 rw [codeS_canon n l hl] at hc
 have hlist := list2_tl v (by rw [hrow.1]; omega) n
 have e : bitsS n v = 0 := by unfold bitsS; rw [if_pos hrow.1, hb]; rfl
 rw [e] at hlist
 unfold r12Has.f r12Word.f r10In.f
 exact Tl.bind (Tl.bind hc (Tl.pos rfl (Tl.bind hlist (Tl.now _)))) (Tl.pos rfl (Tl.bind (Tl.bind hrest (Tl.bind (zero_tl n (by omega)) (Tl.now _))) (Tl.now _)))
end Go.Proofs.Ytjelamodjpepkaa.B
/- An argument that can be read as data is read by the printed contracts' own words: kind by kind. -/
namespace Go.Proofs.Ytjelamodjpepkaa.B
open Go.RowKit Go.Proofs.YtjelamodjpepkaaW.PrintWords
set_option linter.unusedVariables false
/-- Cells that read as data at type t read as the kind d, and what is read has G. -/
def Opens (P : Program) (W : World) (t : TypeId) {α : Type} (d : Kd α) (G : α → Prop) : Prop :=
 P.cellsOf t = d.sz ∧ ∀ (H : Type) (enc : TypeId × Value → H) (base : Nat) (held : Bool) (fuel : Nat) (cs : List Value) (x : DataW H × List MemPlace),
  DataW.trod enc P W base (fun _ => true) held fuel t cs = some x → ∃ a, d.K W a cs ∧ G a
theorem Opens.int {P : Program} {W : World} {t : TypeId} {k : IntKind} (ht : P.underlying t = some (.int k)) (hc : P.cellsOf t = 1) : Opens P W t (Kd.int k) (fun n => (Lit.int k n).wf = true) := by
 refine ⟨hc, fun H enc base held fuel cs x h => ?_⟩
 obtain ⟨n, rfl, _, hw⟩ := DataW.trod_int ht h
 exact ⟨n, rfl, hw⟩
theorem choose_list {α : Type} {n : Nat} {p : Nat → α → Prop} (h : ∀ i, i < n → ∃ a, p i a) : ∃ l : List α, l.length = n ∧ ∀ i a, l[i]? = some a → p i a := by
 induction n with
 | zero => exact ⟨[], rfl, fun i a h => by simp at h⟩
 | succ n ih =>
  obtain ⟨l, hl, hp⟩ := ih (fun i hi => h i (by omega))
  obtain ⟨a, ha⟩ := h n (by omega)
  refine ⟨l ++ [a], by simp [hl], fun i b hb => ?_⟩
  rw [List.getElem?_append] at hb
  split at hb
  ·exact hp i b hb
  ·rename_i hlt
   have : i = n := by
    have := (List.getElem?_eq_some_iff.1 hb).1
    simp at this; omega
   subst this
   have hb2 : a = b := by simpa [hl] using hb
   exact hb2 ▸ ha
theorem Opens.cells {P : Program} {W : World} {t e : TypeId} {α : Type} {d : Kd α} {G : α → Prop} (ht : P.underlying t = some (.slice e)) (he : Opens P W e d G)
  {H : Type} {enc : TypeId × Value → H} {base : Nat} {held : Bool} {fuel : Nat} {cs : List Value} {x : DataW H × List MemPlace} (h : DataW.trod enc P W base (fun _ => true) held fuel t cs = some x) :
  ∃ (l : List α) (A : Option Addr) (c : Nat), cs = [.slice A l.length c] ∧ l.length ≤ c ∧ c ≤ maxLen ∧ d.C W A l.length l ∧ ∀ a ∈ l, G a := by
 rcases Go.Deep.open_slice ht h with ⟨rfl, rfl⟩ | ⟨a, len, cap, m, n, D, Pl, rfl, hb, hl, hm, hmm, rfl, hx⟩
 ·exact ⟨[], none, 0, rfl, Nat.le_refl _, by simp [maxLen], ⟨rfl, by simp, by simp⟩, by simp⟩
 ·simp only [if_true] at hmm
  obtain ⟨l, hll, hlp⟩ := choose_list (n := len) (p := fun i v => ∃ cs', W.cells? base (a.add (i * P.cellsOf e)) (P.cellsOf e) = some cs' ∧ d.K W v cs' ∧ G v) (fun i hi => by
   obtain ⟨cs', h1, h2⟩ := hx i (by omega)
   obtain ⟨v, hv, hG⟩ := he.2 H enc base held n cs' _ h2
   exact ⟨v, cs', h1, hv, hG⟩)
  subst hll
  refine ⟨l, some a, cap, rfl, hl, hm, ⟨rfl, by simp [maxLen] at hm; omega, fun _ => ⟨a, rfl, fun j p hj => ?_⟩⟩, fun v hv => ?_⟩
  ·obtain ⟨cs', h1, h2, _⟩ := hlp j p hj
   obtain ⟨_, hlen, hcell⟩ := World.cells?_some h1
   refine ⟨cs', by rw [hlen]; exact he.1, h2, fun i u hu => ?_⟩
   rw [he.1] at hcell hlen
   have hi : i < d.sz := by
    have := (List.getElem?_eq_some_iff.1 hu).1
    omega
   have := hcell i hi
   rw [Go.Deep.add_add] at this
   exact this.trans hu
  ·obtain ⟨i, hi, rfl⟩ := List.getElem_of_mem hv
   exact (hlp i _ (List.getElem?_eq_getElem hi)).choose_spec.2.2
theorem Opens.slice {P : Program} {W : World} {t e : TypeId} {α : Type} {d : Kd α} {G : α → Prop} (ht : P.underlying t = some (.slice e)) (hc : P.cellsOf t = 1) (he : Opens P W e d G) :
  Opens P W t (Kd.slice e d) (fun l => l.length ≤ maxLen ∧ ∀ a ∈ l, G a) := by
 refine ⟨hc, fun H enc base held fuel cs x h => ?_⟩
 obtain ⟨l, A, c, rfl, hl, hm, hC, hG⟩ := Opens.cells ht he h
 exact ⟨l, ⟨A, c, rfl, hl, hC⟩, Nat.le_trans hl hm, hG⟩
end Go.Proofs.Ytjelamodjpepkaa.B
/- A polynomial of degree at most r is a combination of the monomials' rows; what Reed's majorities give is such a polynomial. -/
namespace Go.Proofs.Ytjelamodjpepkaa.B
open Go.RowKit Go.Proofs.YtjelamodjpepkaaW.PrintWords Go.Proofs.YtjelamodjpepkaaW.PrintMore Go.Proofs.Ytjelamodjpepkaa.P
set_option linter.unusedVariables false
def monRows (m r : Nat) : List (List Int) := (monsTo m (r + 1)).map fun vs => evT m (maskOf vs 0)
theorem genS_canon (m r : Nat) : genS m r = canonS G2 (2 ^ m) (monRows m r) := rfl
theorem combs_mem (m : Nat) : ∀ r s, s ≤ r → ∀ vs ∈ combs1 s m 0 [], vs ∈ monsTo m (r + 1)
 | 0, s, h, vs, hv => by
  obtain rfl : s = 0 := by omega
  rw [monsTo]; exact List.mem_append.2 (.inr hv)
 | r + 1, s, h, vs, hv => by
  rw [monsTo]
  by_cases e : s = r + 1
  ·subst e; exact List.mem_append.2 (.inr hv)
  ·exact List.mem_append.2 (.inl (combs_mem m r s (by omega) vs hv))
theorem mono_mem (m : Nat) (hm : m < 7) (r : Nat) (hr : r ≤ m) (T : Nat) (hT : T < 2 ^ m) (hp : popc T ≤ r) : evT m T ∈ monRows m r := by
 have hperm := List.isPerm_iff.1 (combs_check m hm (popc T) (by omega))
 have h1 : T ∈ (List.range (2 ^ m)).filter fun S => popc S == popc T := List.mem_filter.2 ⟨by simpa using hT, by simp⟩
 obtain ⟨vs, hvs, e⟩ := List.mem_map.1 (hperm.mem_iff.2 h1)
 refine List.mem_map.2 ⟨vs, combs_mem m r _ hp vs hvs, ?_⟩
 show evT m (maskOf vs 0) = _
 rw [show maskOf vs 0 = T from e]
theorem poly_span (m : Nat) (hm : m < 7) (r : Nat) (hr : r ≤ m) (x : List Int) (hx : IsPoly m r x) : Sp G2 (2 ^ m) (monRows m r) x := by
 obtain ⟨c, hc, hd, rfl⟩ := hx
 have hM : Mat G2 (2 ^ m) (monRows m r) := poly_mat (mons_poly m hm r hr)
 have H : ∀ Ts : List Nat, (∀ T ∈ Ts, T < 2 ^ m) → Sp G2 (2 ^ m) (monRows m r) (tab (2 ^ m) fun p => polyL c Ts p % 2) := by
  intro Ts
  induction Ts with
  | nil =>
   intro _
   have e : (tab (2 ^ m) fun p => polyL c [] p % 2) = zeroS (2 ^ m) := by
    unfold zeroS; rw [tab_rep]; exact tab_congr fun p _ => rfl
   rw [e]; exact Sp.zero
  | cons T Ts ih =>
   intro hTs
   have h1 := ih fun T h => hTs T (List.mem_cons_of_mem _ h)
   have hT := hTs T List.mem_cons_self
   by_cases hz : c T = 0
   ·have e : (tab (2 ^ m) fun p => polyL c (T :: Ts) p % 2) = tab (2 ^ m) fun p => polyL c Ts p % 2 := tab_congr fun p _ => by
     show ((c T * evp T p) + polyL c Ts p) % 2 = _
     rw [hz]; omega
    rw [e]; exact h1
   ·have h2 : c T = 1 := by
     rcases hc T with h | h
     ·exact absurd h hz
     ·exact h
    have hmem := mono_mem m hm r hr T hT (hd T hT hz)
    have h3 := Sp.add (a := 1) h1 hmem G2_fld.one
    have e : (tab (2 ^ m) fun p => polyL c (T :: Ts) p % 2) = addToS G2 (tab (2 ^ m) fun p => polyL c Ts p % 2) 1 (evT m T) := by
     refine row_ext (n := 2 ^ m) (by simp) (by unfold addToS; simp) fun p hp => ?_
     rw [addTo_get G2_fld G2_fld.one (Sp.row G2_fld hM h1) (hM _ hmem), tab_getD p 0 hp, tab_getD p 0 hp, evT_tab, tab_getD p 0 hp]
     show ((c T * evp T p) + polyL c Ts p) % 2 = (polyL c Ts p % 2 + 1 * evp T p) % 2
     rw [h2]; omega
    rw [e]; exact h3
 exact H _ fun T h => by simpa using h
/-- Sums of monomials of a degree. -/
theorem pol_poly (m : Nat) (hm : m < 7) (r s : Nat) (hr : r ≤ m) (hs : s ≤ r) (z : List Int) : ∀ ms : List (List Int), (∀ vs ∈ ms, vs.length = s ∧ ascB m (-1) vs = true) → IsPoly m r (tab (2 ^ m) fun p => pol (2 ^ m) z ms p % 2)
 | [], _ => by
  have e : (tab (2 ^ m) fun p => pol (2 ^ m) z [] p % 2) = tab (2 ^ m) fun _ => 0 := tab_congr fun p _ => rfl
  rw [e]; exact isPoly_zero m r
 | vs :: ms, h => by
  have ih := pol_poly m hm r s hr hs z ms fun v hv => h v (List.mem_cons_of_mem _ hv)
  obtain ⟨hvl, hva⟩ := h vs List.mem_cons_self
  have hT := asc_mask_lt hva
  have h64 : 2 ^ m ≤ 2 ^ 6 := Nat.pow_le_pow_right (by decide) (by omega)
  have hpc : popc (maskOf vs 0) ≤ r := by
   rw [← varsOf_length _ (by omega), ← asc_vars (by omega) hva]; omega
  have h1 := isPoly_mono m r _ hT hpc
  have h2 : IsPoly m r (tab (2 ^ m) fun p => tog (2 ^ m) z (maskOf vs 0) p) := by
   cases hv : maj (2 ^ m) (maskOf vs 0) z with
   | false =>
    have e : (tab (2 ^ m) fun p => tog (2 ^ m) z (maskOf vs 0) p) = tab (2 ^ m) fun _ => 0 := tab_congr fun p _ => by
     unfold tog; rw [hv]; rfl
    rw [e]; exact isPoly_zero m r
   | true =>
    have e : (tab (2 ^ m) fun p => tog (2 ^ m) z (maskOf vs 0) p) = evT m (maskOf vs 0) := by
     rw [evT_tab]
     exact tab_congr fun p _ => by
      unfold tog; rw [hv]; rfl
    rw [e]; exact h1
  have h3 := isPoly_add m r _ _ h2 ih
  have e : (tab (2 ^ m) fun p => pol (2 ^ m) z (vs :: ms) p % 2) = tab (2 ^ m) fun p => ((tab (2 ^ m) fun p => tog (2 ^ m) z (maskOf vs 0) p).getD p 0 + (tab (2 ^ m) fun p => pol (2 ^ m) z ms p % 2).getD p 0) % 2 := tab_congr fun p hp => by
   rw [tab_getD p 0 hp, tab_getD p 0 hp]
   show (tog (2 ^ m) z (maskOf vs 0) p + pol (2 ^ m) z ms p) % 2 = _
   omega
  rw [e]; exact h3
theorem runW_poly (m : Nat) (hm : m < 7) (r : Nat) (hr : r ≤ m) (y : List Int) : ∀ (s : Nat), s ≤ r + 1 → ∀ b : Nat → Int, IsPoly m r (tab (2 ^ m) b) → IsPoly m r (tab (2 ^ m) (runW m y s b))
 | 0, _, b, hb => hb
 | s + 1, hs, b, hb => by
  have hB := mons_at m hm s (by omega)
  rw [show runW m y (s + 1) b = runW m y s (fun p => (b p + pol (2 ^ m) (tab (2 ^ m) fun q => (y.getD q 0 + b q) % 2) (combs1 s m 0 []) p) % 2) from rfl]
  refine runW_poly m hm r hr y s (by omega) _ ?_
  have h1 := isPoly_add m r _ _ hb (pol_poly m hm r s hr (by omega) (tab (2 ^ m) fun q => (y.getD q 0 + b q) % 2) (combs1 s m 0 []) hB.2.1)
  have e : (tab (2 ^ m) fun p => (b p + pol (2 ^ m) (tab (2 ^ m) fun q => (y.getD q 0 + b q) % 2) (combs1 s m 0 []) p) % 2) = tab (2 ^ m) fun p => ((tab (2 ^ m) b).getD p 0 + (tab (2 ^ m) fun p => pol (2 ^ m) (tab (2 ^ m) fun q => (y.getD q 0 + b q) % 2) (combs1 s m 0 []) p % 2).getD p 0) % 2 := tab_congr fun p hp => by
   rw [tab_getD p 0 hp, tab_getD p 0 hp]; omega
  rw [e]; exact h1
end Go.Proofs.Ytjelamodjpepkaa.B
/- What the reference's Reed answers: the same. -/
namespace Go.Proofs.Ytjelamodjpepkaa.B
open Go.RowKit Go.Proofs.YtjelamodjpepkaaW.PrintWords Go.Proofs.YtjelamodjpepkaaW.PrintMore Go.Proofs.Ytjelamodjpepkaa.P
set_option linter.unusedVariables false

theorem errs_app (a b : List Int) (i : Nat) : errsTo a b (i + 1) = if a.getD i 0 = b.getD i 0 then errsTo a b i else errsTo a b i ++ [(i : Int)] := by
 by_cases h : a.getD i 0 = b.getD i 0
 ·rw [if_pos h, errsTo_no a b i h]
 ·rw [if_neg h, errsTo_yes a b i h]
theorem differ_go (a b : List Int) (hab : a.length ≤ b.length) (hl : a.length < 1000000) : ∀ (d i : Nat), a.length - i = d → i ≤ a.length → Tl (fun k => r43Differ.l0 k a b (errsTo a b i) (i : Int)) (errsTo a b a.length) := by
 intro d
 induction d with
 | zero =>
  intro i hd hi
  obtain rfl : i = a.length := by omega
  refine Tl.step (fun k => by rw [r43Differ.l0]) ?_
  refine Tl.neg (by omega) ?_
  refine Tl.step (fun k => by rw [r43Differ.j1]) ?_
  exact Tl.neg (by decide) (Tl.now _)
 | succ d ih =>
  intro i hd hi
  have hnext := ih (i + 1) (by omega) (by omega)
  refine Tl.step (fun k => by rw [r43Differ.l0]) ?_
  refine Tl.pos (by omega) ?_
  rw [decide_eq_true (show (i : Int) < (b.length : Int) by omega)]
  refine Tl.step (fun k => by rw [r43Differ.j1]) ?_
  refine Tl.pos rfl (Tl.pos (by omega) (Tl.pos (by omega) (Tl.pos (by omega) ?_)))
  rw [rd_nat, rd_nat, w64s i (by omega)]
  rw [errs_app] at hnext
  by_cases h : a.getD i 0 = b.getD i 0
  ·rw [if_pos h] at hnext
   exact Tl.pos h hnext
  ·rw [if_neg h] at hnext
   have := errsTo_len a b i
   exact Tl.neg h (Tl.pos (by omega) hnext)
theorem differ_tl (a b : List Int) (hab : a.length ≤ b.length) (hl : a.length < 1000000) : Tl (fun k => r43Differ.f k a b) (errsTo a b a.length) := by
 unfold r43Differ.f
 exact differ_go a b hab hl _ 0 rfl (Nat.zero_le _)
theorem rad_ref (r m : Nat) (hm : m < 7) (hr : r ≤ m) : r43Radius.f (r : Int) (m : Int) = some ((radius r m : Nat) : Int) := by
 unfold r43Radius.f
 have e : IntKind.u64.wrap (wrap64 ((m : Int) - (r : Int))) = ((m - r : Nat) : Int) := by rw [w64 (by omega) (by omega), u64 (by omega) (by omega)]; omega
 rw [e, rad_all (m - r) (by omega), if_pos (by omega)]; rfl
theorem rArgs_tl (r m : Int) (y : List Int) (hl : y.length < 9223372036854775808) : Tl (fun k => r43ReedArgs.f k r m y) (if m < 0 ∨ m > 6 ∨ r < 0 ∨ r > m then 6 else bitsS (2 ^ m.toNat) y) := by
 unfold r43ReedArgs.f
 by_cases hbad : m < 0 ∨ m > 6 ∨ r < 0 ∨ r > m
 ·rw [if_pos hbad]
  by_cases h1 : m < 0
  ·exact Tl.pos h1 (Tl.now _)
  refine Tl.neg h1 ?_
  by_cases h2 : m > 6
  ·exact Tl.pos h2 (Tl.now _)
  refine Tl.neg h2 ?_
  by_cases h3 : r < 0
  ·exact Tl.pos h3 (Tl.now _)
  exact Tl.neg h3 (Tl.pos (by omega) (Tl.now _))
 ·rw [if_neg hbad]
  obtain ⟨n, rfl⟩ := Int.eq_ofNat_of_zero_le (show 0 ≤ m by omega)
  refine Tl.neg (by omega) (Tl.neg (by omega) (Tl.neg (by omega) (Tl.neg (by omega) ?_)))
  rw [u64 (by omega) (by omega), shl1 n (by omega), toNat_nat]
  exact Tl.pos (by omega) (Tl.bind (rbits_tl (2 ^ n) y hl) (Tl.now _))
end Go.Proofs.Ytjelamodjpepkaa.B
