-- PRINTED BY print.sh 35421559b90ae4d0a3588c463048766b98c2df88dd9212a6774a882060cdf62d: not written by this session
import Derived.Test.YtjelamodjpepkaaVfWTab
/-! ### 57. A region of open order by ONE relation over what is listed so far: each operation is shown once, whatever came up before it -/
namespace Go.Proofs.YtjelamodjpepkaaW.PrintLast
/-- Number i is listed too. -/
def up (b : Nat → Bool) (i : Nat) : Nat → Bool := fun j => if j = i then true else b j
theorem up_self (b : Nat → Bool) (i : Nat) : up b i i = true := by simp [up]
theorem up_ne {b : Nat → Bool} {i j : Nat} (h : j ≠ i) : up b i j = b j := by simp [up, h]
/-- What is listed: O's operations by b, all else already. -/
def lof (n : Nat) (O : List Nat) (b : Nat → Bool) : List Bool := (List.range n).map fun j => if O.contains j then b j else true
/-- The destinations of what is listed are filled. -/
def putSel (a : Act) (b : Nat → Bool) : List (Nat × Tmp × Value) → Act
 | [] => a
 | e :: r => putSel (if b e.1 = true then a.put (some e.2.1) e.2.2 else a) b r
section
variable {P : Program} {ops : Array Oper} {Q : Exit → Act → World → Prop} {md : Region.Mode} {T : Bool × List (List Nat × List Nat)} {B : List Nat} {O : List Nat} {b : Nat → Bool} {i j n : Nat}
/-- The step of operation i: out of the relation, it not being listed, all it waits for being so, and nothing that waits for it. -/
def StepAt (P : Program) (ops : Array Oper) (Q : Exit → Act → World → Prop) (B : List Nat) (O : List Nat) (I : (Nat → Bool) → Act → World → Prop) (i : Nat) : Prop :=
 ∀ b a w, I b a w → b i = false → (∀ j, (O.contains j && (B.getD i 0).testBit j) = true → b j = true) → (∀ d, (O.contains d && (B.getD d 0).testBit i) = true → b d = false) →
  ∃ oi, ops[i]? = some oi ∧ ∀ K : Act → World → Prop, Shut (∀ a' w', I (up b i) a' w' → K a' w') → if Region.wanted oi (yielded ops a.tmps) = true then Oper.wp P oi a w K Q else K (a.put oi.dst undef) w
/-- Every edge goes to an earlier operation; what is listed already waits for nothing of O; O's numbers are the region's, each once. -/
def baseOk (T : List (List Nat × List Nat)) (O : List Nat) : Bool :=
 (List.range T.length).all (fun d => match T[d]? with
  | some r => (O.contains d || r.1.all fun n => !O.contains n) && r.1.all fun n => decide (n < d)
  | none => false) && O.all (fun i => decide (i < T.length)) && decide O.Nodup
def Closed (T : List (List Nat × List Nat)) (O : List Nat) (b : Nat → Bool) : Prop := ∀ d r, T[d]? = some r → O.contains d = true → b d = true → ∀ n ∈ r.1, O.contains n = true → b n = true
theorem up_count : ∀ {O : List Nat}, O.Nodup → i ∈ O → b i = false → (O.filter fun j => !up b i j).length + 1 = (O.filter fun j => !b j).length
 | [], _, hi, _ => by cases hi
 | x :: r, hn, hi, hb => by
  rw [List.nodup_cons] at hn
  rcases List.mem_cons.1 hi with rfl | hi
  ·have h1 : (r.filter fun j => !up b i j) = r.filter fun j => !b j := by
    refine List.filter_congr (fun j hj => ?_)
    rw [up_ne (fun e => hn.1 (by rw [← e]; exact hj))]
   rw [List.filter_cons, List.filter_cons]
   simp [up_self, hb, h1]
  ·have hxi : x ≠ i := fun e => hn.1 (e ▸ hi)
   have h1 := up_count hn.2 hi hb
   rw [List.filter_cons, List.filter_cons, up_ne hxi]
   cases hbx : b x
   ·simp only [Bool.not_false, if_true, List.length_cons]
    omega
   ·simpa using h1
/-! The frame: what is listed has its destination filled. -/
theorem putSel_size (b : Nat → Bool) : ∀ (L : List (Nat × Tmp × Value)) (a : Act), (putSel a b L).tmps.size = a.tmps.size ∧ (putSel a b L).defers = a.defers
 | [], a => ⟨rfl, rfl⟩
 | e :: r, a => by
  unfold putSel
  by_cases h : b e.1 = true
  ·rw [if_pos h]
   have := putSel_size b r (a.put (some e.2.1) e.2.2)
   exact ⟨this.1.trans (by simp [Act.put]), this.2.trans rfl⟩
  ·rw [if_neg h]
   exact putSel_size b r a
theorem putSel_off {b : Nat → Bool} {t : Tmp} : ∀ {L : List (Nat × Tmp × Value)} {a : Act}, (L.all fun e => !(e.2.1 == t)) = true → (putSel a b L).tmps[t]? = a.tmps[t]?
 | [], _, _ => rfl
 | e :: r, a, h => by
  rw [List.all_cons, Bool.and_eq_true] at h
  have he : e.2.1 ≠ t := by simpa using h.1
  unfold putSel
  by_cases hb : b e.1 = true
  ·rw [if_pos hb, putSel_off h.2]
   simp [Act.put, Array.getElem?_setIfInBounds_ne he]
  ·rw [if_neg hb]
   exact putSel_off h.2
theorem putSel_on {b : Nat → Bool} {e : Nat × Tmp × Value} : ∀ {L : List (Nat × Tmp × Value)} {a : Act} (k : Nat), L[k]? = some e → ((L.drop (k + 1)).all fun x => !(x.2.1 == e.2.1)) = true → b e.1 = true → Nat.ble (e.2.1 + 1) a.tmps.size = true → (putSel a b L).tmps[e.2.1]? = some e.2.2
 | [], _, _, h, _, _, _ => by cases h
 | x :: r, a, 0, h, hd, hb, ht => by
  simp only [List.getElem?_cons_zero, Option.some.injEq] at h
  subst h
  unfold putSel
  rw [if_pos hb, putSel_off (by simpa using hd)]
  have ht2 : x.2.1 < a.tmps.size := Nat.le_of_ble_eq_true ht
  simp [Act.put, ht2]
 | x :: r, a, k + 1, h, hd, hb, ht => by
  unfold putSel
  refine putSel_on k (by simpa using h) (by simpa using hd) hb ?_
  by_cases hx : b x.1 = true
  ·rw [if_pos hx]
   simpa [Act.put] using ht
  ·rw [if_neg hx]
   exact ht
theorem put_comm {a : Act} {s t : Tmp} {u v : Value} (h : s ≠ t) : (a.put (some s) u).put (some t) v = (a.put (some t) v).put (some s) u := by
 simp only [Act.put]
 rw [Array.setIfInBounds_comm _ _ h]
theorem putSel_put {b : Nat → Bool} {t : Tmp} {v : Value} : ∀ {L : List (Nat × Tmp × Value)} {a : Act}, (L.all fun e => !(e.2.1 == t)) = true → (putSel a b L).put (some t) v = putSel (a.put (some t) v) b L
 | [], _, _ => rfl
 | e :: r, a, h => by
  rw [List.all_cons, Bool.and_eq_true] at h
  have he : e.2.1 ≠ t := by simpa using h.1
  unfold putSel
  by_cases hb : b e.1 = true
  ·rw [if_pos hb, if_pos hb, putSel_put h.2, put_comm he]
  ·rw [if_neg hb, if_neg hb]
   exact putSel_put h.2
theorem putSel_same {b : Nat → Bool} {i : Nat} : ∀ {L : List (Nat × Tmp × Value)} {a : Act}, (L.all fun e => !(e.1 == i)) = true → putSel a (up b i) L = putSel a b L
 | [], _, _ => rfl
 | e :: r, a, h => by
  rw [List.all_cons, Bool.and_eq_true] at h
  have he : e.1 ≠ i := by simpa using h.1
  unfold putSel
  rw [up_ne he]
  exact putSel_same h.2
theorem putSel_up {b : Nat → Bool} {i : Nat} {t : Tmp} {v0 v : Value} : ∀ {L1 L2 : List (Nat × Tmp × Value)} {a : Act}, b i = false → ((L1 ++ L2).all fun e => !(e.1 == i) && !(e.2.1 == t)) = true →
  (putSel a b (L1 ++ (i, t, v0) :: L2)).put (some t) v = putSel a (up b i) (L1 ++ (i, t, v) :: L2)
 | [], L2, a, hb, h => by
  simp only [List.nil_append] at h ⊢
  have h1 : (L2.all fun e => !(e.1 == i)) = true := List.all_eq_true.2 (fun e he => by have := List.all_eq_true.1 h e he; simp only [Bool.and_eq_true] at this; exact this.1)
  have h2 : (L2.all fun e => !(e.2.1 == t)) = true := List.all_eq_true.2 (fun e he => by have := List.all_eq_true.1 h e he; simp only [Bool.and_eq_true] at this; exact this.2)
  unfold putSel
  rw [if_neg (by rw [hb]; decide), if_pos (up_self b i), putSel_put h2, putSel_same h1]
 | e :: r, L2, a, hb, h => by
  simp only [List.cons_append, List.all_cons, Bool.and_eq_true] at h
  have he : e.1 ≠ i := by simpa using h.1.1
  simp only [List.cons_append]
  unfold putSel
  rw [up_ne he]
  exact putSel_up hb h.2
end
end Go.Proofs.YtjelamodjpepkaaW.PrintLast
