import Derived.Test.YtekenifndicdeaaDuGf18
import Derived.Test.YtekenifndicdeaaDuGf24
namespace Go.Proofs.Ytekenifndicdeaa.P
open Go.Proofs.Ytekenifndicdeaa.B
set_option linter.unusedVariables false
set_option linter.unusedSimpArgs false
/-- The row of a number. -/
def bv : Nat → Nat → List Int
  | 0, _ => []
  | n + 1, b => (if b % 2 = 1 then 1 else 0) :: bv n (b / 2)
/-- The number of a row. -/
def bo : List Int → Nat
  | [] => 0
  | v :: vs => (if v = 0 then 0 else 1) + 2 * bo vs
theorem bv_len : ∀ n b, (bv n b).length = n
  | 0, _ => rfl
  | n + 1, b => by unfold bv; rw [List.length_cons, bv_len n]
theorem bv_get : ∀ n b j, (bv n b).getD j 0 = if j < n ∧ b.testBit j = true then 1 else 0
  | 0, b, j => by simp [bv]
  | n + 1, b, 0 => by
    unfold bv
    rw [List.getD_cons_zero, Nat.testBit_zero]
    by_cases h : b % 2 = 1 <;> simp [h]
  | n + 1, b, j + 1 => by
    unfold bv
    rw [List.getD_cons_succ, bv_get n (b / 2) j, Nat.testBit_succ]
    simp
theorem bv_bo : ∀ x : List Int, (∀ v ∈ x, v = 0 ∨ v = 1) → bv x.length (bo x) = x
  | [], _ => rfl
  | v :: vs, h => by
    have ih := bv_bo vs (fun u hu => h u (List.mem_cons_of_mem _ hu))
    rw [List.length_cons]
    unfold bv bo
    rcases h v (List.mem_cons_self ..) with rfl | rfl
    · have e1 : ((if (0 : Int) = 0 then 0 else 1) + 2 * bo vs) % 2 ≠ 1 := by simp
      have e2 : ((if (0 : Int) = 0 then 0 else 1) + 2 * bo vs) / 2 = bo vs := by simp
      rw [if_neg e1, e2, ih]
    · have e1 : ((if (1 : Int) = 0 then 0 else 1) + 2 * bo vs) % 2 = 1 := by rw [if_neg (by decide)]; omega
      have e2 : ((if (1 : Int) = 0 then 0 else 1) + 2 * bo vs) / 2 = bo vs := by rw [if_neg (by decide)]; omega
      rw [if_pos e1, e2, ih]
theorem bv_el (n b : Nat) : ElL F2.ops (bv n b) := by
  intro v hv
  obtain ⟨i, hi, e⟩ := List.getElem_of_mem hv
  have := bv_get n b i
  rw [List.getD_eq_getElem?_getD, List.getElem?_eq_getElem hi] at this
  have e2 : v = if i < n ∧ b.testBit i = true then 1 else 0 := by rw [← e]; exact this
  refine (el2 v).2 ?_
  rw [e2]
  split
  · exact .inr rfl
  · exact .inl rfl
theorem bvs_mat (n : Nat) (l : List Nat) : Mat F2.ops n (l.map (bv n)) := fun x hx => by
  obtain ⟨b, _, rfl⟩ := List.mem_map.1 hx
  exact ⟨bv_len n b, bv_el n b⟩
theorem bvs_getD (n : Nat) (l : List Nat) (i : Nat) (hi : i < l.length) : (l.map (bv n)).getD i [] = bv n (l.getD i 0) := by
  rw [List.getD_eq_getElem?_getD, List.getElem?_map, List.getElem?_eq_getElem hi, List.getD_eq_getElem?_getD, List.getElem?_eq_getElem hi]; rfl
theorem bvs_ent (n : Nat) (l : List Nat) (i c : Nat) (hi : i < l.length) (hc : c < n) : ent (l.map (bv n)) i c = if (l.getD i 0).testBit c = true then 1 else 0 := by
  unfold ent
  rw [bvs_getD n l i hi, bv_get]
  simp [hc]
theorem add2_bits : F2.ops.add 0 0 = 0 ∧ F2.ops.add 0 1 = 1 ∧ F2.ops.add 1 0 = 1 ∧ F2.ops.add 1 1 = 0 ∧ F2.ops.mul 1 1 = 1 ∧ F2.ops.neg 1 = 1 := ⟨rfl, rfl, rfl, rfl, rfl, rfl⟩
theorem bv_add (n a b : Nat) : addToS F2.ops (bv n a) 1 (bv n b) = bv n (a ^^^ b) := by
  refine row_ext (n := n) (by unfold addToS; rw [tab_length, bv_len]) (bv_len _ _) fun i hi => ?_
  unfold addToS
  rw [tab_getD i 0 (by rw [bv_len]; exact hi), bv_get, bv_get, bv_get, Nat.testBit_xor]
  obtain ⟨h00, h01, h10, h11, m11, _⟩ := add2_bits
  cases a.testBit i <;> cases b.testBit i <;> simp [hi, h00, h01, h10, h11, m11]
def bfind : List Nat → Nat → Nat → Nat
  | [], _, i => i
  | x :: xs, c, i => if x.testBit c = true then i else bfind xs c (i + 1)
theorem bfind_eq (n : Nat) (l : List Nat) (c : Nat) (hc : c < n) : ∀ d i, i + d = l.length → findP (l.map (bv n)) c d i = bfind (l.drop i) c i
  | 0, i, h => by rw [List.drop_of_length_le (by omega)]; rfl
  | d + 1, i, h => by
    have hi : i < l.length := by omega
    rw [List.drop_eq_getElem_cons hi]
    unfold findP bfind
    rw [bvs_ent n l i c hi hc, bfind_eq n l c hc d (i + 1) (by omega), List.getD_eq_getElem?_getD, List.getElem?_eq_getElem hi]
    cases h : (l[i]).testBit c <;> simp [h]
def bswap (l : List Nat) (a k : Nat) : List Nat := (l.set a (l.getD k 0)).set k (l.getD a 0)
theorem bswap_eq (n : Nat) (l : List Nat) (a k : Nat) (ha : a < l.length) (hk : k < l.length) : swapS (l.map (bv n)) a k = (bswap l a k).map (bv n) := by
  unfold swapS bswap
  rw [bvs_getD n l a ha, bvs_getD n l k hk, List.map_set, List.map_set]
def bclr (a c y : Nat) : List Nat → Nat → List Nat
  | [], _ => []
  | x :: xs, i => (if i = a then x else if x.testBit c = true then x ^^^ y else x) :: bclr a c y xs (i + 1)
theorem bclr_get (a c y : Nat) : ∀ (l : List Nat) (i j : Nat), (bclr a c y l i)[j]? = l[j]?.map fun x => if i + j = a then x else if x.testBit c = true then x ^^^ y else x
  | [], i, j => by simp [bclr]
  | x :: xs, i, 0 => by simp [bclr]
  | x :: xs, i, j + 1 => by
    unfold bclr
    rw [List.getElem?_cons_succ, bclr_get a c y xs (i + 1) j, List.getElem?_cons_succ]
    congr 1
    funext x
    rw [show i + 1 + j = i + (j + 1) by omega]
theorem bclr_len (a c y : Nat) : ∀ (l : List Nat) (i : Nat), (bclr a c y l i).length = l.length
  | [], _ => rfl
  | x :: xs, i => by unfold bclr; rw [List.length_cons, List.length_cons, bclr_len a c y xs]
theorem bclr_eq (n : Nat) (l : List Nat) (a c : Nat) (ha : a < l.length) (hc : c < n) : clearS F2.ops (l.map (bv n)) a c = (bclr a c (l.getD a 0) l 0).map (bv n) := by
  unfold clearS
  symm
  refine tab_ext (by rw [List.length_map, List.length_map, bclr_len]) fun i hi => ?_
  rw [List.length_map] at hi
  rw [List.getElem?_map, bclr_get, bvs_ent n l i c hi hc, bvs_getD n l i hi, bvs_getD n l a ha, List.getElem?_eq_getElem hi]
  have hg : l.getD i 0 = l[i] := by rw [List.getD_eq_getElem?_getD, List.getElem?_eq_getElem hi]; rfl
  rw [hg]
  obtain ⟨_, _, _, _, _, n1⟩ := add2_bits
  by_cases e : i = a
  · simp [e]
  · cases h : (l[i]).testBit c
    · simp [h, e]
    · simp [h, e, n1, bv_add]
def belim (n : Nat) : Nat → Nat → Nat → List Nat → List Nat → List Nat × List Nat
  | 0, _, _, l, pv => (l, pv)
  | d + 1, c, a, l, pv => if a < l.length then
      (if bfind (l.drop a) c a = l.length then belim n d (c + 1) a l pv
      else belim n d (c + 1) (a + 1) (bclr a c ((bswap l a (bfind (l.drop a) c a)).getD a 0) (bswap l a (bfind (l.drop a) c a)) 0) (pv ++ [c]))
    else (l, pv)
theorem bfind_bit : ∀ (l : List Nat) (c i : Nat), i ≤ bfind l c i ∧ (bfind l c i < i + l.length → (l.getD (bfind l c i - i) 0).testBit c = true)
  | [], c, i => ⟨Nat.le_refl _, fun h => by unfold bfind at h; simp at h⟩
  | x :: xs, c, i => by
    unfold bfind
    cases h : x.testBit c
    · obtain ⟨h1, h2⟩ := bfind_bit xs c (i + 1)
      simp only [Bool.false_eq_true, if_false]
      refine ⟨by omega, fun hlt => ?_⟩
      have := h2 (by rw [List.length_cons] at hlt; omega)
      rw [show bfind xs c (i + 1) - i = (bfind xs c (i + 1) - (i + 1)) + 1 by omega, List.getD_cons_succ]
      exact this
    · simp [h]
theorem belim_eq (n : Nat) : ∀ (d c a : Nat) (l pv : List Nat), c + d = n → elimGo F2.ops d c a (l.map (bv n)) (castS pv) = (((belim n d c a l pv).1).map (bv n), castS (belim n d c a l pv).2)
  | 0, c, a, l, pv, h => rfl
  | d + 1, c, a, l, pv, h => by
    unfold elimGo belim
    rw [List.length_map]
    by_cases ha : a < l.length
    · rw [if_pos ha, if_pos ha, bfind_eq n l c (by omega) (l.length - a) a (by omega)]
      obtain ⟨f1, f2⟩ := bfind_bit (l.drop a) c a
      have f3 : bfind (l.drop a) c a ≤ l.length := by
        have := (findP_le (l.map (bv n)) c (l.length - a) a).2
        rw [bfind_eq n l c (by omega) (l.length - a) a (by omega)] at this
        omega
      by_cases hq : bfind (l.drop a) c a = l.length
      · rw [if_pos hq, if_pos hq]
        exact belim_eq n d (c + 1) a l pv (by omega)
      · rw [if_neg hq, if_neg hq]
        have hbit := f2 (by rw [List.length_drop]; omega)
        generalize bfind (l.drop a) c a = q at *
        have hq2 : q < l.length := by omega
        have hbq : (l.getD q 0).testBit c = true := by
          rw [List.getD_eq_getElem?_getD, List.getElem?_drop, show a + (q - a) = q by omega] at hbit
          rw [List.getD_eq_getElem?_getD]; exact hbit
        have hsl : (bswap l a q).length = l.length := by simp [bswap]
        have hsa : (bswap l a q).getD a 0 = l.getD q 0 := by
          unfold bswap
          rw [List.getD_eq_getElem?_getD, List.getElem?_set]
          by_cases e : q = a
          · subst e
            simp [ha, List.getD_eq_getElem?_getD]
          · rw [if_neg e, List.getElem?_set]
            simp [ha, List.getD_eq_getElem?_getD]
        rw [bswap_eq n l a q ha hq2]
        have hp : pivS F2.ops ((bswap l a q).map (bv n)) a c = (bswap l a q).map (bv n) := by
          unfold pivS
          rw [if_pos]
          rw [bvs_ent n _ a c (by omega) (by omega), hsa, if_pos hbq]
        rw [hp, bclr_eq n _ a c (by omega) (by omega)]
        have := belim_eq n d (c + 1) (a + 1) (bclr a c ((bswap l a q).getD a 0) (bswap l a q) 0) (pv ++ [c]) (by omega)
        rw [← this]
        unfold castS
        rw [List.map_append]; rfl
    · rw [if_neg ha, if_neg ha]
def bcan (n : Nat) (l : List Nat) : List Nat × List Nat := ((belim n n 0 0 l []).1.take (belim n n 0 0 l []).2.length, (belim n n 0 0 l []).2)
theorem bcan_eq (n : Nat) (l : List Nat) : canonS F2.ops n (l.map (bv n)) = (bcan n l).1.map (bv n) ∧ (elimS F2.ops (l.map (bv n)) n).2 = castS (bcan n l).2 := by
  have h := belim_eq n n 0 0 l [] (by omega)
  unfold canonS elimS bcan
  have e : castS [] = [] := rfl
  rw [e] at h
  rw [h]
  exact ⟨by rw [List.map_take]; simp [castS], rfl⟩
theorem bvs_bos (n : Nat) (l : List (List Int)) (h : Mat F2.ops n l) : (l.map bo).map (bv n) = l := by
  rw [List.map_map]
  conv => rhs; rw [← List.map_id l]
  refine List.map_congr_left fun x hx => ?_
  have := bv_bo x (fun v hv => (el2 v).1 ((h x hx).2 v hv))
  rw [(h x hx).1] at this
  exact this
end Go.Proofs.Ytekenifndicdeaa.P
namespace Go.Proofs.Ytekenifndicdeaa.P
open Go.Proofs.Ytekenifndicdeaa.B
set_option linter.unusedVariables false
set_option linter.unusedSimpArgs false
def rmB (m s : Nat) : List Nat := (bcan (2 ^ m) ((rmRows m s).map bo)).1
def nullB (n : Nat) (C : List Nat × List Nat) : List Nat := (nullTo F2 n (C.1.map (bv n)) (castS C.2) n).map bo
def dualChk (m s : Nat) : Bool := decide ((bcan (2 ^ m) (nullB (2 ^ m) (bcan (2 ^ m) (rmB m s)))).1 = rmB m (m + 1 - s))
theorem dual_chk5 : ∀ m, m < 6 → ∀ s, s < m + 2 → dualChk m s = true := by decide +kernel
end Go.Proofs.Ytekenifndicdeaa.P
namespace Go.Proofs.Ytekenifndicdeaa.P
open Go.Proofs.Ytekenifndicdeaa.B
theorem dual_chk6 : ∀ s, s < 8 → dualChk 6 s = true := by decide +kernel
end Go.Proofs.Ytekenifndicdeaa.P
namespace Go.Proofs.Ytekenifndicdeaa.P
open Go.Proofs.Ytekenifndicdeaa.B
set_option linter.unusedVariables false
set_option linter.unusedSimpArgs false
theorem rm_bits (m s : Nat) : rmGen m s = (rmB m s).map (bv (2 ^ m)) := by
  unfold rmGen rmB
  have h := (bcan_eq (2 ^ m) ((rmRows m s).map bo)).1
  rw [bvs_bos _ _ (rm_mat m s)] at h
  exact h
theorem dual_of (m s : Nat) (h : dualChk m s = true) (hm : m < 7) (hs : s < 8) : nullS F2 (2 ^ m) (rmGen m s) = rmGen m (m + 1 - s) := by
  have hmat : Mat F2.ops (2 ^ m) (rmGen m s) := by rw [rm_bits]; exact bvs_mat _ _
  have hcf := canF F2 F2_fld (2 ^ m) (rmGen m s) hmat
  have hnm : Mat F2.ops (2 ^ m) (nullTo F2 (2 ^ m) (canonS F2.ops (2 ^ m) (rmGen m s)) (elimS F2.ops (rmGen m s) (2 ^ m)).2 (2 ^ m)) := fun x hx => by
    unfold nullTo at hx
    obtain ⟨j, _, rfl⟩ := List.mem_map.1 hx
    exact ⟨nullRow_len F2 _ _ _ j _, nullRow_el F2 F2_fld _ _ _ j (fun i hi => ent_E F2_fld hcf.mat (i := i) (show i < (canonS F2.ops (2 ^ m) (rmGen m s)).length by have := hcf.len; omega)) _ (Nat.le_refl _)⟩
  obtain ⟨b1, b2⟩ := bcan_eq (2 ^ m) (rmB m s)
  rw [← rm_bits] at b1 b2
  unfold nullS
  have hd := of_decide_eq_true h
  unfold nullB at hd
  rw [b1, b2] at hnm ⊢
  have h2 := (bcan_eq (2 ^ m) ((nullTo F2 (2 ^ m) ((bcan (2 ^ m) (rmB m s)).1.map (bv (2 ^ m))) (castS (bcan (2 ^ m) (rmB m s)).2) (2 ^ m)).map bo)).1
  rw [bvs_bos _ _ hnm, hd, ← rm_bits] at h2
  exact h2
theorem dual_rm : DualRm := fun m hm s hs => by
  refine dual_of m s ?_ hm (by omega)
  rcases Nat.lt_or_ge m 6 with h | h
  · exact dual_chk5 m h s (by omega)
  · obtain rfl : m = 6 := by omega
    exact dual_chk6 s (by omega)
theorem duality_true (r m : Int) (w : Go.World) : Go.Calls Try.prog 3 #[.int .i64 r, .int .i64 m] w fun e w' => e = .returned (.bool true) ∧ Go.RowKit.Below w.heap.size w w' := duality_calls dual_rm r m w
end Go.Proofs.Ytekenifndicdeaa.P
