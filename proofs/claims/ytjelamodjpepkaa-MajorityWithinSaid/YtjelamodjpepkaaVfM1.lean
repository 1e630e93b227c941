/- Small words that the proofs over the printed functions share: 'from some number of rounds on', and arithmetic of int64. -/
import Derived.Test.YtjelamodjpepkaaVfWMore
import Derived.Test.YtjelamodjpepkaaVfP
import Derived.WalkSpells
import Derived.Deep.RegionLaw
import Derived.Deep.RegionLawGrows
import Derived.Laws.EntriesVeiled
namespace Go.Proofs.Ytjelamodjpepkaa.B
open Go.RowKit Go.Proofs.YtjelamodjpepkaaW.PrintWords Go.Proofs.YtjelamodjpepkaaW.PrintMore
set_option linter.unusedVariables false

/-- From some number of rounds on, g tells r. -/
def Tl {α : Type} (g : Nat → Option α) (r : α) : Prop := ∃ K, ∀ k, K ≤ k → g k = some r
theorem Tl.now {α : Type} (r : α) : Tl (fun _ => some r) r := ⟨0, fun _ _ => rfl⟩
theorem Tl.get {α : Type} {g : Nat → Option α} {r : α} (h : Tl g r) : ∃ k, g k = some r := by
 obtain ⟨K, h⟩ := h
 exact ⟨K, h K (Nat.le_refl _)⟩
theorem Tl.congr {α : Type} {g f : Nat → Option α} {r : α} (h : ∀ k, g k = f k) (t : Tl f r) : Tl g r := by
 obtain ⟨K, t⟩ := t
 exact ⟨K, fun n hn => (h n).trans (t n hn)⟩
theorem Tl.step {α : Type} {g f : Nat → Option α} {r : α} (h : ∀ k, g (k + 1) = f k) (t : Tl f r) : Tl g r := by
 obtain ⟨K, t⟩ := t
 refine ⟨K + 1, fun n hn => ?_⟩
 obtain ⟨m, rfl⟩ : ∃ m, n = m + 1 := ⟨n - 1, by omega⟩
 rw [h]
 exact t m (by omega)
theorem Tl.bind {α β : Type} {g : Nat → Option α} {f : Nat → α → Option β} {a : α} {r : β} (h : Tl g a) (t : Tl (fun n => f n a) r) : Tl (fun n => (g n).bind (f n)) r := by
 obtain ⟨K, h⟩ := h
 obtain ⟨K', t⟩ := t
 refine ⟨max K K', fun n hn => ?_⟩
 have h1 := h n (by omega)
 have h2 := t n (by omega)
 simp only [h1, Option.bind_some]
 exact h2
theorem Tl.bind1 {α β : Type} {g : Option α} {f : Nat → α → Option β} {a : α} {r : β} (h : g = some a) (t : Tl (fun n => f n a) r) : Tl (fun n => g.bind (f n)) r := by
 subst h; exact t
theorem Tl.pos {α : Type} {c : Prop} [Decidable c] {f g : Nat → Option α} {r : α} (h : c) (t : Tl f r) : Tl (fun k => if c then f k else g k) r := Tl.congr (fun _ => if_pos h) t
theorem Tl.neg {α : Type} {c : Prop} [Decidable c] {f g : Nat → Option α} {r : α} (h : ¬ c) (t : Tl g r) : Tl (fun k => if c then f k else g k) r := Tl.congr (fun _ => if_neg h) t
theorem Tl.val {α : Type} {g : Nat → Option α} {r r' : α} (h : r = r') (t : Tl g r) : Tl g r' := h ▸ t
/-- A function without rounds. -/
theorem Tl.one {α : Type} {o : Option α} {r : α} (h : o = some r) : Tl (fun _ => o) r := ⟨0, fun _ _ => h⟩

theorem w64 {n : Int} (h0 : -9223372036854775808 ≤ n) (h1 : n ≤ 9223372036854775807) : wrap64 n = n := by unfold wrap64; omega
theorem w64s (i : Nat) (h : i < 9223372036854775807) : wrap64 ((i : Int) + 1) = ((i + 1 : Nat) : Int) := by rw [w64 (by omega) (by omega)]; omega
theorem u64 {n : Int} (h0 : 0 ≤ n) (h1 : n ≤ 18446744073709551615) : IntKind.u64.wrap n = n := by simp [IntKind.wrap, IntKind.bits, IntKind.signed]; omega
theorem i64w {n : Int} (h0 : -9223372036854775808 ≤ n) (h1 : n ≤ 9223372036854775807) : IntKind.i64.wrap n = n := by rw [IntKind.wrap_i64]; omega
theorem rd_nat (xs : List Int) (i : Nat) : rd xs (i : Int) = xs.getD i 0 := rfl

theorem bits_nat (a b : Nat) (ha : a < 2 ^ 62) (hb : b < 2 ^ 62) :
  Go.bits .and .i64 (a : Int) (b : Int) = ((a &&& b : Nat) : Int) ∧ Go.bits .or .i64 (a : Int) (b : Int) = ((a ||| b : Nat) : Int) := 
 Go.bits_nat .i64 62 (by decide) (fun n h0 h1 => i64w (by omega) (by omega)) a b ha hb
theorem shl1 (n : Nat) (h : n < 62) : shl .i64 1 (n : Int) = ((2 ^ n : Nat) : Int) := by
 have h2 : 2 ^ n < 2 ^ 62 := Nat.pow_lt_pow_right (by decide) h
 have e : min (n : Int).toNat IntKind.i64.bits = n := by
  rw [Int.toNat_natCast]; show min n 64 = n; omega
 have e2 : (1 : Int) * 2 ^ n = ((2 ^ n : Nat) : Int) := by rw [Int.one_mul]; exact (Int.natCast_pow 2 n).symm
 unfold shl
 rw [e, e2]
 generalize 2 ^ n = q at h2
 exact i64w (by omega) (by omega)

/-! ### Tables -/
def tab {α : Type} (n : Nat) (g : Nat → α) : List α := (List.range n).map g
section
variable {α : Type} {n : Nat} {g h : Nat → α}
@[simp] theorem tab_length : (tab n g).length = n := by simp [tab]
theorem tab_get (i : Nat) (hi : i < n) : (tab n g)[i]? = some (g i) := by simp [tab, hi]
theorem tab_getD (i : Nat) (d : α) (hi : i < n) : (tab n g).getD i d = g i := by simp [tab, List.getD_eq_getElem?_getD, hi]
theorem tab_rd {g : Nat → Int} (i : Nat) (hi : i < n) : rd (tab n g) (i : Int) = g i := tab_getD i 0 hi
theorem tab_congr (e : ∀ p, p < n → g p = h p) : tab n g = tab n h := by
 unfold tab
 exact List.map_congr_left fun p hp => e p (by simpa using hp)
theorem tab_ext {xs : List α} (hl : xs.length = n) (e : ∀ p, p < n → xs[p]? = some (g p)) : xs = tab n g := by
 apply List.ext_getElem?
 intro i
 by_cases hi : i < n
 ·rw [e i hi, tab_get i hi]
 ·rw [List.getElem?_eq_none (by omega), List.getElem?_eq_none (by simp; omega)]
theorem tab_of (xs : List Int) : xs = tab xs.length (fun p => xs.getD p 0) :=
 tab_ext rfl fun p hp => by rw [List.getD_eq_getElem?_getD, List.getElem?_eq_getElem hp]; rfl
theorem tab_set (i : Nat) (v : α) (hi : i < n) : (tab n g).set i v = tab n (fun p => if p = i then v else g p) := by
 refine tab_ext (by simp) fun p hp => ?_
 rw [List.getElem?_set]
 by_cases e : i = p
 ·subst e; simp [hi]
 ·rw [if_neg e, tab_get p hp, if_neg (fun h => e h.symm)]
theorem tab_rep (n : Nat) (v : α) : List.replicate n v = tab n (fun _ => v) := by
 refine tab_ext (by simp) fun p hp => ?_
 rw [List.getElem?_replicate, if_pos hp]
end
theorem ite_iff {α : Type} {c d : Prop} [Decidable c] [Decidable d] {a b : α} (h : c ↔ d) : (if c then a else b) = if d then a else b := by
 by_cases hc : c
 ·rw [if_pos hc, if_pos (h.1 hc)]
 ·rw [if_neg hc, if_neg (fun hd => hc (h.2 hd))]
theorem toNat_nat (i : Nat) : ((i : Int)).toNat = i := rfl
end Go.Proofs.Ytjelamodjpepkaa.B
/- A walk: slices.Clone of integers hands back a list of the same entries in new memory (nil for nil). -/
namespace Go.Proofs.Ytjelamodjpepkaa.P
open Go.RowKit Go.Proofs.YtjelamodjpepkaaW.PrintWords Go.Proofs.YtjelamodjpepkaaW.PrintLast Go.Proofs.YtjelamodjpepkaaW.PrintMore
attribute [local go_sem] max2_int min2_int max_two min_two max_three min_three max_four min_four
set_option linter.unusedVariables false
set_option linter.unusedSimpArgs false

def slices_Clone_int_int.f (l0 : List Int) : Option (List Int) := (some (([] : List Int) : List Int)).bind fun y204 => (if y204.length + l0.length < 17592186044416 then (some (y204 ++ l0)) else (none))
set_option maxHeartbeats 8000000 in
set_option maxRecDepth 100000 in
theorem slices_Clone_int_int.calls (A0 : Option Addr) (c0 : Nat) (l0 : List Int) (r : List Int) (w : World) (hr0 : Kd.C (Kd.int .i64) w A0 l0.length l0) (hc0 : l0.length ≤ c0) (h : slices_Clone_int_int.f l0 = some r) :
  Calls Try.prog 33 #[.slice A0 l0.length c0] w fun e w' => ∃ v0_ : Value, e = .returned (v0_) ∧ Kd.R (Kd.int .i64) 3 w' w.heap.size (fun _ => True) v0_ r ∧ Below w.heap.size w w' := by
 have HR0 := Aside0.mk hr0
 have HC0 := Aside0.mk hc0
 clear hr0 hc0
 have HB := Aside0.mk (Below.refl w.heap.size w)
 have H : ((some (([] : List Int) : List Int)).bind fun y204 => (if y204.length + l0.length < 17592186044416 then (some (y204 ++ l0)) else (none))) = some r := h
 clear h
 obtain ⟨y204, hy204⟩ : ∃ y_ : List Int, y_ = (([] : List Int)) := ⟨_, rfl⟩
 replace H : (if y204.length + l0.length < 17592186044416 then (some (y204 ++ l0)) else (none)) = some r := by first | (rw [hy204]; with_reducible exact H) | (have H2_ := (Option.bind_some _ _).symm.trans H; rw [hy204]; with_reducible exact H2_) | (have H2_ := (Option.bind_some _ _).symm.trans H; with_reducible exact H2_) | with_reducible exact H | (rw [hy204]; exact H) | exact H
 have Ny204 := Aside0.mk hy204
 clear hy204
 by_cases c2 : y204.length + l0.length < 17592186044416
 ·rw [if_pos c2] at H
  have LMc2 := Aside0.mk c2
  clear c2
  obtain ⟨y207, hy207⟩ : ∃ y_ : List Int, y_ = (y204 ++ l0) := ⟨_, rfl⟩
  replace H : (some y207) = some r := by first | (rw [hy207]; with_reducible exact H) | (have H2_ := (Option.bind_some _ _).symm.trans H; rw [hy207]; with_reducible exact H2_) | (have H2_ := (Option.bind_some _ _).symm.trans H; with_reducible exact H2_) | with_reducible exact H | (rw [hy207]; exact H) | exact H
  have Ny207 := Aside0.mk hy207
  clear hy207
  obtain rfl := Option.some.inj H
  cases A0 with
  | none =>
   have hz : l0 = [] := by
    cases l0 with
    | nil => rfl
    | cons a l =>
     obtain ⟨_, _, hx⟩ := HR0.out
     obtain ⟨ad, h, _⟩ := hx (by simp)
     cases h
   subst hz
   have hq := fun (W : World) => Lib.run_eql_slice_nil (P := Try.prog) W 22 3 none 0 c0 0 0 Try.underlying22
   go_enter Try.func33, Try.ntmps33
   go_wp2
   go_ret
   exact ⟨_, rfl, by rw [Ny207.out, Ny204.out]; exact Kd.R_nil _ _ _ _ _, HB.out⟩
  | some ad =>
   have hq := fun (W : World) => Lib.run_eql_slice_nil (P := Try.prog) W 22 3 (some ad) l0.length c0 0 0 Try.underlying22
   go_enter Try.func33, Try.ntmps33
   go_wp2_with (first | ((with_reducible refine gate_dst (N := 5) rfl ?_); refine Kd.R_lit (Kd.int .i64) _ 3 ?hg (N := 5) ?hd (xs := ([] : List Int)) (inner := []) (ok := fun _ => True) (okp := fun _ => True) ?hr ?hp (fun _ hk => hk) trivial (Below.refl _ _) (Nat.le_refl _) (by simp) ?_; (case hd => rfl); (case hg => rfl); (case hr => first | (go_simp; done) | (go_simp; rfl)); (case hp => exact (Reps.none _ _)); intro v205 w3 ho4 hb hg_ hnew_; clear hg_ hnew_; (first | rw [← Ny204.out] at ho4 | (simp only [Int.reduceToNat] at ho4; rw [← Ny204.out] at ho4)); have n0_ := Aside0.mk (Kd.R_lower ho4 (below_size (by repeat (first | (with_reducible first | exact HB.out | apply below_alloc | apply pw_below_drewN | apply below_drew1) | exact HB.out)))); have n1_ := Aside0.mk (below_step (by repeat (first | (with_reducible first | exact HB.out | apply below_alloc | apply pw_below_drewN | apply below_drew1) | exact HB.out)) hb); clear HB; have HO206 := n0_; have HB := n1_; clear n0_ n1_; clear hb ho4) | ((with_reducible refine gate_builtin (b := .append) (xs := #[.tmp 5, .tmp 6]) rfl ?_); at_builtin; refine Kd.R_append_rows (Kd.int .i64) (w0 := w) w.heap.size rfl (.tmp 5) (.tmp 6) 22 3 (.int .i64 0) 8 rfl Try.underlying22 info3 rfl (by decide) (by omega) v205 y204 l0 _ _ _ (fun _ => True) (fun _ => False) rfl rfl ?aO ?aR (fun _ _ h => h) (fun _ h => h.elim) ?aF ?aB ?aS ?aL ?_; (case aR => repeat (first | exact (Kd.C_below HR0.out HB.out) | (with_reducible refine Kd.C_alloc ?_ _) | (with_reducible refine Kd.C_drewN ?_ _) | (with_reducible refine Kd.C_drew ?_))); (case aB => exact (by repeat (first | (with_reducible first | exact HB.out | apply below_alloc | apply pw_below_drewN | apply below_drew1) | exact HB.out))); (case aF => exact (fun _ _ => trivial)); (case aO => exact (by (with_reducible repeat (first | apply Kd.R_alloc | apply Kd.R_drewN | apply Kd.R_drew)); exact HO206.out)); (case aS => exact (below_size (by repeat (first | (with_reducible first | exact HB.out | apply below_alloc | apply pw_below_drewN | apply below_drew1) | exact HB.out)))); (case aL => have := LMc2.out; omega); intro v208 w5 ho hb hg hat; rw [← Ny207.out] at ho; have n0_ := Aside0.mk (hb); have n1_ := Aside0.mk (ho); clear HB; clear HO206; have HB := n0_; have HO209 := n1_; clear n0_ n1_; clear ho hb hg hat))
   go_ret
   exact ⟨_, by first | rfl | (simp [errW_none, errW_some] <;> rfl) | (simp [*, errW_none, errW_some] <;> rfl), by (with_reducible repeat (first | apply Kd.R_alloc | apply Kd.R_drewN | apply Kd.R_drew)); exact HO209.out, by repeat (first | (with_reducible first | exact HB.out | apply below_alloc | apply pw_below_drewN | apply below_drew1) | exact HB.out)⟩
 ·rw [if_neg c2] at H
  exact absurd H (by simp)
end Go.Proofs.Ytjelamodjpepkaa.P
/- The walk of classic.Monomials: its local function that calls itself, and the loop over the degrees. -/
namespace Go.Proofs.Ytjelamodjpepkaa.P
open Go.RowKit Go.Proofs.YtjelamodjpepkaaW.PrintWords Go.Proofs.YtjelamodjpepkaaW.PrintLast Go.Proofs.YtjelamodjpepkaaW.PrintMore
attribute [local go_sem] max2_int min2_int max_two min_two max_three min_three max_four min_four
set_option linter.unusedVariables false
set_option linter.unusedSimpArgs false
/-- What the local function adds from the variable v on (d variables are left). -/
def combs (size : Nat) : Nat → Int → List Int → List (List Int)
 | 0, _, _ => []
 | d + 1, v, vars => (if (vars ++ [v]).length = size then [vars ++ [v]] else combs size d (v + 1) (vars ++ [v])) ++ combs size d (v + 1) vars
def combs1 (size : Nat) (d : Nat) (v : Int) (vars : List Int) : List (List Int) := if vars.length = size then [vars] else combs size d v vars
def fv (bs bo bm bf : Nat) : Value := .func (Fn.func 32) #[] #[.pointer (some ⟨bs, 0, none⟩), .pointer (some ⟨bo, 0, none⟩), .pointer (some ⟨bm, 0, none⟩), .pointer (some ⟨bf, 0, none⟩)]
/-- The captured variables. -/
structure Cap (w : World) (bs bo bm bf : Nat) (size : Nat) (m : Int) (vo : Value) (L : List (List Int)) (B : Nat) : Prop where
 hs : w.heap[bs]? = some (.cells #[.int .i64 (size : Int)] 3 (0, 0))
 ho : w.heap[bo]? = some (.cells #[vo] 23 (0, 0))
 hm : w.heap[bm]? = some (.cells #[.int .i64 m] 3 (0, 0))
 hf : w.heap[bf]? = some (.cells #[fv bs bo bm bf] 61 (0, 0))
 own : Kd.S (Kd.slice 3 (Kd.int .i64)) 22 w B (fun _ => True) vo L
 base : B ≤ bo ∧ B ≤ w.heap.size
theorem Cap.below {w w1 : World} {bs bo bm bf size : Nat} {m : Int} {vo : Value} {L : List (List Int)} {B : Nat} (h : Cap w bs bo bm bf size m vo L B) (hb : Below w.heap.size w w1) : Cap w1 bs bo bm bf size m vo L B :=
 ⟨blk_below h.hs hb, blk_below h.ho hb, blk_below h.hm hb, blk_below h.hf hb, Kd.S_below h.own hb, h.base.1, Nat.le_trans h.base.2 hb.size⟩
theorem S_apart_new {w W : World} {B N : Nat} {vo v2 : Value} {L : List (List Int)} {l1 : List Int} {okv : Nat → Prop} (h : Kd.S (Kd.slice 3 (Kd.int .i64)) 22 w B (fun _ => True) vo L) (hW : Below w.heap.size w W)
  (h2 : Kd.R (Kd.int .i64) 3 W N okv v2 l1) (hN : w.heap.size ≤ N) : Kd.S (Kd.slice 3 (Kd.int .i64)) 22 W B (fun k => True ∧ ¬ some k = v2.ownBlock) vo L :=
 Kd.S_mono (Kd.S_step (Kd.S_bound h) (fun k hk hlt => hW.block k hlt)) (fun k hk => ⟨trivial, fun e => by have := Kd.R_base h2 k e.symm; have := hk.2.2.1; omega⟩)
theorem cap_bo {w W w1 : World} {bs bo bm bf size : Nat} {m : Int} {vo : Value} {L : List (List Int)} {B : Nat} (h : Cap w bs bo bm bf size m vo L B) (hW : Below w.heap.size w W) (hg : W.grownBy w1 vo.ownBlock) : w1.heap[bo]? = some (.cells #[vo] 23 (0, 0)) := by
 have hlt : bo < w.heap.size := blk_lt h.ho
 rw [hg.block bo (Nat.lt_of_lt_of_le hlt hW.size) (Kd.S_ne h.own h.ho (by decide)), hW.block bo hlt]
 exact h.ho
theorem cap_store {w W w1 : World} {bs bo bm bf size : Nat} {m : Int} {vo v1 : Value} {L L1 : List (List Int)} {B : Nat} (h : Cap w bs bo bm bf size m vo L B) (hW : Below w.heap.size w W)
  (hS : Kd.S (Kd.slice 3 (Kd.int .i64)) 22 w1 B (fun _ => True) v1 L1) (hB : Below B w w1) (hg : W.grownBy w1 vo.ownBlock) (hat : v1.ownBlock = vo.ownBlock ∨ ∃ b, v1.ownBlock = some b ∧ W.heap.size ≤ b) :
  Cap (w1.setCell ⟨bo, 0, none⟩ v1) bs bo bm bf size m v1 L1 B ∧ Below B w (w1.setCell ⟨bo, 0, none⟩ v1) ∧ (v1.ownBlock = vo.ownBlock ∨ ∃ b, v1.ownBlock = some b ∧ w.heap.size ≤ b) ∧ Kept w (w1.setCell ⟨bo, 0, none⟩ v1) (fun k => k = bo ∨ some k = vo.ownBlock) := by
 have hty : ∀ k, vo.ownBlock = some k → ∃ cells, w.heap[k]? = some (.cells cells 22 (0, 0)) := Kd.S_typed h.own
 have old : ∀ k o, w.heap[k]? = some o → some k ≠ vo.ownBlock → w1.heap[k]? = some o := by
  intro k o ho hne
  have hlt : k < w.heap.size := blk_lt ho
  rw [hg.block k (Nat.lt_of_lt_of_le hlt hW.size) hne, hW.block k hlt]
  exact ho
 have ne : ∀ (k : Nat) (cs : Array Value) (t : TypeId), w.heap[k]? = some (.cells cs t (0, 0)) → t ≠ 22 → some k ≠ vo.ownBlock := by
  intro k cs t hk ht e
  obtain ⟨cells, hc⟩ := hty k e.symm
  rw [hk] at hc
  injection hc with hc
  injection hc with _ hc
  exact ht hc
 have far : ∀ (k : Nat) (cs : Array Value) (t : TypeId), w.heap[k]? = some (.cells cs t (0, 0)) → t ≠ 22 → t ≠ 23 → (w1.setCell ⟨bo, 0, none⟩ v1).heap[k]? = some (.cells cs t (0, 0)) := by
  intro k cs t hk ht ht2
  have hkbo : k ≠ bo := fun e => by
   rw [e, h.ho] at hk
   injection hk with hk
   injection hk with _ hk
   exact ht2 hk.symm
  rw [Below.heap_setCell w1 ⟨bo, 0, none⟩ v1 k hkbo]
  exact old k _ hk (ne k cs t hk ht)
 have hbo1 : w1.heap[bo]? = some (.cells #[vo] 23 (0, 0)) := old bo _ h.ho (ne bo _ _ h.ho (by decide))
 refine ⟨⟨far bs _ _ h.hs (by decide) (by decide), ?_, far bm _ _ h.hm (by decide) (by decide), far bf _ _ h.hf (by decide) (by decide), Kd.S_set hS hbo1 (by simp [Kd.slice, Kd.int, Kd.scalar]) 0 v1, h.base.1, ?_⟩, hB.setCell h.base.1 _, ?_, ?_, ?_⟩
 ·have := blk_set (w := w1) (g := bo) hbo1 0 v1
  simpa using this
 ·simp only [World.setCell]
  have := hB.size
  have := h.base.2
  simp; omega
 ·rcases hat with hat | ⟨b, hb, hle⟩
  ·exact .inl hat
  ·exact .inr ⟨b, hb, Nat.le_trans hW.size hle⟩
 ·have := hB.size
  simpa [World.setCell] using this
 ·intro k hk hn
  rw [Below.heap_setCell w1 ⟨bo, 0, none⟩ v1 k (fun e => hn (.inl e)), hg.block k (Nat.lt_of_lt_of_le hk hW.size) (fun e => hn (.inr e)), hW.block k hk]
/-- What a call of the local function does. -/
def AddSaid (d : Nat) : Prop := ∀ (size : Nat) (m v : Int) (A1 : Option Addr) (c1 : Nat) (l1 : List Int) (vo : Value) (L : List (List Int)) (w : World) (bs bo bm bf B : Nat),
 0 ≤ v → v ≤ m → m - v = d → m ≤ 6 → size ≤ 7 → Cap w bs bo bm bf size m vo L B → Kd.C (Kd.int .i64) w A1 l1.length l1 → (∀ ad, A1 = some ad → 0 < l1.length → ∃ cells, w.heap[ad.block]? = some (.cells cells 3 (0, 0))) → l1.length ≤ c1 → l1.length + d ≤ 64 →
 L.length + (combs1 size d v l1).length ≤ 4096 →
 Calls Try.prog 32 #[.int .i64 v, .slice A1 l1.length c1, .pointer (some ⟨bs, 0, none⟩), .pointer (some ⟨bo, 0, none⟩), .pointer (some ⟨bm, 0, none⟩), .pointer (some ⟨bf, 0, none⟩)] w
  fun e w' => e = .returned (.tuple #[]) ∧ ∃ vo', Cap w' bs bo bm bf size m vo' (L ++ combs1 size d v l1) B ∧ Below B w w' ∧ (vo'.ownBlock = vo.ownBlock ∨ ∃ b, vo'.ownBlock = some b ∧ w.heap.size ≤ b) ∧ Kept w w' (fun k => k = bo ∨ some k = vo.ownBlock)
set_option maxHeartbeats 1000000 in
theorem add_full (d size : Nat) (m v : Int) (A1 : Option Addr) (c1 : Nat) (l1 : List Int) (vo : Value) (L : List (List Int)) (w : World) (bs bo bm bf B : Nat)
  (hsz : size ≤ 7) (hcap : Cap w bs bo bm bf size m vo L B) (hC : Kd.C (Kd.int .i64) w A1 l1.length l1) (hc1 : l1.length ≤ c1) (hL : L.length + 1 ≤ 4096) (hfull : l1.length = size) :
 Calls Try.prog 32 #[.int .i64 v, .slice A1 l1.length c1, .pointer (some ⟨bs, 0, none⟩), .pointer (some ⟨bo, 0, none⟩), .pointer (some ⟨bm, 0, none⟩), .pointer (some ⟨bf, 0, none⟩)] w
  fun e w' => e = .returned (.tuple #[]) ∧ ∃ vo', Cap w' bs bo bm bf size m vo' (L ++ [l1]) B ∧ Below B w w' ∧ (vo'.ownBlock = vo.ownBlock ∨ ∃ b, vo'.ownBlock = some b ∧ w.heap.size ≤ b) ∧ Kept w w' (fun k => k = bo ∨ some k = vo.ownBlock) := by
 have HCAP := Aside0.mk hcap
 have HC := Aside0.mk hC
 have HC1 := Aside0.mk hc1
 have HL := Aside0.mk hL
 have f1 : w.cell? ⟨bs, 0, none⟩ = some (.int .i64 (size : Int)) := (blk_cell hcap.hs 0).trans rfl
 have f2 : w.cell? ⟨bo, 0, none⟩ = some vo := (blk_cell hcap.ho 0).trans rfl
 have f3 : w.frozen? ⟨bo, 0, none⟩ = false := blk_frozen hcap.ho 0
 have cell2 : ∀ W : World, Below w.heap.size w W → W.cell? ⟨bo, 0, none⟩ = some vo := fun W hW => (hW.cell (World.block_lt_of_cell? w _ f2)).trans f2
 have HCELL := Aside0.mk cell2
 clear cell2
 have fclone : slices_Clone_int_int.f l1 = some l1 := by
  unfold slices_Clone_int_int.f
  simp only [Option.bind_some, List.nil_append]
  rw [if_pos (by simp; omega)]
 have HF := Aside0.mk fclone
 clear fclone
 have hq1 : ((l1.length : Int) == (size : Int)) = true := by rw [beq_iff_eq]; omega
 have hq2 : (l1.length == size) = true := by rw [beq_iff_eq]; omega
 clear hcap hC hc1 hL hfull
 go_enter Try.func32, Try.ntmps32
 go_wp2
 go_region_law (first
  | (refine goes_ (N := some 15) Try.func33 (by kernel_rfl) rfl #[.slice A1 l1.length c1] rfl rfl rfl ?hargs ?_; (case hargs => ((try simp only [List.map_toArray, List.map_cons, List.map_nil]); first | done | rfl)); refine (slices_Clone_int_int.calls A1 c1 l1 l1 _ ?s1 HC1.out HF.out).mono ?_; (case s1 => exact Kd.C_drew HC.out); rintro e w2 ⟨v2, rfl, ho, hb⟩; refine ⟨v2, rfl, ?_⟩; obtain ⟨A2, c2, e2⟩ := Kd.R_slice ho; subst e2; have HB2 := Aside0.mk (below_step (below_drew (Below.refl w.heap.size w)) hb); have HR2 := Aside0.mk ho; have g2 := HCELL.out w2 HB2.out; have g2a := fun (o : Obj) => HCELL.out (w2.alloc o) (below_alloc HB2.out o); clear hb ho)
  | (refine Kd.S_append_step (Kd.slice 3 (Kd.int .i64)) (w0 := w) B rfl (.tmp 13) (.tmp 16) 23 22 (.slice none 0 0) 24 rfl Try.underlying23 info22 rfl (by decide) (by omega) vo L l1 _ (fun _ => True) (fun k => some k = (Value.slice A2 l1.length c2).ownBlock) rfl rfl ?hp ?hokp (fun _ _ => trivial) ?HO ?HB ?hbase ?hl ?_; (case hp => exact ⟨_, rfl, Kd.R_tight rfl (Kd.R_lower HR2.out (Nat.le_trans HCAP.out.base.2 (Nat.le_refl _)))⟩); (case hokp => exact fun k hk => ⟨trivial, fun e => by have h1 := Kd.R_base HR2.out k hk.symm; have h2 := Kd.S_lt HCAP.out.own k e.symm; have h0 : w.drew.heap.size = w.heap.size := rfl; exact absurd h2 (by omega)⟩); (case HO => exact S_apart_new HCAP.out.own HB2.out HR2.out (Nat.le_refl _)); (case HB => exact (HB2.out).mono HCAP.out.base.2); (case hbase => exact Nat.le_trans HCAP.out.base.2 HB2.out.size); (case hl => have := HL.out; omega); intro v3 w3 hS3 hB3 hg3 hat3; have b3 := cap_bo HCAP.out HB2.out hg3; have g3 := (blk_cell b3 0).trans rfl; have g3f := blk_frozen b3 0; obtain ⟨A3, c3, e3⟩ := Kd.S_slice hS3; subst e3; clear b3; have FIN := Aside0.mk (cap_store HCAP.out HB2.out hS3 hB3 hg3 hat3); clear hS3 hB3 hg3 hat3))
 all_goals
  go_wp2
  have F := FIN.out
  rw [show (L ++ [l1]).length = L.length + 1 from by simp] at F
  exact bodyPost_ret (v := .tuple #[]) (by simp [results, Try.results32, go_sem]) rfl ⟨rfl, _, F⟩
/-- A call of a function value that closes over variables. -/
theorem goesv_ {P : Program} {ops : Array Oper} {Q : Exit → Act → World → Prop} {oi : Oper} {N : Option Tmp} {a : Act} {w : World} {K : Act → World → Prop} {f : FuncId} {fn : Func} {ags : Array Operand} {ts : Array TypeId} {s : Operand} {cap : Array Value} (hf : P.funcs[f]? = some fn) (hname : (fn.name == "runtime.NumGoroutine") = false) (hb : fn.body.isSome = true) (args : Array Value)
  (hw : Region.wanted oi (yielded ops a.tmps) = true) (hN : oi.dst = N) (hop : oi.op = .call { callee := .value s, args := ags, argTypes := ts }) (hv : a.eval s = .func (.func f) #[] cap) (hargs : ags.map a.eval ++ cap = args)
  (h : Calls P f args w fun e w' => ∃ v, e = .returned v ∧ K (a.put N v) w') : if Region.wanted oi (yielded ops a.tmps) = true then Oper.wp P oi a w K Q else K (a.put N undef) w := by
 refine call_ f args hw hN ?_ h
 have he := enters_ hf hname hb args w
 unfold execOp
 simp [hop, resolve, Deferred.ofValue, invoke, hv, hargs, he]
theorem C_kept {w wr : World} {A1 : Option Addr} {l1 : List Int} {vo : Value} {L : List (List Int)} {bs bo bm bf size : Nat} {m : Int} {B : Nat} (hC : Kd.C (Kd.int .i64) w A1 l1.length l1) (hA : ∀ ad, A1 = some ad → 0 < l1.length → ∃ cells, w.heap[ad.block]? = some (.cells cells 3 (0, 0)))
  (h : Cap w bs bo bm bf size m vo L B) (hk : Kept w wr (fun k => k = bo ∨ some k = vo.ownBlock)) : Kd.C (Kd.int .i64) wr A1 l1.length l1 ∧ ∀ ad, A1 = some ad → 0 < l1.length → ∃ cells, wr.heap[ad.block]? = some (.cells cells 3 (0, 0)) := by
 have same : ∀ ad, A1 = some ad → 0 < l1.length → wr.heap[ad.block]? = w.heap[ad.block]? := by
  intro ad e hn
  obtain ⟨cells, hc⟩ := hA ad e hn
  refine hk.2 _ (blk_lt hc) ?_
  rintro (e2 | e2)
  ·rw [e2, h.ho] at hc
   injection hc with hc
   injection hc with _ hc
   exact absurd hc (by decide)
  ·obtain ⟨cells2, hc2⟩ := Kd.S_typed h.own _ e2.symm
   rw [hc] at hc2
   injection hc2 with hc2
   injection hc2 with _ hc2
   exact absurd hc2 (by decide)
 refine ⟨⟨hC.1, hC.2.1, fun hn => ?_⟩, fun ad e hn => ?_⟩
 ·obtain ⟨ad, e, hx⟩ := hC.2.2 hn
  refine ⟨ad, e, fun j p hj => ?_⟩
  obtain ⟨c, h1, h2, h3⟩ := hx j p hj
  refine ⟨c, h1, h2, fun i u hu => ?_⟩
  have hb : ∀ n, (ad.add n).block = ad.block := fun n => by unfold Addr.add; split <;> rfl
  have := h3 i u hu
  unfold World.cell? at this ⊢
  rw [hb, same ad e hn]
  rw [hb] at this
  exact this
 ·rw [same ad e hn]; exact hA ad e hn
theorem grow_pre {wr : World} {A1 : Option Addr} {l1 : List Int} (x : Int) (hC : Kd.C (Kd.int .i64) wr A1 l1.length l1) :
  (A1 = none → l1.length = 0 ∧ l1.length = 0) ∧ (∀ b, A1 = some b → ∀ j u, (nums .i64 l1)[j]? = some u → (wr.alloc (.cells #[.int .i64 x] 3)).drew.cell? (b.add j) = some u) ∧
  (∀ (j : Nat) (u : Value), [Value.int .i64 x][j]? = some u → (wr.alloc (.cells #[.int .i64 x] 3)).drew.cell? ((⟨wr.heap.size, 0, none⟩ : Addr).add j) = some u) := by
 refine ⟨fun e => ?_, fun b e j u hu => ?_, fun j u hu => ?_⟩
 ·by_cases hn : 0 < l1.length
  ·obtain ⟨ad, h, _⟩ := hC.2.2 hn
   rw [e] at h; cases h
  ·omega
 ·have hC2 := Kd.C_drew (Kd.C_alloc hC (.cells #[.int .i64 x] 3))
  have hj : j < l1.length := by
   have := (List.getElem?_eq_some_iff.1 hu).1
   simpa [nums] using this
  obtain ⟨ad, h, hx⟩ := hC2.2.2 (by omega)
  rw [e] at h
  obtain rfl := Option.some.inj h
  obtain ⟨c, h1, h2, h3⟩ := hx j l1[j] (List.getElem?_eq_getElem hj)
  have hc : c = [Value.int .i64 l1[j]] := h2
  subst hc
  have h4 := h3 0 _ rfl
  have e2 : u = .int .i64 l1[j] := by
   simp [nums, List.getElem?_map, List.getElem?_eq_getElem hj] at hu
   exact hu.symm
  rw [e2]
  have e3 : j * (Kd.int .i64).sz + 0 = j := by show j * 1 + 0 = j; omega
  rw [e3] at h4
  exact h4
 ·have hj : j = 0 := by
   have := (List.getElem?_eq_some_iff.1 hu).1
   simp at this; exact this
  subst hj
  have hb := blk_drew (blk_new wr (.cells #[.int .i64 x] 3))
  have := blk_cell hb 0
  simp at hu
  subst hu
  rw [show (⟨wr.heap.size, 0, none⟩ : Addr).add 0 = ⟨wr.heap.size, 0, none⟩ from by simp [Addr.add]]
  exact this.trans rfl
theorem grow_post {wr w' : World} {l1 : List Int} {x : Int} {v' : Value} (hown : w'.ownsRow (wr.alloc (.cells #[.int .i64 x] 3)).drew.heap.size 3 1 v' (l1.length + 1) (nums .i64 l1 ++ [.int .i64 x])) (hg : (wr.alloc (.cells #[.int .i64 x] 3)).drew.grownBy w' none) :
  Below wr.heap.size wr w' ∧ ∃ A' c', v' = .slice A' (l1.length + 1) c' ∧ Kd.C (Kd.int .i64) w' A' (l1 ++ [x]).length (l1 ++ [x]) ∧ (∀ ad, A' = some ad → 0 < (l1 ++ [x]).length → ∃ cells, w'.heap[ad.block]? = some (.cells cells 3 (0, 0))) ∧ (l1 ++ [x]).length ≤ c' := by
 have hl : (l1 ++ [x]).length = l1.length + 1 := by simp
 have hb0 : Below wr.heap.size wr (wr.alloc (.cells #[.int .i64 x] 3)).drew := below_drew (below_alloc (Below.refl _ _) _)
 have hR : Kd.R (Kd.int .i64) 3 w' (wr.alloc (.cells #[.int .i64 x] 3)).drew.heap.size (fun _ => True) v' (l1 ++ [x]) := by
  refine Kd.R_of_own ?_ (fun _ _ => trivial)
  rw [hl]
  have : encs (Value.int .i64) (l1 ++ [x]) = nums .i64 l1 ++ [.int .i64 x] := by simp [encs, nums]
  rw [this]; exact hown
 refine ⟨hb0.grown hg hb0.size (fun k hk => by cases hk), ?_⟩
 obtain ⟨A', c', e, h1, h2⟩ := Kd.R_reads hR
 refine ⟨A', c', by rw [e, hl], h2, fun ad e2 hn => ?_, h1⟩
 obtain ⟨g, cap, e3, _, _, hc⟩ := Kd.R_form hR hn
 rw [e] at e3
 injection e3 with e4
 rw [e2] at e4
 obtain rfl := Option.some.inj e4
 exact hc
def LoopRel (d size : Nat) (m v : Int) (l1 : List Int) (vo : Value) (L : List (List Int)) (w : World) (bs bo bm bf B : Nat) (u : Value) (wr : World) : Prop :=
 ∃ (x : Int) (vX : Value) (LX : List (List Int)), u = .int .i64 x ∧ v ≤ x ∧ x ≤ m ∧ Cap wr bs bo bm bf size m vX LX B ∧ LX ++ combs size (m - x).toNat x l1 = L ++ combs size d v l1 ∧ Below B w wr ∧
  (vX.ownBlock = vo.ownBlock ∨ ∃ b, vX.ownBlock = some b ∧ w.heap.size ≤ b) ∧ Kept w wr (fun k => k = bo ∨ some k = vo.ownBlock)
theorem loop_next {d d' size : Nat} {m v x : Int} {l1 : List Int} {vo vX vo4 : Value} {L LX : List (List Int)} {w wr w' w4 : World} {bs bo bm bf B : Nat} (hd' : m - (x + 1) = d') (hcx : combs size (m - x).toNat x l1 = combs1 size d' (x + 1) (l1 ++ [x]) ++ combs size d' (x + 1) l1)
  (hsum : LX ++ combs size (m - x).toNat x l1 = L ++ combs size d v l1) (hbel : Below B w wr) (hat : vX.ownBlock = vo.ownBlock ∨ ∃ b, vX.ownBlock = some b ∧ w.heap.size ≤ b) (hkept : Kept w wr (fun k => k = bo ∨ some k = vo.ownBlock))
  (hcap : Cap wr bs bo bm bf size m vX LX B) (hbn : Below wr.heap.size wr w') (hcap4 : Cap w4 bs bo bm bf size m vo4 (LX ++ combs1 size d' (x + 1) (l1 ++ [x])) B) (hb4 : Below B w' w4)
  (hat4 : vo4.ownBlock = vX.ownBlock ∨ ∃ b, vo4.ownBlock = some b ∧ w'.heap.size ≤ b) (hk4 : Kept w' w4 (fun k => k = bo ∨ some k = vX.ownBlock)) (h1 : v ≤ x + 1) (h2 : x + 1 ≤ m) :
  LoopRel d size m v l1 vo L w bs bo bm bf B (.int .i64 (x + 1)) w4 := by
 have s1 : w.heap.size ≤ wr.heap.size := hbel.size
 have s2 : wr.heap.size ≤ w'.heap.size := hbn.size
 refine ⟨x + 1, vo4, _, rfl, h1, h2, hcap4, ?_, (hbel.trans (hbn.mono hcap.base.2)).trans hb4, ?_, ?_, ?_⟩
 ·rw [show (m - (x + 1)).toNat = d' from by omega, List.append_assoc, ← hcx]
  exact hsum
 ·rcases hat4 with e | ⟨b, e, hle⟩
  ·rw [e]; exact hat
  ·exact .inr ⟨b, e, by omega⟩
 ·have := hb4.size; omega
 ·intro k hk hn
  rw [hk4.2 k (by omega) ?_, hbn.block k (by omega), hkept.2 k hk hn]
  rintro (e | e)
  ·exact hn (.inl e)
  ·rcases hat with e2 | ⟨b, e2, hle⟩
   ·exact hn (.inr (by rw [← e2]; exact e))
   ·rw [e2] at e
    injection e with e
    omega
set_option maxHeartbeats 1000000 in
theorem add_loop (d : Nat) (ih : ∀ d', d' < d → AddSaid d') (size : Nat) (m v : Int) (A1 : Option Addr) (c1 : Nat) (l1 : List Int) (vo : Value) (L : List (List Int)) (w : World) (bs bo bm bf B : Nat)
  (h0 : 0 ≤ v) (hvm : v ≤ m) (hd : m - v = d) (hm : m ≤ 6) (hsz : size ≤ 7) (hcap : Cap w bs bo bm bf size m vo L B) (hC : Kd.C (Kd.int .i64) w A1 l1.length l1) (hA : ∀ ad, A1 = some ad → 0 < l1.length → ∃ cells, w.heap[ad.block]? = some (.cells cells 3 (0, 0))) (hc1 : l1.length ≤ c1) (hl1 : l1.length + d ≤ 64)
  (hL : L.length + (combs size d v l1).length ≤ 4096) (hfull : l1.length ≠ size) :
 Calls Try.prog 32 #[.int .i64 v, .slice A1 l1.length c1, .pointer (some ⟨bs, 0, none⟩), .pointer (some ⟨bo, 0, none⟩), .pointer (some ⟨bm, 0, none⟩), .pointer (some ⟨bf, 0, none⟩)] w
  fun e w' => e = .returned (.tuple #[]) ∧ ∃ vo', Cap w' bs bo bm bf size m vo' (L ++ combs size d v l1) B ∧ Below B w w' ∧ (vo'.ownBlock = vo.ownBlock ∨ ∃ b, vo'.ownBlock = some b ∧ w.heap.size ≤ b) ∧ Kept w w' (fun k => k = bo ∨ some k = vo.ownBlock) := by
 have HIH := Aside0.mk ih
 have HCAP := Aside0.mk hcap
 have HC := Aside0.mk hC
 have HA := Aside0.mk hA
 have HC1 := Aside0.mk hc1
 have HL := Aside0.mk hL
 have HD := Aside0.mk hd
 have HL1 := Aside0.mk hl1
 have hq1 : ((l1.length : Int) == (size : Int)) = false := beq_eq_false_iff_ne.2 (by omega)
 have hq2 : (l1.length == size) = false := beq_eq_false_iff_ne.2 hfull
 have f1 : w.cell? ⟨bs, 0, none⟩ = some (.int .i64 (size : Int)) := (blk_cell hcap.hs 0).trans rfl
 have hrel0 : LoopRel d size m v l1 vo L w bs bo bm bf B (.int .i64 v) w := ⟨v, vo, L, rfl, Int.le_refl _, hvm, hcap, by rw [show (m - v).toNat = d from by omega], Below.refl _ _, .inl rfl, Kept.refl _ _⟩
 have HREL := Aside0.mk hrel0
 clear hrel0 ih hcap hC hA hc1 hL hd hl1 hfull
 obtain ⟨i0, hi0, hz0, hz1, hz2⟩ := info_parts info3
 go_enter Try.func32, Try.ntmps32
 go_wp2
 go_loopw [8] (fun u wr => LoopRel d size m v l1 vo L w bs bo bm bf B u wr) (fun u _ => (m - intOf u).toNat)
 case atStart => exact HREL.out
 case round =>
  clear f1 HREL
  obtain ⟨x, vX, LX, rfl, hx0, hxm, hcap, hsum, hbel, hat, hkept⟩ := hrel
  have HCAP2 := Aside0.mk hcap
  have HSUM := Aside0.mk hsum
  have HBEL := Aside0.mk hbel
  have HAT := Aside0.mk hat
  have HKEPT := Aside0.mk hkept
  have f4 : wr.cell? ⟨bm, 0, none⟩ = some (.int .i64 m) := (blk_cell hcap.hm 0).trans rfl
  have f5 : wr.cell? ⟨bf, 0, none⟩ = some (fv bs bo bm bf) := (blk_cell hcap.hf 0).trans rfl
  have f5a : ∀ o : Obj, (wr.alloc o).cell? ⟨bf, 0, none⟩ = some (fv bs bo bm bf) := fun o => (blk_cell (hcap.below (below_alloc (Below.refl _ _) o)).hf 0).trans rfl
  clear hcap hsum hbel hat hkept
  obtain ⟨hCr, hAr⟩ := C_kept HC.out HA.out HCAP.out HKEPT.out
  have HCR := Aside0.mk hCr
  have HAR := Aside0.mk hAr
  clear hCr hAr
  by_cases hlt : x < m
  ·obtain ⟨d', hd'⟩ : ∃ d' : Nat, m - (x + 1) = d' := ⟨(m - (x + 1)).toNat, by omega⟩
   have hdd : d' < d := by have := HD.out; omega
   have hcx : combs size (m - x).toNat x l1 = combs1 size d' (x + 1) (l1 ++ [x]) ++ combs size d' (x + 1) l1 := by
    rw [show (m - x).toNat = d' + 1 from by omega]; rfl
   have HCX := Aside0.mk hcx
   have hlen : (l1 ++ [x]).length = l1.length + 1 := by simp
   have HLEN := Aside0.mk hlen
   have HD' := Aside0.mk hd'
   have hsums : LX.length + (combs size (m - x).toNat x l1).length = L.length + (combs size d v l1).length := by
    have := congrArg List.length HSUM.out
    simpa using this
   have HLX : Aside0 (LX.length + (combs1 size d' (x + 1) (l1 ++ [x])).length ≤ 4096) := ⟨by
    rw [hcx, List.length_append] at hsums
    have := HL.out
    omega⟩
   have hw1 : IntKind.i64.wrap (x + 1) = x + 1 := Go.IntWalk.i64_in _ (by omega)
   have hc1 := HC1.out
   have HSTEP := Aside0.mk (fun (W : World) (A' : Option Addr) (c' : Nat) => HIH.out d' hdd size m (x + 1) A' c' (l1 ++ [x]) vX LX W bs bo bm bf B (by omega) (by omega) hd' hm hsz)
   clear hcx hlen hd' hsums
   go_wp2
   have HPRE := Aside0.mk (grow_pre x HCR.out)
   go_region_law? (first
    | (refine step_append_grows rfl (.tmp 32) (.tmp 34) 22 rfl 3 i0 (.int .i64 0) 1 8 Try.underlying22 hi0 hz0 hz1 hz2 rfl (by decide) A1 l1.length l1.length (nums .i64 l1) ?s1 HPRE.out.1 ?s3 HPRE.out.2.1 ⟨wr.heap.size, 0, none⟩ 1 1 [.int .i64 x] ?s5 rfl HPRE.out.2.2 ?s7 (by omega) ?s8 ?s9 ?_; (case s1 => simp [Act.eval, Act.put]); (case s5 => simp [Act.eval, Act.put]); (case s3 => simp [nums]); (case s7 => simp [Value.oneCell']); (case s8 => have := HL1.out; simp only [maxLen]; omega); (case s9 => have := HL1.out; omega); intro v' w' hown hgrow; obtain ⟨hbn, A', c', e', hC', hA', hc'⟩ := grow_post hown hgrow; subst e'; have f5b : w'.cell? ⟨bf, 0, none⟩ = some (fv bs bo bm bf) := (blk_cell (HCAP2.out.below hbn).hf 0).trans rfl; have HBN := Aside0.mk hbn; have HCN := Aside0.mk hC'; have HAN := Aside0.mk hA'; have HCC := Aside0.mk hc'; clear hown hgrow hbn hC' hA' hc')
    | (refine goesv_ (N := some 36) (s := .tmp 24) Try.func32 (by kernel_rfl) rfl #[.int .i64 (x + 1), .slice A' (l1.length + 1) c', .pointer (some ⟨bs, 0, none⟩), .pointer (some ⟨bo, 0, none⟩), .pointer (some ⟨bm, 0, none⟩), .pointer (some ⟨bf, 0, none⟩)] rfl rfl rfl rfl ?hargs ?_; (case hargs => simp [Act.eval, Act.put]); have K := HSTEP.out _ A' c' (HCAP2.out.below HBN.out) HCN.out HAN.out HCC.out (by rw [HLEN.out]; have := HL1.out; have := HD.out; have := HD'.out; omega) HLX.out; rw [HLEN.out] at K; refine K.mono ?_; clear K; rintro e w4 ⟨rfl, vo4, hcap4, hb4, hat4, hk4⟩; refine ⟨_, rfl, ?_⟩; have FIN := Aside0.mk (loop_next HD'.out HCX.out HSUM.out HBEL.out HAT.out HKEPT.out HCAP2.out HBN.out hcap4 hb4 hat4 hk4 (by omega) (by omega)); clear hcap4 hb4 hat4 hk4))
   all_goals
    go_wp2
    go_roundw
    case rel => exact FIN.out
    case measure => simp [intOf]; omega
  ·have hxe : x = m := by omega
   have hfin : Cap wr bs bo bm bf size m vX (L ++ combs size d v l1) B := by
    have e := HSUM.out
    rw [show (m - x).toNat = 0 from by omega] at e
    rw [← e]
    simpa [combs] using HCAP2.out
   have HFIN := Aside0.mk hfin
   clear hfin
   go_wp2
   go_end0
   exact ⟨rfl, _, HFIN.out, HBEL.out, HAT.out, HKEPT.out⟩
theorem add_all : ∀ d, AddSaid d := by
 intro d
 induction d using Nat.strongRecOn with
 | _ d ih =>
  intro size m v A1 c1 l1 vo L w bs bo bm bf B h0 hvm hd hm hsz hcap hC hA hc1 hl1 hL
  unfold combs1 at hL ⊢
  by_cases hfull : l1.length = size
  ·rw [if_pos hfull] at hL ⊢
   exact add_full d size m v A1 c1 l1 vo L w bs bo bm bf B hsz hcap hC hc1 (by simpa using hL) hfull
  ·rw [if_neg hfull] at hL ⊢
   exact add_loop d ih size m v A1 c1 l1 vo L w bs bo bm bf B h0 hvm hd hm hsz hcap hC hA hc1 hl1 hL hfull
end Go.Proofs.Ytjelamodjpepkaa.P
/- The walk of classic.Monomials over its local function. -/
namespace Go.Proofs.Ytjelamodjpepkaa.P
open Go.RowKit Go.Proofs.YtjelamodjpepkaaW.PrintWords Go.Proofs.YtjelamodjpepkaaW.PrintLast Go.Proofs.YtjelamodjpepkaaW.PrintMore
attribute [local go_sem] max2_int min2_int max_two min_two max_three min_three max_four min_four
set_option linter.unusedVariables false
set_option linter.unusedSimpArgs false
/-- The monomials of the degrees below s. -/
def monsTo (m : Nat) : Nat → List (List Int)
 | 0 => []
 | s + 1 => monsTo m s ++ combs1 s m 0 []
def classic_Monomials.f (a0 : Int) (a1 : Int) : Option (List (List Int) × Int) :=
 if a1 < 0 ∨ a1 > 6 ∨ a0 < -1 ∨ a0 > a1 then some ([], 6) else some (monsTo a1.toNat (a0 + 1).toNat, 0)
theorem monsTo_small : ∀ m, m < 7 → ∀ s, s < 8 → (monsTo m s).length ≤ 64 ∧ (combs1 s m 0 []).length ≤ 64 := by decide +kernel
def MonRel (a0 : Int) (m : Nat) (w : World) (B : Nat) (u : Value) (wr : World) : Prop :=
 ∃ (s : Nat) (vX : Value), u = .int .i64 s ∧ s ≤ 7 ∧ (s : Int) ≤ a0 + 1 ∧ wr.heap[B]? = some (.cells #[.int .i64 (m : Int)] 3 (0, 0)) ∧ wr.heap[B + 1]? = some (.cells #[vX] 23 (0, 0)) ∧
  Kd.S (Kd.slice 3 (Kd.int .i64)) 22 wr B (fun _ => True) vX (monsTo m s) ∧ Below B w wr ∧ B + 1 < wr.heap.size
theorem cap_start {m s B : Nat} {wr : World} {vX : Value} {L : List (List Int)} (h1 : wr.heap[B]? = some (.cells #[.int .i64 (m : Int)] 3 (0, 0))) (h2 : wr.heap[B + 1]? = some (.cells #[vX] 23 (0, 0)))
  (hS : Kd.S (Kd.slice 3 (Kd.int .i64)) 22 wr B (fun _ => True) vX L) (hlt : B + 1 < wr.heap.size) :
  Cap (((wr.alloc (.cells #[.int .i64 (s : Int)] 3)).alloc (.cells #[fv wr.heap.size (B + 1) B (wr.heap.size + 1)] 61)).alloc (.cells #[] 3)) wr.heap.size (B + 1) B (wr.heap.size + 1) s m vX L B ∧
  Below wr.heap.size wr (((wr.alloc (.cells #[.int .i64 (s : Int)] 3)).alloc (.cells #[fv wr.heap.size (B + 1) B (wr.heap.size + 1)] 61)).alloc (.cells #[] 3)) := by
 have b1 := below_alloc (below_alloc (below_alloc (Below.refl wr.heap.size wr) (.cells #[.int .i64 (s : Int)] 3)) (.cells #[fv wr.heap.size (B + 1) B (wr.heap.size + 1)] 61)) (.cells #[] 3)
 refine ⟨⟨?_, blk_below h2 b1, blk_below h1 b1, ?_, Kd.S_below hS b1, by omega, Nat.le_trans (by omega) b1.size⟩, b1⟩
 ·exact blk_alloc (blk_alloc (blk_new wr _) _) _
 ·have := blk_alloc (blk_new (wr.alloc (.cells #[.int .i64 (s : Int)] 3)) (.cells #[fv wr.heap.size (B + 1) B (wr.heap.size + 1)] 61)) (.cells #[] 3)
  simpa using this
set_option maxHeartbeats 1000000 in
theorem classic_Monomials.calls (a0 : Int) (a1 : Int) (r1 : List (List Int)) (r2 : Int) (w : World) (h : classic_Monomials.f a0 a1 = some (r1, r2)) :
  Calls Try.prog 9 #[.int .i64 a0, .int .i64 a1] w fun e w' => ∃ v0_ : Value, e = .returned (.tuple #[v0_, .int .i64 r2]) ∧ Kd.S (Kd.slice 3 (Kd.int .i64)) 22 w' w.heap.size (fun _ => True) v0_ r1 ∧ Below w.heap.size w w' := by
 unfold classic_Monomials.f at h
 have hmf : ∀ (fn : Fn) (first cap : Array Value) (w : World), (Instr.makeFunc fn first cap).run Try.prog w = .ok (.func fn first cap) w := fun _ _ _ _ => rfl
 by_cases hbad : a1 < 0 ∨ a1 > 6 ∨ a0 < -1 ∨ a0 > a1
 ·rw [if_pos hbad] at h
  obtain ⟨rfl, rfl⟩ := Prod.mk.inj (Option.some.inj h)
  clear h
  have b0 := below_alloc (Below.refl w.heap.size w) (.cells #[.int .i64 a1] 3)
  have HB0 := Aside0.mk b0
  clear b0
  by_cases h1 : a1 < 0
  ·clear hbad
   go_enter Try.func9, Try.ntmps9
   go_wp2
   go_ret2
   exact ⟨_, rfl, Kd.S_nil _ _ _ _ _, HB0.out⟩
  by_cases h2 : 6 < a1
  ·clear hbad
   go_enter Try.func9, Try.ntmps9
   go_wp2
   go_ret2
   exact ⟨_, rfl, Kd.S_nil _ _ _ _ _, HB0.out⟩
  by_cases h3 : a0 < -1
  ·clear hbad
   go_enter Try.func9, Try.ntmps9
   go_wp2
   go_ret2
   exact ⟨_, rfl, Kd.S_nil _ _ _ _ _, HB0.out⟩
  ·have h4 : a1 < a0 := by omega
   clear hbad
   go_enter Try.func9, Try.ntmps9
   go_wp2
   go_ret2
   exact ⟨_, rfl, Kd.S_nil _ _ _ _ _, HB0.out⟩
 ·rw [if_neg hbad] at h
  obtain ⟨rfl, rfl⟩ := Prod.mk.inj (Option.some.inj h)
  clear h
  obtain ⟨m, rfl⟩ := Int.eq_ofNat_of_zero_le (show 0 ≤ a1 by omega)
  have hm : (m : Int) ≤ 6 := by omega
  have hr0 : -1 ≤ a0 := by omega
  have hrm : a0 ≤ (m : Int) := by omega
  clear hbad
  have hnm : ¬ ((m : Int) < 0) := by omega
  have hrel0 : MonRel a0 m w w.heap.size (.int .i64 0) ((w.alloc (.cells #[.int .i64 (m : Int)] 3)).alloc (.cells #[.slice none 0 0] 23)) := by
   refine ⟨0, .slice none 0 0, rfl, by omega, by simp; omega, blk_alloc (blk_new w _) _, ?_, Kd.S_nil _ _ _ _ _, below_alloc (below_alloc (Below.refl _ _) _) _, by simp⟩
   have := blk_new (w.alloc (.cells #[.int .i64 (m : Int)] 3)) (.cells #[.slice none 0 0] 23)
   simpa using this
  have HREL := Aside0.mk hrel0
  clear hrel0
  go_enter Try.func9, Try.ntmps9
  go_wp2
  go_loopw [26] (fun u wr => MonRel a0 m w w.heap.size u wr) (fun u _ => (a0 + 1 - intOf u).toNat)
  case atStart => exact HREL.out
  case round =>
   clear HREL
   obtain ⟨s, vX, rfl, hs7, hsa, hb1, hb2, hS, hbel, hlt⟩ := hrel
   have HB1 := Aside0.mk hb1
   have HB2 := Aside0.mk hb2
   have HS := Aside0.mk hS
   have HBEL := Aside0.mk hbel
   have f2 : wr.cell? ⟨w.heap.size + 1, 0, none⟩ = some vX := (blk_cell hb2 0).trans rfl
   obtain ⟨AX, cX, eX⟩ := Kd.S_slice hS
   subst eX
   have hst := cap_start (s := s) hb1 hb2 hS hlt
   have HST := Aside0.mk hst
   clear hb1 hb2 hS hbel hst
   by_cases hsr : (s : Int) < a0 + 1
   ·have hsm : s < 8 := by omega
    have hlen := monsTo_small m (by omega) s hsm
    have HK := Aside0.mk (add_all m s (m : Int) 0 (some ⟨wr.heap.size + 2, 0, none⟩) 0 [] _ (monsTo m s) _ wr.heap.size (w.heap.size + 1) w.heap.size (wr.heap.size + 1) w.heap.size (by omega) (by omega) (by omega) hm hs7 HST.out.1 ⟨rfl, by simp, by simp⟩ (fun ad e hn => absurd hn (by simp)) (by simp) (by simp; omega) (by omega))
    clear hlen
    go_wp2_with (go_at_call 32; refine HK.out.mono ?_; rintro e w4 ⟨rfl, vo4, hcap4, hb4, hat4, hk4⟩)
    have hnext : MonRel a0 m w w.heap.size (.int .i64 ((s : Int) + 1)) w4 := ⟨s + 1, vo4, by simp, by omega, by omega, hcap4.hm, hcap4.ho, hcap4.own, (HBEL.out.trans (HST.out.2.mono HBEL.out.size)).trans hb4, by
     have := hb4.size
     have := HST.out.2.size
     omega⟩
    exact ⟨hnext, by simp [intOf]; omega⟩
   ·have hse : (s : Int) = a0 + 1 := by omega
    have e1 : (m : Int).toNat = m := rfl
    have e2 : (a0 + 1).toNat = s := by omega
    have HE := Aside0.mk e2
    clear e2
    go_wp2
    go_ret2
    refine ⟨_, rfl, ?_, HBEL.out⟩
    rw [HE.out]
    exact HS.out
end Go.Proofs.Ytjelamodjpepkaa.P
/- The walk of majority.decoded: the word as it came, and the list of the positions at which it differs from the received word. -/
namespace Go.Proofs.Ytjelamodjpepkaa.P
open Go.RowKit Go.Proofs.YtjelamodjpepkaaW.PrintWords Go.Proofs.YtjelamodjpepkaaW.PrintLast Go.Proofs.YtjelamodjpepkaaW.PrintMore Go.Proofs.Ytjelamodjpepkaa.B
attribute [local go_sem] max2_int min2_int max_two min_two max_three min_three max_four min_four
set_option linter.unusedVariables false
set_option linter.unusedSimpArgs false
/-- The positions below n at which the two lists differ. -/
def errsTo (a b : List Int) (n : Nat) : List Int := ((List.range n).filter fun i => a.getD i 0 != b.getD i 0).map Int.ofNat
theorem errsTo_len (a b : List Int) (n : Nat) : (errsTo a b n).length ≤ n := by
 unfold errsTo
 rw [List.length_map]
 have := List.length_filter_le (fun i => a.getD i 0 != b.getD i 0) (List.range n)
 simpa using this
theorem errsTo_yes (a b : List Int) (n : Nat) (h : a.getD n 0 ≠ b.getD n 0) : errsTo a b (n + 1) = errsTo a b n ++ [(n : Int)] := by
 unfold errsTo
 rw [List.range_succ, List.filter_append, List.map_append]
 congr 1
 rw [List.filter_cons_of_pos (by simpa using h)]; rfl
theorem errsTo_no (a b : List Int) (n : Nat) (h : a.getD n 0 = b.getD n 0) : errsTo a b (n + 1) = errsTo a b n := by
 unfold errsTo
 rw [List.range_succ, List.filter_append, List.map_append, List.filter_cons_of_neg (by simpa using h)]
 simp
def majority_decoded.f (l0 l1 : List Int) : Option (List Int × List Int) := if l0.length ≤ l1.length ∧ l0.length < 17592186044416 then some (l0, errsTo l0 l1 l0.length) else none
def DecRel (w : World) (B : Nat) (A0 : Option Addr) (c0 : Nat) (l0 l1 : List Int) (u : Value) (wr : World) : Prop :=
 ∃ (i : Nat) (vE : Value), u = .int .i64 i ∧ i ≤ l0.length ∧ wr.heap[B]? = some (.cells #[.slice none 0 0, .slice none 0 0] 38 (0, 0)) ∧ wr.heap[B + 1]? = some (.cells #[.slice A0 l0.length c0, vE] 38 (0, 0)) ∧
  Kd.R (Kd.int .i64) 3 wr B (fun _ => True) vE (errsTo l0 l1 i) ∧ Below B w wr ∧ B + 1 < wr.heap.size
theorem dec_next {w wr w1 : World} {B i : Nat} {A0 : Option Addr} {c0 : Nat} {l0 l1 : List Int} {vE v1 : Value} (h0 : wr.heap[B]? = some (.cells #[.slice none 0 0, .slice none 0 0] 38 (0, 0))) (h1 : wr.heap[B + 1]? = some (.cells #[.slice A0 l0.length c0, vE] 38 (0, 0)))
  (hR : Kd.R (Kd.int .i64) 3 wr B (fun _ => True) vE (errsTo l0 l1 i)) (hlt : B + 1 < wr.heap.size) (W0 : World) (hb2 : Below wr.heap.size wr W0) (hR1 : Kd.R (Kd.int .i64) 3 w1 B (fun _ => True) v1 (errsTo l0 l1 i ++ [(i : Int)])) (hb : Below B w w1) (hg : W0.grownBy w1 vE.ownBlock) (hne : l0.getD i 0 ≠ l1.getD i 0) (hi : i < l0.length) :
  w1.heap[B + 1]? = some (.cells #[.slice A0 l0.length c0, vE] 38 (0, 0)) ∧ DecRel w B A0 c0 l0 l1 (.int .i64 ((i : Int) + 1)) (w1.setCell ⟨B + 1, 1, none⟩ v1) := by
 have ne : ∀ (k : Nat) (cs : Array Value), wr.heap[k]? = some (.cells cs 38 (0, 0)) → w1.heap[k]? = some (.cells cs 38 (0, 0)) := by
  intro k cs hk
  have hlt2 : k < wr.heap.size := blk_lt hk
  rw [hg.block k (Nat.lt_of_lt_of_le hlt2 hb2.size) ?_, hb2.block k hlt2]
  ·exact hk
  ·intro e
   obtain ⟨cells, hc⟩ := Kd.R_typed hR k e.symm
   rw [hk] at hc
   injection hc with hc
   injection hc with _ hc
   exact absurd hc (by decide)
 have h2 := ne _ _ h1
 refine ⟨h2, i + 1, v1, by simp, hi, ?_, ?_, ?_, hb.setCell (by simp) _, ?_⟩
 ·rw [Below.heap_setCell w1 ⟨B + 1, 1, none⟩ v1 B (by simp)]
  exact ne _ _ h0
 ·have := blk_set h2 1 v1
  simpa using this
 ·rw [errsTo_yes l0 l1 i hne]
  exact Kd.R_set hR1 h2 (by simp [Kd.int, Kd.scalar]) 1 v1
 ·have := blk_lt h2
  simpa [World.setCell] using this
set_option maxHeartbeats 1000000 in
theorem majority_decoded.read (A0 : Option Addr) (c0 : Nat) (l0 : List Int) (A1 : Option Addr) (c1 : Nat) (l1 : List Int) (r0 r1 : List Int) (w : World) (hr0 : Kd.C (Kd.int .i64) w A0 l0.length l0) (hc0 : l0.length ≤ c0) (hr1 : Kd.C (Kd.int .i64) w A1 l1.length l1) (hc1 : l1.length ≤ c1) (h : majority_decoded.f l0 l1 = some (r0, r1)) :
  Calls Try.prog 41 #[.slice A0 l0.length c0, .slice A1 l1.length c1] w fun e w' => ∃ v1_ : Value, e = .returned (.agg #[.slice A0 l0.length c0, v1_]) ∧ Kd.R (Kd.int .i64) 3 w' w.heap.size (fun _ => True) v1_ r1 ∧ r0 = l0 ∧ Below w.heap.size w w' := by
 unfold majority_decoded.f at h
 by_cases hc : l0.length ≤ l1.length ∧ l0.length < 17592186044416
 ·rw [if_pos hc] at h
  obtain ⟨rfl, rfl⟩ := Prod.mk.inj (Option.some.inj h)
  obtain ⟨hll, hls⟩ := hc
  clear h
  have HR0 := Aside0.mk hr0
  have HR1 := Aside0.mk hr1
  clear hr0 hr1 hc0 hc1
  have hrel0 : DecRel w w.heap.size A0 c0 l0 l1 (.int .i64 0) ((w.alloc (.cells #[.slice none 0 0, .slice none 0 0] 38)).alloc (.cells #[.slice A0 l0.length c0, .slice none 0 0] 38)) := by
   refine ⟨0, .slice none 0 0, rfl, by omega, blk_alloc (blk_new w _) _, ?_, Kd.R_nil _ _ _ _ _, below_alloc (below_alloc (Below.refl _ _) _) _, by simp⟩
   have := blk_new (w.alloc (.cells #[.slice none 0 0, .slice none 0 0] 38)) (.cells #[.slice A0 l0.length c0, .slice none 0 0] 38)
   simpa using this
  have HREL := Aside0.mk hrel0
  clear hrel0
  go_enter Try.func41, Try.ntmps41
  go_wp2
  go_loopw [11] (fun u wr => DecRel w w.heap.size A0 c0 l0 l1 u wr) (fun u _ => l0.length - (intOf u).toNat)
  case atStart => exact HREL.out
  case round =>
   clear HREL
   obtain ⟨i, vE, rfl, hil, hb0, hb1, hR, hbel, hlt⟩ := hrel
   have HB0 := Aside0.mk hb0
   have HR := Aside0.mk hR
   have HBEL := Aside0.mk hbel
   obtain ⟨AE, cE, eE⟩ := Kd.R_slice hR
   subst eE
   have HB1 := Aside0.mk hb1
   have f00 : wr.cell? ⟨w.heap.size + 1, 0, none⟩ = some (.slice A0 l0.length c0) := (blk_cell HB1.out 0).trans rfl
   have f01 : wr.cell? ⟨w.heap.size + 1, 1, none⟩ = some (.slice AE (errsTo l0 l1 i).length cE) := (blk_cell HB1.out 1).trans rfl
   have g00 : wr.cell? ⟨w.heap.size, 0, none⟩ = some (.slice none 0 0) := (blk_cell HB0.out 0).trans rfl
   have g01 : wr.cell? ⟨w.heap.size, 1, none⟩ = some (.slice none 0 0) := (blk_cell HB0.out 1).trans rfl
   have z0 := blk_frozen HB0.out 0
   have z1 := blk_frozen HB0.out 1
   clear hR hb0 hb1 hbel
   by_cases hin : i < l0.length
   ·obtain ⟨ad0, e0, hx0⟩ := Kd.at_int (Kd.C_below HR0.out HBEL.out) (i : Int) (by omega) (by omega)
    obtain ⟨ad1, e1, hx1⟩ := Kd.at_int (Kd.C_below HR1.out HBEL.out) (i : Int) (by omega) (by omega)
    cases e0
    cases e1
    have e2 : rd l0 (i : Int) = l0.getD i 0 := rfl
    have e3 : rd l1 (i : Int) = l1.getD i 0 := rfl
    rw [e2, toNat_nat] at hx0
    rw [e3, toNat_nat] at hx1
    clear e2 e3
    have HIN := Aside0.mk hin
    by_cases hd : l0.getD i 0 = l1.getD i 0
    ·have hnext : ∀ nq, DecRel w w.heap.size (some ad0) c0 l0 l1 (.int .i64 ((i : Int) + 1)) (wr.drewN nq) := fun nq => ⟨i + 1, _, by simp, hin, HB0.out, HB1.out, by rw [errsTo_no l0 l1 i hd]; exact Kd.R_drewN HR.out nq, pw_below_drewN HBEL.out nq, hlt⟩
     have HNEXT := Aside0.mk hnext
     have hb : (l0.getD i 0 != l1.getD i 0) = false := bne_eq_false_iff_eq.2 hd
     clear hnext hd
     generalize l0.getD i 0 = a at hx0 hb
     generalize l1.getD i 0 = b at hx1 hb
     go_wp2
     go_quiet (fail)
     go_wp2
     exact ⟨HNEXT.out _, by simp [intOf]; omega⟩
    ·have HD := Aside0.mk hd
     have hb : (l0.getD i 0 != l1.getD i 0) = true := bne_iff_ne.2 hd
     have z2 := blk_frozen HB1.out 1
     clear hd
     generalize l0.getD i 0 = a at hx0 hb
     generalize l1.getD i 0 = b at hx1 hb
     go_wp2
     go_quiet (fail)
     go_wp2_with (at_builtin; refine Kd.R_append (Kd.int .i64) (w0 := w) w.heap.size rfl (.tmp 24) (.tmp 26) 22 3 (.int .i64 0) 8 rfl Try.underlying22 info3 rfl (by decide) (by omega) (.slice AE (errsTo l0 l1 i).length cE) (errsTo l0 l1 i) (i : Int) _ (fun _ => True) (fun _ => False) rfl rfl ?hp ?hokp ?hfresh ?HO ?HB ?hbase ?hl ?_; (case hp => exact rfl); (case hokp => exact fun _ h => h.elim); (case hfresh => exact fun _ _ => trivial); (case HO => exact Kd.R_drewN HR.out _); (case HB => exact pw_below_drewN HBEL.out _); (case hbase => exact HBEL.out.size); (case hl => have := errsTo_len l0 l1 i; omega); intro v1 w1 hR1 hb1 hg1 _; obtain ⟨h2, hn⟩ := dec_next HB0.out HB1.out HR.out hlt _ (pw_below_drewN (Below.refl _ _) _) hR1 hb1 hg1 HD.out HIN.out; obtain ⟨A1', c1', e1'⟩ := Kd.R_slice hR1; subst e1'; have f5 : w1.cell? ⟨w.heap.size + 1, 1, none⟩ = some (.slice AE (errsTo l0 l1 i).length cE) := (blk_cell h2 1).trans rfl; have z5 := blk_frozen h2 1; have HN := Aside0.mk hn; clear hR1 hb1 hg1 h2 hn)
     have hn := HN.out
     rw [show (errsTo l0 l1 i ++ [(i : Int)]).length = (errsTo l0 l1 i).length + 1 from by simp] at hn
     exact ⟨hn, by simp [intOf]; omega⟩
   ·have hie : i = l0.length := by omega
    have HIE := Aside0.mk hie
    clear hie
    go_wp2
    refine bodyPost_ret (results_cell_row rfl _ _ w.heap.size 38 #[.slice A0 l0.length c0, .slice AE (errsTo l0 l1 i).length cE] (0, 0) _ rfl ?_ Try.underlying38 rfl (by kernel_rfl)) rfl ?_
    ·have := blk_set (blk_set HB0.out 0 (.slice A0 l0.length c0)) 1 (.slice AE (errsTo l0 l1 i).length cE)
     simpa using this
    ·refine ⟨_, rfl, ?_, trivial, (HBEL.out.setCell (Nat.le_refl _) _).setCell (Nat.le_refl _) _⟩
     have := Kd.R_set (Kd.R_set HR.out HB0.out (by simp [Kd.int, Kd.scalar]) 0 (.slice A0 l0.length c0)) (blk_set HB0.out 0 (.slice A0 l0.length c0)) (by simp [Kd.int, Kd.scalar]) 1 (.slice AE (errsTo l0 l1 i).length cE)
     have e := HIE.out
     subst e
     exact this
 ·rw [if_neg hc] at h
  cases h
theorem majority_decoded.calls (P0_ : Nat → Prop) (u9000_ : Value) (l0 : List Int) (A1 : Option Addr) (c1 : Nat) (l1 : List Int) (r1 : List Int) (r2 : List Int) (w0 w : World) (hB : Below w0.heap.size w0 w) (ho0 : Kd.R (Kd.int .i64) 3 w w0.heap.size P0_ u9000_ l0) (hr1 : ∀ W_, Kept w W_ (fun k_ => P0_ k_) → Kd.C (Kd.int .i64) W_ A1 l1.length l1) (hc1 : l1.length ≤ c1) (h : majority_decoded.f l0 l1 = some (r1, r2)) :
  Calls Try.prog 41 #[u9000_, .slice A1 l1.length c1] w fun e w' => ∃ v0_ v1_ : Value, e = .returned (.agg #[v0_, v1_]) ∧ Kd.R (Kd.int .i64) 3 w' w0.heap.size (fun k_ => (P0_ k_ ∨ w.heap.size ≤ k_) ∧ some k_ ≠ (v1_ : Value).ownBlock) v0_ r1 ∧ Kd.R (Kd.int .i64) 3 w' w0.heap.size (fun k_ => (P0_ k_ ∨ w.heap.size ≤ k_) ∧ some k_ ≠ (v0_ : Value).ownBlock) v1_ r2 ∧ Below w0.heap.size w0 w' ∧ Kept w w' (fun k_ => P0_ k_) := by
 obtain ⟨A0, c0, rfl⟩ := Kd.R_slice ho0
 obtain ⟨_, hle, hC⟩ := Kd.R_reads' ho0
 refine (majority_decoded.read A0 c0 l0 A1 c1 l1 r1 r2 w hC hle (hr1 w (Kept.refl _ _)) hc1 h).mono ?_
 rintro e w' ⟨v1, rfl, hR, rfl, hb⟩
 refine ⟨_, v1, rfl, ?_, ?_, hB.trans (hb.mono hB.size), Kept.of_below hb _⟩
 ·refine Kd.R_below (Kd.R_mono (Kd.R_bound ho0) ?_) hb
  intro k hk
  exact ⟨.inl hk.1, fun e => by have := Kd.R_base hR k e.symm; have := hk.2.2; omega⟩
 ·refine Kd.R_lower (Kd.R_mono (Kd.R_bound hR) ?_) hB.size
  intro k hk
  exact ⟨.inr hk.2.1, Kd.fresh' (Kd.R_lt ho0) k hk.2.1⟩
end Go.Proofs.Ytjelamodjpepkaa.P
