/- Small words that the proofs over the printed functions share: 'from some number of rounds on', and arithmetic of int64. -/
import Derived.Test.YtjelamodjpepkaaVdWMore
namespace Go.Proofs.Ytjelamodjpepkaa.B
open Go.RowKit Go.Proofs.YtjelamodjpepkaaW.PrintWords Go.Proofs.YtjelamodjpepkaaW.PrintMore
set_option linter.unusedVariables false

/-- From some number of rounds on, g tells r. -/
def Tl {α : Type} (g : Nat → Option α) (r : α) : Prop := ∃ K, ∀ k, K ≤ k → g k = some r
theorem Tl.now {α : Type} (r : α) : Tl (fun _ => some r) r := ⟨0, fun _ _ => rfl⟩
theorem Tl.get {α : Type} {g : Nat → Option α} {r : α} (h : Tl g r) : ∃ k, g k = some r := by
  obtain ⟨K, h⟩ := h
  exact ⟨K, h K (Nat.le_refl _)⟩
theorem Tl.congr {α : Type} {g f : Nat → Option α} {r : α} (h : ∀ k, g k = f k) (t : Tl f r) : Tl g r := by
  obtain ⟨K, t⟩ := t
  exact ⟨K, fun n hn => (h n).trans (t n hn)⟩
theorem Tl.step {α : Type} {g f : Nat → Option α} {r : α} (h : ∀ k, g (k + 1) = f k) (t : Tl f r) : Tl g r := by
  obtain ⟨K, t⟩ := t
  refine ⟨K + 1, fun n hn => ?_⟩
  obtain ⟨m, rfl⟩ : ∃ m, n = m + 1 := ⟨n - 1, by omega⟩
  rw [h]
  exact t m (by omega)
theorem Tl.bind {α β : Type} {g : Nat → Option α} {f : Nat → α → Option β} {a : α} {r : β} (h : Tl g a) (t : Tl (fun n => f n a) r) : Tl (fun n => (g n).bind (f n)) r := by
  obtain ⟨K, h⟩ := h
  obtain ⟨K', t⟩ := t
  refine ⟨max K K', fun n hn => ?_⟩
  have h1 := h n (by omega)
  have h2 := t n (by omega)
  simp only [h1, Option.bind_some]
  exact h2
theorem Tl.bind1 {α β : Type} {g : Option α} {f : Nat → α → Option β} {a : α} {r : β} (h : g = some a) (t : Tl (fun n => f n a) r) : Tl (fun n => g.bind (f n)) r := by
  subst h; exact t
theorem Tl.pos {α : Type} {c : Prop} [Decidable c] {f g : Nat → Option α} {r : α} (h : c) (t : Tl f r) : Tl (fun k => if c then f k else g k) r := Tl.congr (fun _ => if_pos h) t
theorem Tl.neg {α : Type} {c : Prop} [Decidable c] {f g : Nat → Option α} {r : α} (h : ¬ c) (t : Tl g r) : Tl (fun k => if c then f k else g k) r := Tl.congr (fun _ => if_neg h) t
theorem Tl.val {α : Type} {g : Nat → Option α} {r r' : α} (h : r = r') (t : Tl g r) : Tl g r' := h ▸ t
/-- A function without rounds. -/
theorem Tl.one {α : Type} {o : Option α} {r : α} (h : o = some r) : Tl (fun _ => o) r := ⟨0, fun _ _ => h⟩

theorem w64 {n : Int} (h0 : -9223372036854775808 ≤ n) (h1 : n ≤ 9223372036854775807) : wrap64 n = n := by unfold wrap64; omega
theorem w64s (i : Nat) (h : i < 9223372036854775807) : wrap64 ((i : Int) + 1) = ((i + 1 : Nat) : Int) := by rw [w64 (by omega) (by omega)]; omega
theorem u64 {n : Int} (h0 : 0 ≤ n) (h1 : n ≤ 18446744073709551615) : IntKind.u64.wrap n = n := by simp [IntKind.wrap, IntKind.bits, IntKind.signed]; omega
theorem i64w {n : Int} (h0 : -9223372036854775808 ≤ n) (h1 : n ≤ 9223372036854775807) : IntKind.i64.wrap n = n := by rw [IntKind.wrap_i64]; omega
theorem rd_nat (xs : List Int) (i : Nat) : rd xs (i : Int) = xs.getD i 0 := rfl

theorem bits_nat (a b : Nat) (ha : a < 2 ^ 62) (hb : b < 2 ^ 62) :
    Go.bits .and .i64 (a : Int) (b : Int) = ((a &&& b : Nat) : Int) ∧ Go.bits .or .i64 (a : Int) (b : Int) = ((a ||| b : Nat) : Int) := 
  Go.bits_nat .i64 62 (by decide) (fun n h0 h1 => i64w (by omega) (by omega)) a b ha hb
theorem bits_xor (a b : Nat) (ha : a < 2 ^ 62) (hb : b < 2 ^ 62) : Go.bits .xor .i64 (a : Int) (b : Int) = ((a ^^^ b : Nat) : Int) := by
  have ha' : a % 2 ^ 64 = a := Nat.mod_eq_of_lt (by omega)
  have hb' : b % 2 ^ 64 = b := Nat.mod_eq_of_lt (by omega)
  have hx : a ^^^ b < 2 ^ 62 := Nat.xor_lt_two_pow ha hb
  have e : Go.bits .xor .i64 (a : Int) (b : Int) = IntKind.i64.wrap ((a ^^^ b : Nat) : Int) := by
    show IntKind.i64.wrap ((BitVec.ofInt 64 (a : Int) ^^^ BitVec.ofInt 64 (b : Int)).toNat : Int) = _
    rw [BitVec.toNat_xor, BitVec.ofInt_natCast, BitVec.ofInt_natCast, BitVec.toNat_ofNat, BitVec.toNat_ofNat, ha', hb']
  rw [e]
  exact i64w (by omega) (by omega)
theorem bits_andNot (a b : Nat) (ha : a < 64) (hb : b < 64) : Go.bits .andNot .i64 (a : Int) (b : Int) = ((a - (a &&& b) : Nat) : Int) := by
  have h : ∀ a, a < 64 → ∀ b, b < 64 → Go.bits .andNot .i64 ((a : Nat) : Int) ((b : Nat) : Int) = ((a - (a &&& b) : Nat) : Int) := by decide +kernel
  exact h a ha b hb
theorem shl1 (n : Nat) (h : n < 62) : shl .i64 1 (n : Int) = ((2 ^ n : Nat) : Int) := by
  have h2 : 2 ^ n < 2 ^ 62 := Nat.pow_lt_pow_right (by decide) h
  have e : min (n : Int).toNat IntKind.i64.bits = n := by
    rw [Int.toNat_natCast]; show min n 64 = n; omega
  have e2 : (1 : Int) * 2 ^ n = ((2 ^ n : Nat) : Int) := by rw [Int.one_mul]; exact (Int.natCast_pow 2 n).symm
  unfold shl
  rw [e, e2]
  generalize 2 ^ n = q at h2
  exact i64w (by omega) (by omega)

/-! ### Tables -/
def tab {α : Type} (n : Nat) (g : Nat → α) : List α := (List.range n).map g
section
variable {α : Type} {n : Nat} {g h : Nat → α}
@[simp] theorem tab_length : (tab n g).length = n := by simp [tab]
theorem tab_get (i : Nat) (hi : i < n) : (tab n g)[i]? = some (g i) := by simp [tab, hi]
theorem tab_getD (i : Nat) (d : α) (hi : i < n) : (tab n g).getD i d = g i := by simp [tab, List.getD_eq_getElem?_getD, hi]
theorem tab_rd {g : Nat → Int} (i : Nat) (hi : i < n) : rd (tab n g) (i : Int) = g i := tab_getD i 0 hi
theorem tab_congr (e : ∀ p, p < n → g p = h p) : tab n g = tab n h := by
  unfold tab
  exact List.map_congr_left fun p hp => e p (by simpa using hp)
theorem tab_ext {xs : List α} (hl : xs.length = n) (e : ∀ p, p < n → xs[p]? = some (g p)) : xs = tab n g := by
  apply List.ext_getElem?
  intro i
  by_cases hi : i < n
  · rw [e i hi, tab_get i hi]
  · rw [List.getElem?_eq_none (by omega), List.getElem?_eq_none (by simp; omega)]
theorem tab_of (xs : List Int) : xs = tab xs.length (fun p => xs.getD p 0) :=
  tab_ext rfl fun p hp => by rw [List.getD_eq_getElem?_getD, List.getElem?_eq_getElem hp]; rfl
theorem tab_set (i : Nat) (v : α) (hi : i < n) : (tab n g).set i v = tab n (fun p => if p = i then v else g p) := by
  refine tab_ext (by simp) fun p hp => ?_
  rw [List.getElem?_set]
  by_cases e : i = p
  · subst e; simp [hi]
  · rw [if_neg e, tab_get p hp, if_neg (fun h => e h.symm)]
theorem tab_rep (n : Nat) (v : α) : List.replicate n v = tab n (fun _ => v) := by
  refine tab_ext (by simp) fun p hp => ?_
  rw [List.getElem?_replicate, if_pos hp]
theorem tab_inj (e : tab n g = tab n h) (p : Nat) (hp : p < n) : g p = h p := by
  have := congrArg (fun l => l[p]?) e
  simpa [tab_get p hp] using this
end
theorem ite_iff {α : Type} {c d : Prop} [Decidable c] [Decidable d] {a b : α} (h : c ↔ d) : (if c then a else b) = if d then a else b := by
  by_cases hc : c
  · rw [if_pos hc, if_pos (h.1 hc)]
  · rw [if_neg hc, if_neg (fun hd => hc (h.2 hd))]
theorem toNat_nat (i : Nat) : ((i : Int)).toNat = i := rfl
end Go.Proofs.Ytjelamodjpepkaa.B
