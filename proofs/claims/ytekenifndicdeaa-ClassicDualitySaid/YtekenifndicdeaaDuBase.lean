import Derived.Test.YtekenifndicdeaaWMore
namespace Go.Proofs.Ytekenifndicdeaa.B
open Go.RowKit Go.Proofs.YtekenifndicdeaaW.PrintWords Go.Proofs.YtekenifndicdeaaW.PrintMore
set_option linter.unusedVariables false

/-- From some number of rounds on, g tells r. -/
def Tl {α : Type} (g : Nat → Option α) (r : α) : Prop := ∃ K, ∀ k, K ≤ k → g k = some r
theorem Tl.now {α : Type} (r : α) : Tl (fun _ => some r) r := ⟨0, fun _ _ => rfl⟩
theorem Tl.congr {α : Type} {g f : Nat → Option α} {r : α} (h : ∀ k, g k = f k) (t : Tl f r) : Tl g r := by
  obtain ⟨K, t⟩ := t
  exact ⟨K, fun n hn => (h n).trans (t n hn)⟩
theorem Tl.step {α : Type} {g f : Nat → Option α} {r : α} (h : ∀ k, g (k + 1) = f k) (t : Tl f r) : Tl g r := by
  obtain ⟨K, t⟩ := t
  refine ⟨K + 1, fun n hn => ?_⟩
  obtain ⟨m, rfl⟩ : ∃ m, n = m + 1 := ⟨n - 1, by omega⟩
  rw [h]
  exact t m (by omega)
theorem Tl.bind {α β : Type} {g : Nat → Option α} {f : Nat → α → Option β} {a : α} {r : β} (h : Tl g a) (t : Tl (fun n => f n a) r) : Tl (fun n => (g n).bind (f n)) r := by
  obtain ⟨K, h⟩ := h
  obtain ⟨K', t⟩ := t
  refine ⟨max K K', fun n hn => ?_⟩
  have h1 := h n (by omega)
  have h2 := t n (by omega)
  simp only [h1, Option.bind_some]
  exact h2
theorem Tl.pos {α : Type} {c : Prop} [Decidable c] {f g : Nat → Option α} {r : α} (h : c) (t : Tl f r) : Tl (fun k => if c then f k else g k) r := Tl.congr (fun _ => if_pos h) t
theorem Tl.neg {α : Type} {c : Prop} [Decidable c] {f g : Nat → Option α} {r : α} (h : ¬ c) (t : Tl g r) : Tl (fun k => if c then f k else g k) r := Tl.congr (fun _ => if_neg h) t
/-- A function without rounds. -/
theorem Tl.one {α : Type} {o : Option α} {r : α} (h : o = some r) : Tl (fun _ => o) r := ⟨0, fun _ _ => h⟩

theorem w64 {n : Int} (h0 : -9223372036854775808 ≤ n) (h1 : n ≤ 9223372036854775807) : wrap64 n = n := by unfold wrap64; omega
theorem i64w {n : Int} (h0 : -9223372036854775808 ≤ n) (h1 : n ≤ 9223372036854775807) : IntKind.i64.wrap n = n := by rw [IntKind.wrap_i64]; omega
theorem bits_nat (a b : Nat) (ha : a < 2 ^ 62) (hb : b < 2 ^ 62) :
    Go.bits .and .i64 (a : Int) (b : Int) = ((a &&& b : Nat) : Int) ∧ Go.bits .or .i64 (a : Int) (b : Int) = ((a ||| b : Nat) : Int) := 
  Go.bits_nat .i64 62 (by decide) (fun n h0 h1 => i64w (by omega) (by omega)) a b ha hb
/-! ### Tables -/
def tab {α : Type} (n : Nat) (g : Nat → α) : List α := (List.range n).map g
section
variable {α : Type} {n : Nat} {g h : Nat → α}
@[simp] theorem tab_length : (tab n g).length = n := by simp [tab]
theorem tab_get (i : Nat) (hi : i < n) : (tab n g)[i]? = some (g i) := by simp [tab, hi]
theorem tab_getD (i : Nat) (d : α) (hi : i < n) : (tab n g).getD i d = g i := by simp [tab, List.getD_eq_getElem?_getD, hi]
theorem tab_congr (e : ∀ p, p < n → g p = h p) : tab n g = tab n h := by
  unfold tab
  exact List.map_congr_left fun p hp => e p (by simpa using hp)
theorem tab_ext {xs : List α} (hl : xs.length = n) (e : ∀ p, p < n → xs[p]? = some (g p)) : xs = tab n g := by
  apply List.ext_getElem?
  intro i
  by_cases hi : i < n
  · rw [e i hi, tab_get i hi]
  · rw [List.getElem?_eq_none (by omega), List.getElem?_eq_none (by simp; omega)]
theorem tab_of (xs : List Int) : xs = tab xs.length (fun p => xs.getD p 0) :=
  tab_ext rfl fun p hp => by rw [List.getD_eq_getElem?_getD, List.getElem?_eq_getElem hp]; rfl
theorem tab_set (i : Nat) (v : α) (hi : i < n) : (tab n g).set i v = tab n (fun p => if p = i then v else g p) := by
  refine tab_ext (by simp) fun p hp => ?_
  rw [List.getElem?_set]
  by_cases e : i = p
  · subst e; simp [hi]
  · rw [if_neg e, tab_get p hp, if_neg (fun h => e h.symm)]
theorem tab_rep (n : Nat) (v : α) : List.replicate n v = tab n (fun _ => v) := by
  refine tab_ext (by simp) fun p hp => ?_
  rw [List.getElem?_replicate, if_pos hp]
end
theorem ite_iff {α : Type} {c d : Prop} [Decidable c] [Decidable d] {a b : α} (h : c ↔ d) : (if c then a else b) = if d then a else b := by
  by_cases hc : c
  · rw [if_pos hc, if_pos (h.1 hc)]
  · rw [if_neg hc, if_neg (fun hd => hc (h.2 hd))]
theorem toNat_nat (i : Nat) : ((i : Int)).toNat = i := rfl
end Go.Proofs.Ytekenifndicdeaa.B
namespace Go.Proofs.Ytekenifndicdeaa.B
set_option linter.unusedVariables false

/-- The operations of a field of numbers; El: its elements. -/
structure Ops where
  El : Int → Prop
  mul : Int → Int → Int
  add : Int → Int → Int
  neg : Int → Int
  inv : Int → Int
def ElL (G : Ops) (x : List Int) : Prop := ∀ v ∈ x, G.El v
def scaleS (G : Ops) (a : Int) (x : List Int) : List Int := x.map (G.mul a)
def addToS (G : Ops) (x : List Int) (a : Int) (y : List Int) : List Int := tab x.length fun i => if y.getD i 0 = 0 then x.getD i 0 else G.add (x.getD i 0) (G.mul a (y.getD i 0))
theorem map_tab (f : Int → Int) (x : List Int) : x.map f = tab x.length fun i => f (x.getD i 0) := by
  refine tab_ext (by simp) fun p hp => ?_
  rw [List.getElem?_map, List.getD_eq_getElem?_getD, List.getElem?_eq_getElem hp]; rfl
def ent (l : List (List Int)) (i c : Nat) : Int := (l.getD i []).getD c 0
/-- The first row from i on whose entry at c is not zero. -/
def findP (l : List (List Int)) (c : Nat) : Nat → Nat → Nat
  | 0, i => i
  | d + 1, i => if ent l i c = 0 then findP l c d (i + 1) else i
def swapS (l : List (List Int)) (a k : Nat) : List (List Int) := (l.set a (l.getD k [])).set k (l.getD a [])
def pivS (G : Ops) (l : List (List Int)) (a c : Nat) : List (List Int) := if ent l a c = 1 then l else l.set a (scaleS G (G.inv (ent l a c)) (l.getD a []))
def clearS (G : Ops) (l : List (List Int)) (a c : Nat) : List (List Int) := tab l.length fun i => if i = a ∨ ent l i c = 0 then l.getD i [] else addToS G (l.getD i []) (G.neg (ent l i c)) (l.getD a [])
def elimGo (G : Ops) : Nat → Nat → Nat → List (List Int) → List Int → List (List Int) × List Int
  | 0, _, _, l, pv => (l, pv)
  | d + 1, c, a, l, pv => if a < l.length then
      (if findP l c (l.length - a) a = l.length then elimGo G d (c + 1) a l pv
      else elimGo G d (c + 1) (a + 1) (clearS G (pivS G (swapS l a (findP l c (l.length - a) a)) a c) a c) (pv ++ [(c : Int)]))
    else (l, pv)
def elimS (G : Ops) (l : List (List Int)) (cols : Nat) : List (List Int) × List Int := elimGo G cols 0 0 l []
/-- A matrix over the field, with rows of the length n. -/
def Mat (G : Ops) (n : Nat) (l : List (List Int)) : Prop := ∀ r ∈ l, r.length = n ∧ ElL G r
theorem Mat_get {G : Ops} {n : Nat} {l : List (List Int)} (h : Mat G n l) (i : Nat) (hi : i < l.length) : (l.getD i []).length = n ∧ ElL G (l.getD i []) := by
  rw [List.getD_eq_getElem?_getD, List.getElem?_eq_getElem hi]
  exact h _ (List.getElem_mem hi)
theorem Mat_set {G : Ops} {n : Nat} {l : List (List Int)} (h : Mat G n l) (i : Nat) (r : List Int) (hr : r.length = n ∧ ElL G r) : Mat G n (l.set i r) := fun x hx => by
  rcases List.mem_or_eq_of_mem_set hx with h1 | h1
  · exact h x h1
  · rw [h1]; exact hr
theorem findP_le (l : List (List Int)) (c : Nat) : ∀ d i, i ≤ findP l c d i ∧ findP l c d i ≤ i + d
  | 0, i => ⟨Nat.le_refl _, Nat.le_refl _⟩
  | d + 1, i => by
    unfold findP
    split
    · have := findP_le l c d (i + 1)
      omega
    · omega
theorem findP_ne (l : List (List Int)) (c : Nat) : ∀ d i, findP l c d i < i + d → ent l (findP l c d i) c ≠ 0
  | 0, i, h => by unfold findP at h; omega
  | d + 1, i, h => by
    unfold findP at h ⊢
    by_cases hz : ent l i c = 0
    · rw [if_pos hz] at h ⊢
      exact findP_ne l c d (i + 1) (by omega)
    · rw [if_neg hz]; exact hz
theorem swap_ent {l : List (List Int)} (a k c : Nat) (ha : a < l.length) (hk : k < l.length) : ent (swapS l a k) a c = ent l k c := by
  have e : (swapS l a k).getD a [] = l.getD k [] := by
    unfold swapS
    rw [List.getD_eq_getElem?_getD, List.getElem?_set, List.getElem?_set]
    by_cases e : k = a
    · subst e; simp [ha]
    · simp [e, ha]
  unfold ent
  rw [e]
theorem swap_len {l : List (List Int)} (a k : Nat) : (swapS l a k).length = l.length := by simp [swapS]
end Go.Proofs.Ytekenifndicdeaa.B
namespace Go.Proofs.Ytekenifndicdeaa.B
set_option linter.unusedVariables false
set_option linter.unusedSectionVars false

/-- The laws of a field. -/
structure Fld (G : Ops) : Prop where
  zero : G.El 0
  one : G.El 1
  addE : ∀ a b, G.El a → G.El b → G.El (G.add a b)
  mulE : ∀ a b, G.El a → G.El b → G.El (G.mul a b)
  negE : ∀ a, G.El a → G.El (G.neg a)
  invE : ∀ a, G.El a → a ≠ 0 → G.El (G.inv a)
  addC : ∀ a b, G.El a → G.El b → G.add a b = G.add b a
  addA : ∀ a b c, G.El a → G.El b → G.El c → G.add (G.add a b) c = G.add a (G.add b c)
  add0 : ∀ a, G.El a → G.add a 0 = a
  addN : ∀ a, G.El a → G.add a (G.neg a) = 0
  mulC : ∀ a b, G.El a → G.El b → G.mul a b = G.mul b a
  mulA : ∀ a b c, G.El a → G.El b → G.El c → G.mul (G.mul a b) c = G.mul a (G.mul b c)
  mul1 : ∀ a, G.El a → G.mul 1 a = a
  dist : ∀ a b c, G.El a → G.El b → G.El c → G.mul a (G.add b c) = G.add (G.mul a b) (G.mul a c)
  mulI : ∀ a, G.El a → a ≠ 0 → G.mul (G.inv a) a = 1
section
variable {G : Ops} (h : Fld G)
include h
theorem Fld.zadd {a : Int} (ha : G.El a) : G.add 0 a = a := by rw [h.addC _ _ h.zero ha, h.add0 _ ha]
theorem Fld.nadd {a : Int} (ha : G.El a) : G.add (G.neg a) a = 0 := by rw [h.addC _ _ (h.negE _ ha) ha, h.addN _ ha]
theorem Fld.cancel {a b c : Int} (ha : G.El a) (hb : G.El b) (hc : G.El c) (e : G.add a b = G.add a c) : b = c := by
  have e1 := congrArg (G.add (G.neg a)) e
  rw [← h.addA _ _ _ (h.negE _ ha) ha hb, ← h.addA _ _ _ (h.negE _ ha) ha hc, h.nadd ha, h.zadd hb, h.zadd hc] at e1
  exact e1
theorem Fld.mul0 {a : Int} (ha : G.El a) : G.mul a 0 = 0 := by
  have e := h.dist a 0 0 ha h.zero h.zero
  rw [h.add0 _ h.zero] at e
  have hm := h.mulE _ _ ha h.zero
  exact (h.cancel hm hm h.zero (by rw [← e, h.add0 _ hm])).symm ▸ rfl
theorem Fld.zmul {a : Int} (ha : G.El a) : G.mul 0 a = 0 := by rw [h.mulC _ _ h.zero ha, h.mul0 ha]
theorem Fld.dist2 {a b c : Int} (ha : G.El a) (hb : G.El b) (hc : G.El c) : G.mul (G.add a b) c = G.add (G.mul a c) (G.mul b c) := by
  rw [h.mulC _ _ (h.addE _ _ ha hb) hc, h.dist _ _ _ hc ha hb, h.mulC _ _ hc ha, h.mulC _ _ hc hb]
theorem Fld.neg_unique {a b : Int} (ha : G.El a) (hb : G.El b) (e : G.add a b = 0) : b = G.neg a := h.cancel ha hb (h.negE _ ha) (by rw [e, h.addN _ ha])
theorem Fld.neg0 : G.neg 0 = 0 := (h.neg_unique h.zero h.zero (h.add0 _ h.zero)).symm
theorem Fld.negM {a b : Int} (ha : G.El a) (hb : G.El b) : G.mul (G.neg a) b = G.neg (G.mul a b) := by
  refine h.neg_unique (h.mulE _ _ ha hb) (h.mulE _ _ (h.negE _ ha) hb) ?_
  rw [← h.dist2 ha (h.negE _ ha) hb, h.addN _ ha, h.zmul hb]
theorem Fld.negneg {a : Int} (ha : G.El a) : G.neg (G.neg a) = a := (h.neg_unique (h.negE _ ha) ha (h.nadd ha)).symm
/-- x + a y + (- a) y = x -/
theorem Fld.back {x a y : Int} (hx : G.El x) (ha : G.El a) (hy : G.El y) : G.add (G.add x (G.mul a y)) (G.mul (G.neg a) y) = x := by
  have hm := h.mulE _ _ ha hy
  rw [h.negM ha hy, h.addA _ _ _ hx hm (h.negE _ hm), h.addN _ hm, h.add0 _ hx]
/-- x + a (y + b r) = (x + a y) + (a b) r -/
theorem Fld.nest {x a y b r : Int} (hx : G.El x) (ha : G.El a) (hy : G.El y) (hb : G.El b) (hr : G.El r) : G.add x (G.mul a (G.add y (G.mul b r))) = G.add (G.add x (G.mul a y)) (G.mul (G.mul a b) r) := by
  have hbr := h.mulE _ _ hb hr
  rw [h.dist _ _ _ ha hy hbr, ← h.addA _ _ _ hx (h.mulE _ _ ha hy) (h.mulE _ _ ha hbr), ← h.mulA _ _ _ ha hb hr]
end
/-! ### Rows -/
/-- A row of the length n. -/
def Row (G : Ops) (n : Nat) (x : List Int) : Prop := x.length = n ∧ ElL G x
theorem row_get {G : Ops} (h : Fld G) {n : Nat} {x : List Int} (hx : Row G n x) (i : Nat) : G.El (x.getD i 0) := by
  rw [List.getD_eq_getElem?_getD]
  by_cases hi : i < x.length
  · rw [List.getElem?_eq_getElem hi]; exact hx.2 _ (List.getElem_mem hi)
  · rw [List.getElem?_eq_none (by omega)]; exact h.zero
theorem row_ext {n : Nat} {x y : List Int} (hx : x.length = n) (hy : y.length = n) (e : ∀ i, i < n → x.getD i 0 = y.getD i 0) : x = y := by
  rw [tab_of x, tab_of y, hx, hy]
  exact tab_congr e
theorem getD_out {x : List Int} {i : Nat} (h : x.length ≤ i) : x.getD i 0 = 0 := by
  rw [List.getD_eq_getElem?_getD, List.getElem?_eq_none h]; rfl
def zeroS (n : Nat) : List Int := List.replicate n 0
theorem zeroS_get (n i : Nat) : (zeroS n).getD i 0 = 0 := by
  unfold zeroS
  rw [List.getD_eq_getElem?_getD, List.getElem?_replicate]
  split <;> rfl
section
variable {G : Ops} (h : Fld G) {n : Nat}
include h
theorem row_zero : Row G n (zeroS n) := ⟨by simp [zeroS], fun v hv => by rw [(List.mem_replicate.1 hv).2]; exact h.zero⟩
theorem addTo_get {a : Int} (ha : G.El a) {x y : List Int} (hx : Row G n x) (hy : Row G n y) (i : Nat) : (addToS G x a y).getD i 0 = G.add (x.getD i 0) (G.mul a (y.getD i 0)) := by
  by_cases hi : i < x.length
  · unfold addToS
    rw [tab_getD i 0 hi]
    by_cases hz : y.getD i 0 = 0
    · rw [if_pos hz, hz, h.mul0 ha, h.add0 _ (row_get h hx i)]
    · rw [if_neg hz]
  · have h1 := hx.1
    have h2 := hy.1
    rw [getD_out (by unfold addToS; rw [tab_length]; omega), getD_out (by omega), getD_out (by omega), h.mul0 ha, h.add0 _ h.zero]
theorem addTo_row {a : Int} (ha : G.El a) {x y : List Int} (hx : Row G n x) (hy : Row G n y) : Row G n (addToS G x a y) := by
  refine ⟨by unfold addToS; rw [tab_length, hx.1], fun v hv => ?_⟩
  unfold addToS at hv
  obtain ⟨i, hi, rfl⟩ := List.mem_map.1 hv
  show G.El (if y.getD i 0 = 0 then _ else _)
  split
  · exact row_get h hx i
  · exact h.addE _ _ (row_get h hx i) (h.mulE _ _ ha (row_get h hy i))
theorem scale_row {a : Int} (ha : G.El a) {x : List Int} (hx : Row G n x) : Row G n (scaleS G a x) := by
  unfold scaleS
  refine ⟨by simp [hx.1], fun v hv => ?_⟩
  obtain ⟨u, hu, rfl⟩ := List.mem_map.1 hv
  exact h.mulE _ _ ha (hx.2 _ hu)
theorem scale_get {a : Int} (ha : G.El a) {x : List Int} (hx : Row G n x) (i : Nat) : (scaleS G a x).getD i 0 = G.mul a (x.getD i 0) := by
  unfold scaleS
  rw [map_tab]
  by_cases hi : i < x.length
  · rw [tab_getD i 0 hi]
  · rw [getD_out (by rw [tab_length]; omega), getD_out (by omega), h.mul0 ha]
/-- zero plus a row is the scaled row. -/
theorem scale_addTo {a : Int} (ha : G.El a) {x : List Int} (hx : Row G n x) : scaleS G a x = addToS G (zeroS n) a x := by
  refine row_ext (scale_row h ha hx).1 (addTo_row h ha (row_zero h) hx).1 fun i _ => ?_
  rw [scale_get h ha hx, addTo_get h ha (row_zero h) hx, zeroS_get, h.zadd (h.mulE _ _ ha (row_get h hx i))]
end
/-! ### Spans -/
/-- The combinations of rows. -/
inductive Sp (G : Ops) (n : Nat) (l : List (List Int)) : List Int → Prop
  | zero : Sp G n l (zeroS n)
  | add {x : List Int} {r : List Int} {a : Int} : Sp G n l x → r ∈ l → G.El a → Sp G n l (addToS G x a r)
section
variable {G : Ops} (h : Fld G) {n : Nat} {l l' : List (List Int)}
include h
theorem Sp.row (hl : Mat G n l) {x : List Int} (hx : Sp G n l x) : Row G n x := by
  induction hx with
  | zero => exact row_zero h
  | add _ hr ha ih => exact addTo_row h ha ih (hl _ hr)
theorem Sp.mem (hl : Mat G n l) {r : List Int} (hr : r ∈ l) : Sp G n l r := by
  have e : r = addToS G (zeroS n) 1 r := by
    refine row_ext (hl r hr).1 (addTo_row h h.one (row_zero h) (hl r hr)).1 fun i _ => ?_
    rw [addTo_get h h.one (row_zero h) (hl r hr), zeroS_get, h.mul1 _ (row_get h (hl r hr) i), h.zadd (row_get h (hl r hr) i)]
  rw [e]
  exact Sp.add Sp.zero hr h.one
theorem Sp.addTo (hl : Mat G n l) {x y : List Int} {a : Int} (hx : Sp G n l x) (hy : Sp G n l y) (ha : G.El a) : Sp G n l (addToS G x a y) := by
  induction hy with
  | zero =>
    have hr := Sp.row h hl hx
    have e : addToS G x a (zeroS n) = x := by
      refine row_ext (addTo_row h ha hr (row_zero h)).1 hr.1 fun i _ => ?_
      rw [addTo_get h ha hr (row_zero h), zeroS_get, h.mul0 ha, h.add0 _ (row_get h hr i)]
    rw [e]; exact hx
  | @add y r b hy hr hb ih =>
    have hxr := Sp.row h hl hx
    have hyr := Sp.row h hl hy
    have hrr := hl r hr
    have e : addToS G x a (addToS G y b r) = addToS G (addToS G x a y) (G.mul a b) r := by
      refine row_ext (addTo_row h ha hxr (addTo_row h hb hyr hrr)).1 (addTo_row h (h.mulE _ _ ha hb) (addTo_row h ha hxr hyr) hrr).1 fun i _ => ?_
      rw [addTo_get h ha hxr (addTo_row h hb hyr hrr), addTo_get h hb hyr hrr, addTo_get h (h.mulE _ _ ha hb) (addTo_row h ha hxr hyr) hrr, addTo_get h ha hxr hyr]
      exact h.nest (row_get h hxr i) ha (row_get h hyr i) hb (row_get h hrr i)
    rw [e]
    exact Sp.add ih hr (h.mulE _ _ ha hb)
theorem Sp.scale (hl : Mat G n l) {x : List Int} {a : Int} (hx : Sp G n l x) (ha : G.El a) : Sp G n l (scaleS G a x) := by
  rw [scale_addTo h ha (Sp.row h hl hx)]
  exact Sp.addTo h hl Sp.zero hx ha
theorem Sp.trans (hl' : Mat G n l') (hs : ∀ r ∈ l, Sp G n l' r) {x : List Int} (hx : Sp G n l x) : Sp G n l' x := by
  induction hx with
  | zero => exact Sp.zero
  | add _ hr ha ih => exact Sp.addTo h hl' ih (hs _ hr) ha
end
end Go.Proofs.Ytekenifndicdeaa.B
namespace Go.Proofs.Ytekenifndicdeaa.B
set_option linter.unusedVariables false
set_option linter.unusedSectionVars false

theorem mem_getD {l : List (List Int)} {i : Nat} (hi : i < l.length) : l.getD i [] ∈ l := by
  rw [List.getD_eq_getElem?_getD, List.getElem?_eq_getElem hi]
  exact List.getElem_mem hi
theorem getD_mem {l : List (List Int)} {r : List Int} (hr : r ∈ l) : ∃ i, i < l.length ∧ l.getD i [] = r := by
  obtain ⟨i, hi, rfl⟩ := List.mem_iff_getElem.1 hr
  exact ⟨i, hi, by rw [List.getD_eq_getElem?_getD, List.getElem?_eq_getElem hi]; rfl⟩
theorem getD_set {l : List (List Int)} {i : Nat} (hi : i < l.length) (x : List Int) (j : Nat) : (l.set i x).getD j [] = if j = i then x else l.getD j [] := by
  rw [List.getD_eq_getElem?_getD, List.getD_eq_getElem?_getD, List.getElem?_set]
  by_cases e : i = j
  · subst e; simp [hi]
  · rw [if_neg e, if_neg (fun h => e h.symm)]
theorem swap_getD {l : List (List Int)} {a q : Nat} (ha : a < l.length) (hq : q < l.length) (j : Nat) : (swapS l a q).getD j [] = l.getD (if j = q then a else if j = a then q else j) [] := by
  unfold swapS
  rw [getD_set (by simpa using hq), getD_set ha]
  by_cases h1 : j = q
  · rw [if_pos h1, if_pos h1]
  · rw [if_neg h1, if_neg h1]
    by_cases h2 : j = a
    · rw [if_pos h2, if_pos h2]
    · rw [if_neg h2, if_neg h2]
theorem swap_get {l : List (List Int)} {a q : Nat} (ha : a < l.length) (hq : q < l.length) (j c : Nat) : ent (swapS l a q) j c = ent l (if j = q then a else if j = a then q else j) c := by
  unfold ent; rw [swap_getD ha hq]
section
variable {G : Ops} (h : Fld G) {n : Nat}
include h
theorem swap_mat {l : List (List Int)} (hl : Mat G n l) {a q : Nat} (ha : a < l.length) (hq : q < l.length) : Mat G n (swapS l a q) := Mat_set (Mat_set hl a _ (Mat_get hl q hq)) q _ (Mat_get hl a ha)
theorem ent_E {l : List (List Int)} (hl : Mat G n l) {i c : Nat} (hi : i < l.length) : G.El (ent l i c) := row_get h (Mat_get hl i hi) c
theorem piv_getD {l : List (List Int)} {a c : Nat} (ha : a < l.length) (j : Nat) (hj : j ≠ a) : (pivS G l a c).getD j [] = l.getD j [] := by
  unfold pivS
  split
  · rfl
  · rw [getD_set ha, if_neg hj]
theorem piv_len {l : List (List Int)} {a c : Nat} : (pivS G l a c).length = l.length := by
  unfold pivS
  split
  · rfl
  · simp
theorem piv_mat {l : List (List Int)} (hl : Mat G n l) {a c : Nat} (ha : a < l.length) (hz : ent l a c ≠ 0) : Mat G n (pivS G l a c) := by
  unfold pivS
  split
  · exact hl
  · exact Mat_set hl a _ (scale_row h (h.invE _ (ent_E h hl ha) hz) (Mat_get hl a ha))
theorem piv_one {l : List (List Int)} (hl : Mat G n l) {a c : Nat} (ha : a < l.length) (hz : ent l a c ≠ 0) : ent (pivS G l a c) a c = 1 := by
  unfold pivS
  split
  · assumption
  · have hi := h.invE _ (ent_E h hl ha) hz
    show (((l.set a (scaleS G (G.inv (ent l a c)) (l.getD a []))).getD a [])).getD c 0 = 1
    rw [getD_set ha, if_pos rfl, scale_get h hi (Mat_get hl a ha)]
    exact h.mulI _ (ent_E h hl ha) hz
theorem piv_zero {l : List (List Int)} (hl : Mat G n l) {a c : Nat} (ha : a < l.length) (hz : ent l a c ≠ 0) {c' : Nat} (h0 : ent l a c' = 0) : ent (pivS G l a c) a c' = 0 := by
  unfold pivS
  split
  · assumption
  · have hi := h.invE _ (ent_E h hl ha) hz
    show (((l.set a (scaleS G (G.inv (ent l a c)) (l.getD a []))).getD a [])).getD c' 0 = 0
    rw [getD_set ha, if_pos rfl, scale_get h hi (Mat_get hl a ha)]
    exact (congrArg _ h0).trans (h.mul0 hi)
theorem clear_len {l : List (List Int)} {a c : Nat} : (clearS G l a c).length = l.length := by unfold clearS; rw [tab_length]
theorem clear_getD {l : List (List Int)} {a c j : Nat} (hj : j < l.length) : (clearS G l a c).getD j [] = if j = a ∨ ent l j c = 0 then l.getD j [] else addToS G (l.getD j []) (G.neg (ent l j c)) (l.getD a []) := by
  unfold clearS
  rw [tab_getD j [] hj]
theorem clear_mat {l : List (List Int)} (hl : Mat G n l) {a c : Nat} (ha : a < l.length) : Mat G n (clearS G l a c) := by
  intro r hr
  obtain ⟨j, hj, rfl⟩ := getD_mem hr
  rw [clear_len h] at hj
  rw [clear_getD h hj]
  split
  · exact Mat_get hl j hj
  · exact addTo_row h (h.negE _ (ent_E h hl hj)) (Mat_get hl j hj) (Mat_get hl a ha)
theorem clear_get {l : List (List Int)} (hl : Mat G n l) {a c j : Nat} (ha : a < l.length) (hj : j < l.length) (hja : j ≠ a) (c' : Nat) : ent (clearS G l a c) j c' = G.add (ent l j c') (G.mul (G.neg (ent l j c)) (ent l a c')) := by
  have hE := ent_E h hl hj (c := c)
  have e : ent (clearS G l a c) j c' = ((clearS G l a c).getD j []).getD c' 0 := rfl
  rw [e, clear_getD h hj]
  by_cases hz : ent l j c = 0
  · rw [if_pos (.inr hz), hz, h.neg0, h.zmul (ent_E h hl ha), h.add0 _ (ent_E h hl hj)]; rfl
  · rw [if_neg (by intro h2; rcases h2 with h2 | h2; exact hja h2; exact hz h2), addTo_get h (h.negE _ hE) (Mat_get hl j hj) (Mat_get hl a ha)]; rfl
theorem clear_self {l : List (List Int)} {a c : Nat} (ha : a < l.length) : (clearS G l a c).getD a [] = l.getD a [] := by rw [clear_getD h ha, if_pos (.inl rfl)]
/-! ### One column -/
theorem swap_span {l : List (List Int)} (hl : Mat G n l) {a q : Nat} (ha : a < l.length) (hq : q < l.length) : ∀ r ∈ l, Sp G n (swapS l a q) r := by
  intro r hr
  obtain ⟨j, hj, rfl⟩ := getD_mem hr
  have hS := swap_mat h hl ha hq
  have hlen := swap_len (l := l) a q
  refine Sp.mem h hS ?_
  have e : l.getD j [] = (swapS l a q).getD (if j = q then a else if j = a then q else j) [] := by
    rw [swap_getD ha hq]
    by_cases h1 : j = q
    · subst h1
      rw [if_pos rfl]
      by_cases h2 : a = j
      · rw [if_pos h2, h2]
      · rw [if_neg h2, if_pos rfl]
    · rw [if_neg h1]
      by_cases h2 : j = a
      · subst h2; rw [if_pos rfl, if_pos rfl]
      · rw [if_neg h2, if_neg h1, if_neg h2]
  rw [e]
  refine mem_getD ?_
  rw [hlen]
  split
  · exact ha
  · split
    · exact hq
    · exact hj
theorem piv_span {l : List (List Int)} (hl : Mat G n l) {a c : Nat} (ha : a < l.length) (hz : ent l a c ≠ 0) : ∀ r ∈ l, Sp G n (pivS G l a c) r := by
  intro r hr
  obtain ⟨j, hj, rfl⟩ := getD_mem hr
  have hP := piv_mat h hl ha hz
  by_cases hja : j = a
  · subst hja
    by_cases h1 : ent l j c = 1
    · have e : pivS G l j c = l := if_pos h1
      rw [e]; exact Sp.mem h hl hr
    · have hE := ent_E h hl hj (c := c)
      have hi := h.invE _ hE hz
      have hR := Mat_get hl j hj
      have e2 : (pivS G l j c).getD j [] = scaleS G (G.inv (ent l j c)) (l.getD j []) := by
        unfold pivS
        rw [if_neg h1, getD_set hj, if_pos rfl]
      have e : l.getD j [] = scaleS G (ent l j c) (scaleS G (G.inv (ent l j c)) (l.getD j [])) := by
        refine row_ext hR.1 (scale_row h hE (scale_row h hi hR)).1 fun i _ => ?_
        rw [scale_get h hE (scale_row h hi hR), scale_get h hi hR, ← h.mulA _ _ _ hE hi (row_get h hR i), h.mulC _ _ hE hi, h.mulI _ hE hz, h.mul1 _ (row_get h hR i)]
      rw [e, ← e2]
      exact Sp.scale h hP (Sp.mem h hP (mem_getD (by rw [piv_len h]; exact hj))) hE
  · rw [← piv_getD h ha j hja (c := c)]
    exact Sp.mem h hP (mem_getD (by rw [piv_len h]; exact hj))
theorem clear_span {l : List (List Int)} (hl : Mat G n l) {a c : Nat} (ha : a < l.length) : ∀ r ∈ l, Sp G n (clearS G l a c) r := by
  intro r hr
  obtain ⟨j, hj, rfl⟩ := getD_mem hr
  have hC := clear_mat h hl ha (c := c)
  have hmem := mem_getD (l := clearS G l a c) (i := j) (by rw [clear_len h]; exact hj)
  have hmema := mem_getD (l := clearS G l a c) (i := a) (by rw [clear_len h]; exact ha)
  by_cases hja : j = a ∨ ent l j c = 0
  · rw [clear_getD h hj, if_pos hja] at hmem
    exact Sp.mem h hC hmem
  · rw [clear_getD h hj, if_neg hja] at hmem
    rw [clear_self h ha] at hmema
    have hE := ent_E h hl hj (c := c)
    have hN := h.negE _ hE
    have hR := Mat_get hl j hj
    have hA := Mat_get hl a ha
    have e : l.getD j [] = addToS G (addToS G (l.getD j []) (G.neg (ent l j c)) (l.getD a [])) (ent l j c) (l.getD a []) := by
      refine row_ext hR.1 (addTo_row h hE (addTo_row h hN hR hA) hA).1 fun i _ => ?_
      rw [addTo_get h hE (addTo_row h hN hR hA) hA, addTo_get h hN hR hA]
      have hb := h.back (row_get h hR i) hN (row_get h hA i)
      rw [h.negneg hE] at hb
      exact hb.symm
    rw [e]
    exact Sp.add (Sp.mem h hC hmem) hmema hE
end
/-- The rows' state ahead of column c, with a pivots found. -/
structure Inv (l : List (List Int)) (c a : Nat) (ps : List Nat) : Prop where
  len : ps.length = a
  le : a ≤ l.length
  asc : ∀ i j, i < j → j < a → ps.getD i 0 < ps.getD j 0
  lt : ∀ i, i < a → ps.getD i 0 < c
  one : ∀ i, i < a → ent l i (ps.getD i 0) = 1
  clr : ∀ i j, i < a → j < l.length → j ≠ i → ent l j (ps.getD i 0) = 0
  left : ∀ i c', i < a → c' < ps.getD i 0 → ent l i c' = 0
  low : ∀ i c', a ≤ i → i < l.length → c' < c → ent l i c' = 0
theorem getD_app {ps : List Nat} {c i : Nat} : (ps ++ [c]).getD i 0 = if i < ps.length then ps.getD i 0 else if i = ps.length then c else 0 := by
  rw [List.getD_eq_getElem?_getD, List.getD_eq_getElem?_getD]
  by_cases h1 : i < ps.length
  · rw [if_pos h1, List.getElem?_append_left h1]
  · rw [if_neg h1, List.getElem?_append_right (by omega)]
    by_cases h2 : i = ps.length
    · rw [if_pos h2, h2]; simp
    · rw [if_neg h2, List.getElem?_eq_none (by simp; omega)]; rfl
section
variable {G : Ops} (h : Fld G) {n : Nat}
include h
theorem findP_zero (l : List (List Int)) (c : Nat) : ∀ d i, findP l c d i = i + d → ∀ j, i ≤ j → j < i + d → ent l j c = 0
  | 0, i, _, j, h1, h2 => by omega
  | d + 1, i, he, j, h1, h2 => by
    unfold findP at he
    by_cases hz : ent l i c = 0
    · rw [if_pos hz] at he
      by_cases e : j = i
      · rw [e]; exact hz
      · exact findP_zero l c d (i + 1) (by omega) j (by omega) (by omega)
    · rw [if_neg hz] at he; omega
theorem inv_skip {l : List (List Int)} {c a : Nat} {ps : List Nat} (hI : Inv l c a ps) (hz : ∀ j, a ≤ j → j < l.length → ent l j c = 0) : Inv l (c + 1) a ps where
  len := hI.len
  le := hI.le
  asc := hI.asc
  lt := fun i hi => by have := hI.lt i hi; omega
  one := hI.one
  clr := hI.clr
  left := hI.left
  low := fun i c' h1 h2 h3 => by
    by_cases e : c' = c
    · rw [e]; exact hz i h1 h2
    · exact hI.low i c' h1 h2 (by omega)
/-- The step of a column with a pivot in the row q. -/
def stepS (G : Ops) (l : List (List Int)) (a q c : Nat) : List (List Int) := clearS G (pivS G (swapS l a q) a c) a c
theorem step_facts {l : List (List Int)} (hl : Mat G n l) {a q c : Nat} (ha : a ≤ q) (hq : q < l.length) (hz : ent l q c ≠ 0) : Mat G n (swapS l a q) ∧ ent (swapS l a q) a c ≠ 0 ∧ Mat G n (pivS G (swapS l a q) a c) ∧ (swapS l a q).length = l.length ∧ (pivS G (swapS l a q) a c).length = l.length := by
  have ha2 : a < l.length := by omega
  have h1 := swap_mat h hl ha2 hq
  have h2 : ent (swapS l a q) a c ≠ 0 := by rw [swap_ent a q c ha2 hq]; exact hz
  have h3 := swap_len (l := l) a q
  exact ⟨h1, h2, piv_mat h h1 (by omega) h2, h3, by rw [piv_len h, h3]⟩
theorem step_mat {l : List (List Int)} (hl : Mat G n l) {a q c : Nat} (ha : a ≤ q) (hq : q < l.length) (hz : ent l q c ≠ 0) : Mat G n (stepS G l a q c) ∧ (stepS G l a q c).length = l.length := by
  obtain ⟨h1, h2, h3, h4, h5⟩ := step_facts h hl ha hq hz
  unfold stepS
  exact ⟨clear_mat h h3 (by omega), by rw [clear_len h, h5]⟩
theorem step_span {l : List (List Int)} (hl : Mat G n l) {a q c : Nat} (ha : a ≤ q) (hq : q < l.length) (hz : ent l q c ≠ 0) : ∀ r ∈ l, Sp G n (stepS G l a q c) r := by
  obtain ⟨h1, h2, h3, h4, h5⟩ := step_facts h hl ha hq hz
  have hm := step_mat h hl ha hq hz
  intro r hr
  have s1 := swap_span h hl (show a < l.length by omega) hq r hr
  have s2 := piv_span h h1 (show a < _ by omega) h2
  have s3 := clear_span h h3 (c := c) (show a < _ by omega)
  exact Sp.trans h hm.1 s3 (Sp.trans h h3 s2 s1)
/-- The other way: what the step makes lies in the span. -/
theorem step_back {l L : List (List Int)} (hL : Mat G n L) (hl : Mat G n l) (hs : ∀ r ∈ l, Sp G n L r) {a q c : Nat} (ha : a ≤ q) (hq : q < l.length) (hz : ent l q c ≠ 0) : ∀ r ∈ stepS G l a q c, Sp G n L r := by
  obtain ⟨h1, h2, h3, h4, h5⟩ := step_facts h hl ha hq hz
  have g1 : ∀ j, j < l.length → Sp G n L ((swapS l a q).getD j []) := fun j hj => by
    rw [swap_getD (by omega) hq]
    refine hs _ (mem_getD ?_)
    split
    · omega
    · split <;> omega
  have g2 : ∀ j, j < l.length → Sp G n L ((pivS G (swapS l a q) a c).getD j []) := fun j hj => by
    by_cases hja : j = a
    · subst hja
      by_cases e1 : ent (swapS l j q) j c = 1
      · have e : pivS G (swapS l j q) j c = swapS l j q := if_pos e1
        rw [e]; exact g1 j hj
      · have e : (pivS G (swapS l j q) j c).getD j [] = scaleS G (G.inv (ent (swapS l j q) j c)) ((swapS l j q).getD j []) := by
          unfold pivS
          rw [if_neg e1, getD_set (by omega), if_pos rfl]
        rw [e]
        exact Sp.scale h hL (g1 j hj) (h.invE _ (ent_E h h1 (by omega)) h2)
    · rw [piv_getD h (by omega) j hja]; exact g1 j hj
  intro r hr
  obtain ⟨j, hj, rfl⟩ := getD_mem hr
  unfold stepS at hj ⊢
  rw [clear_len h, h5] at hj
  rw [clear_getD h (by omega)]
  split
  · exact g2 j hj
  · exact Sp.addTo h hL (g2 j hj) (g2 a (by omega)) (h.negE _ (ent_E h h3 (by omega)))
/-- Columns on the left are not touched; the column c is cleared. -/
theorem step_left {l : List (List Int)} (hl : Mat G n l) {a q c : Nat} (ha : a ≤ q) (hq : q < l.length) (hz : ent l q c ≠ 0) (hlow : ∀ i c', a ≤ i → i < l.length → c' < c → ent l i c' = 0) {j c' : Nat} (hj : j < l.length) (hc : c' < c) : ent (stepS G l a q c) j c' = ent l j c' := by
  obtain ⟨h1, h2, h3, h4, h5⟩ := step_facts h hl ha hq hz
  have s1 : ∀ j, j < l.length → ent (swapS l a q) j c' = ent l j c' := fun j hj => by
    rw [swap_get (by omega) hq]
    by_cases e1 : j = q
    · rw [if_pos e1, hlow a c' (by omega) (by omega) hc, hlow j c' (by omega) (by omega) hc]
    · rw [if_neg e1]
      by_cases e2 : j = a
      · rw [if_pos e2, hlow q c' (by omega) (by omega) hc, hlow j c' (by omega) (by omega) hc]
      · rw [if_neg e2]
  have za : ent (pivS G (swapS l a q) a c) a c' = 0 := piv_zero h h1 (by omega) h2 (by rw [s1 a (by omega)]; exact hlow a c' (by omega) (by omega) hc)
  have s2 : ∀ j, j < l.length → ent (pivS G (swapS l a q) a c) j c' = ent l j c' := fun j hj => by
    by_cases e : j = a
    · rw [e, za, hlow a c' (by omega) (by omega) hc]
    · unfold ent
      rw [piv_getD h (by omega) j e]
      exact s1 j hj
  unfold stepS
  by_cases e : j = a
  · have : ent (clearS G (pivS G (swapS l a q) a c) a c) j c' = ent (pivS G (swapS l a q) a c) j c' := by
      unfold ent; rw [e, clear_self h (by omega)]
    rw [this]; exact s2 j hj
  · rw [clear_get h h3 (by omega) (by omega) e, za, h.mul0 (h.negE _ (ent_E h h3 (by omega))), h.add0 _ (ent_E h h3 (by omega))]
    exact s2 j hj
theorem step_col {l : List (List Int)} (hl : Mat G n l) {a q c : Nat} (ha : a ≤ q) (hq : q < l.length) (hz : ent l q c ≠ 0) {j : Nat} (hj : j < l.length) : ent (stepS G l a q c) j c = if j = a then 1 else 0 := by
  obtain ⟨h1, h2, h3, h4, h5⟩ := step_facts h hl ha hq hz
  have hp := piv_one h h1 (show a < _ by omega) h2
  unfold stepS
  by_cases e : j = a
  · rw [if_pos e]
    have : ent (clearS G (pivS G (swapS l a q) a c) a c) j c = ent (pivS G (swapS l a q) a c) a c := by
      unfold ent; rw [e, clear_self h (by omega)]
    rw [this, hp]
  · have hE := ent_E h h3 (i := j) (c := c) (by omega)
    rw [if_neg e, clear_get h h3 (by omega) (by omega) e, hp, h.mulC _ _ (h.negE _ hE) h.one, h.mul1 _ (h.negE _ hE), h.addN _ hE]
theorem inv_step {l : List (List Int)} (hl : Mat G n l) {a q c : Nat} {ps : List Nat} (hI : Inv l c a ps) (ha : a ≤ q) (hq : q < l.length) (hz : ent l q c ≠ 0) : Inv (stepS G l a q c) (c + 1) (a + 1) (ps ++ [c]) := by
  have hlen := (step_mat h hl ha hq hz).2
  have hp := hI.len
  have hold : ∀ i, i < a → (ps ++ [c]).getD i 0 = ps.getD i 0 := fun i hi => by rw [getD_app, if_pos (by omega)]
  have hnew : (ps ++ [c]).getD a 0 = c := by rw [getD_app, if_neg (by omega), if_pos (by omega)]
  have hL : ∀ {j c'}, j < l.length → c' < c → ent (stepS G l a q c) j c' = ent l j c' := fun hj hc => step_left h hl ha hq hz hI.low hj hc
  have hC : ∀ {j}, j < l.length → ent (stepS G l a q c) j c = if j = a then 1 else 0 := fun hj => step_col h hl ha hq hz hj
  exact {
    len := by simp [hp]
    le := by omega
    asc := fun i j hij hj => by
      rw [hold i (by omega)]
      by_cases e : j = a
      · rw [e, hnew]; exact hI.lt i (by omega)
      · rw [hold j (by omega)]; exact hI.asc i j hij (by omega)
    lt := fun i hi => by
      by_cases e : i = a
      · rw [e, hnew]; omega
      · rw [hold i (by omega)]; have := hI.lt i (by omega); omega
    one := fun i hi => by
      by_cases e : i = a
      · rw [e, hnew, hC (by omega), if_pos rfl]
      · rw [hold i (by omega), hL (by have := hI.le; omega) (hI.lt i (by omega))]; exact hI.one i (by omega)
    clr := fun i j hi hj hji => by
      rw [hlen] at hj
      by_cases e : i = a
      · rw [e, hnew, hC hj, if_neg (by omega)]
      · rw [hold i (by omega), hL hj (hI.lt i (by omega))]; exact hI.clr i j (by omega) hj hji
    left := fun i c' hi hc => by
      by_cases e : i = a
      · rw [e, hnew] at hc
        rw [e, hL (by omega) hc]; exact hI.low a c' (by omega) (by omega) hc
      · rw [hold i (by omega)] at hc
        have := hI.lt i (by omega)
        rw [hL (by have := hI.le; omega) (by omega)]; exact hI.left i c' (by omega) hc
    low := fun i c' h1 h2 h3 => by
      rw [hlen] at h2
      by_cases e : c' = c
      · rw [e, hC h2, if_neg (by omega)]
      · rw [hL h2 (by omega)]; exact hI.low i c' (by omega) h2 (by omega) }
def castS (ps : List Nat) : List Int := ps.map fun (p : Nat) => ((p : Nat) : Int)
/-- Elimination: the state at the end, and the spans. -/
theorem elim_inv (cols : Nat) : ∀ (d c a : Nat) (l : List (List Int)) (ps : List Nat), cols = c + d → Mat G n l → Inv l c a ps →
    ∃ L ps' c', elimGo G d c a l (castS ps) = (L, castS ps') ∧ Mat G n L ∧ L.length = l.length ∧ Inv L c' ps'.length ps' ∧ c' ≤ cols ∧ (c' = cols ∨ ps'.length = L.length) ∧ (∀ r ∈ l, Sp G n L r) ∧ ∀ r ∈ L, Sp G n l r := by
  intro d
  induction d with
  | zero =>
    intro c a l ps hd hl hI
    exact ⟨l, ps, c, rfl, hl, rfl, by rw [hI.len]; exact hI, by omega, .inl (by omega), fun r hr => Sp.mem h hl hr, fun r hr => Sp.mem h hl hr⟩
  | succ d ih =>
    intro c a l ps hd hl hI
    unfold elimGo
    by_cases ha : a < l.length
    · rw [if_pos ha]
      by_cases hk : findP l c (l.length - a) a = l.length
      · rw [if_pos hk]
        exact ih (c + 1) a l ps (by omega) hl (inv_skip h hI fun j h1 h2 => findP_zero h l c (l.length - a) a (by omega) j h1 (by omega))
      · rw [if_neg hk]
        have hfl := findP_le l c (l.length - a) a
        have hne := findP_ne l c (l.length - a) a (by omega)
        generalize findP l c (l.length - a) a = q at hk hne hfl
        have hq : q < l.length := by omega
        have hm := step_mat h hl hfl.1 hq hne
        obtain ⟨L, ps', c', e, r1, r2, r3, r4, r5, r6, r7⟩ := ih (c + 1) (a + 1) (stepS G l a q c) (ps ++ [c]) (by omega) hm.1 (inv_step h hl hI hfl.1 hq hne)
        refine ⟨L, ps', c', ?_, r1, by omega, r3, r4, r5, fun r hr => Sp.trans h r1 r6 (step_span h hl hfl.1 hq hne r hr), fun r hr => Sp.trans h hl (step_back h hl hl (fun r hr => Sp.mem h hl hr) hfl.1 hq hne) (r7 r hr)⟩
        have e2 : castS (ps ++ [c]) = castS ps ++ [(c : Int)] := by simp [castS]
        rw [e2] at e
        exact e
    · rw [if_neg ha]
      exact ⟨l, ps, c, rfl, hl, rfl, by rw [hI.len]; exact hI, by omega, .inr (by have := hI.len; have := hI.le; omega), fun r hr => Sp.mem h hl hr, fun r hr => Sp.mem h hl hr⟩
end
/-- Reduced rows with their pivots. -/
structure Rr (n : Nat) (l : List (List Int)) (ps : List Nat) : Prop where
  len : ps.length = l.length
  asc : ∀ i j, i < j → j < l.length → ps.getD i 0 < ps.getD j 0
  lt : ∀ i, i < l.length → ps.getD i 0 < n
  one : ∀ i, i < l.length → ent l i (ps.getD i 0) = 1
  clr : ∀ i j, i < l.length → j < l.length → j ≠ i → ent l j (ps.getD i 0) = 0
  left : ∀ i c', i < l.length → c' < ps.getD i 0 → ent l i c' = 0
theorem getD_take {l : List (List Int)} {a i : Nat} (hi : i < a) : (l.take a).getD i [] = l.getD i [] := by
  rw [List.getD_eq_getElem?_getD, List.getD_eq_getElem?_getD, List.getElem?_take_of_lt hi]
theorem inv_rr {n c a : Nat} {l : List (List Int)} {ps : List Nat} (hI : Inv l c a ps) (hc : c ≤ n) : Rr n (l.take a) ps := by
  have hle := hI.le
  have hlen : (l.take a).length = a := by rw [List.length_take]; omega
  have he : ∀ {i c'}, i < a → ent (l.take a) i c' = ent l i c' := fun hi => by unfold ent; rw [getD_take hi]
  exact {
    len := by rw [hI.len, hlen]
    asc := fun i j h1 h2 => hI.asc i j h1 (by omega)
    lt := fun i hi => by have := hI.lt i (by omega); omega
    one := fun i hi => by rw [he (by omega)]; exact hI.one i (by omega)
    clr := fun i j h1 h2 h3 => by rw [he (by omega)]; exact hI.clr i j (by omega) (by omega) h3
    left := fun i c' h1 h2 => by rw [he (by omega)]; exact hI.left i c' (by omega) h2 }
/-- The canonical rows. -/
def canonS (G : Ops) (n : Nat) (l : List (List Int)) : List (List Int) := (elimS G l n).1.take (elimS G l n).2.length
section
variable {G : Ops} (h : Fld G) {n : Nat}
include h
theorem canon_rr {l : List (List Int)} (hl : Mat G n l) : ∃ ps, (elimS G l n).2 = castS ps ∧ Rr n (canonS G n l) ps ∧ Mat G n (canonS G n l) ∧ (canonS G n l).length ≤ l.length ∧ (∀ r ∈ l, Sp G n (canonS G n l) r) ∧ ∀ r ∈ canonS G n l, Sp G n l r := by
  obtain ⟨L, ps, c, e, r1, r2, r3, r4, r5, r6, r7⟩ := elim_inv h n n 0 0 l [] (by omega) hl {
    len := rfl
    le := Nat.zero_le _
    asc := fun i j _ h => by omega
    lt := fun i h => by omega
    one := fun i h => by omega
    clr := fun i j h => by omega
    left := fun i c h => by omega
    low := fun i c h1 h2 h3 => by omega }
  have e2 : elimS G l n = (L, castS ps) := e
  have e3 : canonS G n l = L.take ps.length := by
    unfold canonS
    rw [e2]; simp [castS]
  have hM : Mat G n (L.take ps.length) := fun r hr => r1 r (List.mem_of_mem_take hr)
  rw [e2, e3]
  refine ⟨ps, rfl, inv_rr r3 r4, hM, by rw [List.length_take]; omega, fun r hr => Sp.trans h hM (fun x hx => ?_) (r6 r hr), fun r hr => r7 r (List.mem_of_mem_take hr)⟩
  obtain ⟨i, hi, rfl⟩ := getD_mem hx
  by_cases hlt : i < ps.length
  · refine Sp.mem h hM ?_
    rw [← getD_take hlt]
    exact mem_getD (by rw [List.length_take]; omega)
  · have hn : c = n := by
      rcases r5 with r5 | r5
      · exact r5
      · omega
    have e4 : L.getD i [] = zeroS n := row_ext (Mat_get r1 i hi).1 (row_zero h).1 fun k hk => by
      rw [zeroS_get]
      exact r3.low i k (by omega) hi (by omega)
    rw [e4]; exact Sp.zero
/-- Reduced rows stay. -/
theorem rr_go {l : List (List Int)} {ps : List Nat} (hl : Mat G n l) (hR : Rr n l ps) : ∀ (d c a : Nat), n = c + d → a ≤ l.length → (∀ i, i < a → ps.getD i 0 < c) → (∀ i, a ≤ i → i < l.length → c ≤ ps.getD i 0) → elimGo G d c a l (castS (ps.take a)) = (l, castS ps) := by
  intro d
  induction d with
  | zero =>
    intro c a hd ha h1 h2
    have : a = l.length := by
      by_cases e : a < l.length
      · have := h2 a (Nat.le_refl _) e
        have := hR.lt a e
        omega
      · omega
    unfold elimGo
    rw [List.take_of_length_le (by rw [hR.len]; omega)]
  | succ d ih =>
    intro c a hd ha h1 h2
    unfold elimGo
    by_cases hlt : a < l.length
    · rw [if_pos hlt]
      have hpa := h2 a (Nat.le_refl _) hlt
      by_cases hc : ps.getD a 0 = c
      · have hone := hR.one a hlt
        rw [hc] at hone
        have hf : findP l c (l.length - a) a = a := by
          obtain ⟨k, hk⟩ : ∃ k, l.length - a = k + 1 := ⟨l.length - a - 1, by omega⟩
          rw [hk]
          unfold findP
          rw [if_neg (by rw [hone]; decide)]
        rw [hf, if_neg (by omega)]
        have e1 : swapS l a a = l := by
          refine List.ext_getElem? fun j => ?_
          unfold swapS
          rw [List.getElem?_set, List.getElem?_set]
          by_cases e : a = j
          · subst e
            simp [hlt]
          · simp [e]
        have e2 : pivS G l a c = l := if_pos hone
        have e3 : clearS G l a c = l := by
          have e4 : l = tab l.length fun i => l.getD i [] := tab_ext rfl fun p hp => by rw [List.getD_eq_getElem?_getD, List.getElem?_eq_getElem hp]; rfl
          unfold clearS
          conv => rhs; rw [e4]
          refine tab_congr fun j hj => ?_
          by_cases e : j = a
          · rw [if_pos (.inl e)]
          · have := hR.clr a j hlt hj e
            rw [hc] at this
            rw [if_pos (.inr this)]
        rw [e1, e2, e3]
        have e5 : castS (ps.take a) ++ [(c : Int)] = castS (ps.take (a + 1)) := by
          have hlen := hR.len
          rw [List.take_add_one]
          have : ps[a]? = some c := by
            have h3 : a < ps.length := by omega
            rw [List.getD_eq_getElem?_getD, List.getElem?_eq_getElem h3] at hc
            rw [List.getElem?_eq_getElem h3]
            exact congrArg some hc
          rw [this]; simp [castS]
        rw [e5]
        refine ih (c + 1) (a + 1) (by omega) (by omega) (fun i hi => ?_) (fun i hi hi2 => ?_)
        · by_cases e : i = a
          · rw [e]; omega
          · have := h1 i (by omega); omega
        · have := hR.asc a i (by omega) hi2; omega
      · have hf : findP l c (l.length - a) a = l.length := by
          have hle := findP_le l c (l.length - a) a
          by_cases e : findP l c (l.length - a) a < l.length
          · have hne := findP_ne l c (l.length - a) a (by omega)
            refine absurd (hR.left _ c e ?_) hne
            by_cases e2 : findP l c (l.length - a) a = a
            · rw [e2]; omega
            · have := hR.asc a _ (show a < findP l c (l.length - a) a by omega) e
              omega
          · omega
        rw [if_pos hf]
        refine ih (c + 1) a (by omega) ha (fun i hi => by have := h1 i hi; omega) (fun i hi hi2 => ?_)
        by_cases e : i = a
        · rw [e]; omega
        · have := hR.asc a i (by omega) hi2; omega
    · rw [if_neg hlt, List.take_of_length_le (by rw [hR.len]; omega)]
theorem canon_idem {l : List (List Int)} {ps : List Nat} (hl : Mat G n l) (hR : Rr n l ps) : elimS G l n = (l, castS ps) ∧ canonS G n l = l := by
  have e : elimS G l n = (l, castS ps) := by
    have := rr_go h hl hR n 0 0 (by omega) (Nat.zero_le _) (fun i hi => by omega) (fun i _ _ => Nat.zero_le _)
    exact this
  refine ⟨e, ?_⟩
  unfold canonS
  rw [e, List.take_of_length_le]
  have := hR.len
  simp [castS]; omega
end
section
variable {G : Ops} (h : Fld G) {n : Nat} {l : List (List Int)} {ps : List Nat}
include h
end
end Go.Proofs.Ytekenifndicdeaa.B
