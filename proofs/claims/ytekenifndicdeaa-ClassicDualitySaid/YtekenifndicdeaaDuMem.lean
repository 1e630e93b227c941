import Derived.Test.YtekenifndicdeaaDuGf1
namespace Go.Proofs.Ytekenifndicdeaa.P
open Go.RowKit Go.Proofs.YtekenifndicdeaaW.PrintWords Go.Proofs.YtekenifndicdeaaW.PrintLast Go.Proofs.YtekenifndicdeaaW.PrintMore Go.Proofs.Ytekenifndicdeaa.B
set_option linter.unusedVariables false
set_option linter.unusedSimpArgs false
/-- Of w's blocks just those of S may have turned. -/
structure Tch (S : Nat → Prop) (w w' : World) : Prop where
  os : w'.os = w.os
  tape : w'.tape = w.tape
  output : w'.output = w.output
  size : w.heap.size ≤ w'.heap.size
  block : ∀ k, k < w.heap.size → ¬ S k → w'.heap[k]? = w.heap[k]?
section
variable {S S' : Nat → Prop} {w w1 w2 : World}
theorem Tch.refl (S : Nat → Prop) (w : World) : Tch S w w := ⟨rfl, rfl, rfl, Nat.le_refl _, fun _ _ _ => rfl⟩
theorem Tch.trans (h : Tch S w w1) (k : Tch S w1 w2) : Tch S w w2 :=
  ⟨k.os.trans h.os, k.tape.trans h.tape, k.output.trans h.output, Nat.le_trans h.size k.size, fun i hi hs => (k.block i (Nat.lt_of_lt_of_le hi h.size) hs).trans (h.block i hi hs)⟩
theorem Tch.mono (h : Tch S w w1) (hs : ∀ k, k < w.heap.size → S k → S' k) : Tch S' w w1 := ⟨h.os, h.tape, h.output, h.size, fun k hk hn => h.block k hk (fun c => hn (hs k hk c))⟩
theorem Tch.drewN (h : Tch S w w1) (n : Nat) : Tch S w (w1.drewN n) := ⟨h.os, h.tape, h.output, h.size, h.block⟩
theorem Tch.drew (h : Tch S w w1) : Tch S w w1.drew := ⟨h.os, h.tape, h.output, h.size, h.block⟩
theorem Tch.alloc (h : Tch S w w1) (o : Obj) : Tch S w (w1.alloc o) := ⟨h.os, h.tape, h.output, by have := h.size; simp; omega, fun k hk hn => (Below.heap_alloc _ _ _ (by have := h.size; omega)).trans (h.block k hk hn)⟩
theorem Tch.set (h : Tch S w w1) {p : Addr} (hp : S p.block ∨ w.heap.size ≤ p.block) (u : Value) : Tch S w (w1.setCell p u) :=
  ⟨h.os, h.tape, h.output, by have := h.size; simpa [World.setCell] using this, fun k hk hn => (Below.heap_setCell _ _ _ _ (by rintro rfl; rcases hp with hp | hp; exact hn hp; omega)).trans (h.block k hk hn)⟩
theorem Tch.below {B : Nat} (h : Tch S w w1) (hs : ∀ k, k < w.heap.size → S k → B ≤ k) (hB : B ≤ w.heap.size) : Below B w w1 := ⟨h.os, h.tape, h.output, h.size, fun k hk => h.block k (by omega) (fun c => by have := hs k (by omega) c; omega)⟩
theorem Tch.of_below (h : Below w.heap.size w w1) (S : Nat → Prop) : Tch S w w1 := ⟨h.os, h.tape, h.output, h.size, fun k hk _ => h.block k hk⟩
theorem Tch.at (h : Tch S w w1) {b : Nat} {o : Obj} (hb : w.heap[b]? = some o) (hn : ¬ S b) : w1.heap[b]? = some o := (h.block b (blk_lt hb) hn).trans hb
end
/-- Block b begins with the integers xs. -/
def IntRow (w : World) (b : Nat) (xs : List Int) : Prop := ∃ cs, w.heap[b]? = some (.cells cs 3 (0, 0)) ∧ ∀ i, i < xs.length → cs[i]? = some (.int .i64 (xs.getD i 0))
theorem IntRow.keep {w w1 : World} {b : Nat} {xs : List Int} (h : IntRow w b xs) (hb : w1.heap[b]? = w.heap[b]?) : IntRow w1 b xs := by
  obtain ⟨cs, h1, h2⟩ := h
  exact ⟨cs, hb.trans h1, h2⟩
theorem IntRow.lt {w : World} {b : Nat} {xs : List Int} (h : IntRow w b xs) : b < w.heap.size := by
  obtain ⟨cs, h1, _⟩ := h
  exact blk_lt h1
theorem IntRow.tch {S : Nat → Prop} {w w1 : World} {b : Nat} {xs : List Int} (h : IntRow w b xs) (ht : Tch S w w1) (hn : ¬ S b) : IntRow w1 b xs := h.keep (ht.block b h.lt hn)
theorem IntRow.cell {w : World} {b : Nat} {xs : List Int} (h : IntRow w b xs) (i : Nat) (hi : i < xs.length) : w.cell? ⟨b, i, none⟩ = some (.int .i64 (xs.getD i 0)) := by
  obtain ⟨cs, h1, h2⟩ := h
  exact (blk_cell h1 i).trans (h2 i hi)
theorem IntRow.frozen {w : World} {b : Nat} {xs : List Int} (h : IntRow w b xs) (i : Nat) : w.frozen? ⟨b, i, none⟩ = false := by
  obtain ⟨cs, h1, h2⟩ := h
  exact blk_frozen h1 i
theorem getD_setI {xs : List Int} (i : Nat) (v : Int) (hi : i < xs.length) (j : Nat) : (xs.set i v).getD j 0 = if j = i then v else xs.getD j 0 := by
  rw [List.getD_eq_getElem?_getD, List.getElem?_set]
  by_cases e : i = j
  · subst e; simp [hi]
  · rw [if_neg e, if_neg (fun h => e h.symm), List.getD_eq_getElem?_getD]
theorem IntRow.set {w : World} {b : Nat} {xs : List Int} (h : IntRow w b xs) (i : Nat) (v : Int) (hi : i < xs.length) : IntRow (w.setCell ⟨b, i, none⟩ (.int .i64 v)) b (xs.set i v) := by
  obtain ⟨cs, h1, h2⟩ := h
  refine ⟨_, blk_set h1 i _, fun j hj => ?_⟩
  rw [List.length_set] at hj
  rw [getD_setI i v hi]
  have hj2 := h2 j hj
  have hs : i < cs.size := by
    have := h2 i hi
    exact (Array.getElem?_eq_some_iff.1 this).1
  by_cases e : j = i
  · subst e; simp [hs]
  · rw [if_neg e, ← hj2]
    simp [Array.getElem?_setIfInBounds]
    intro h
    exact absurd h.symm e
theorem IntRow.C {w : World} {b : Nat} {xs : List Int} (h : IntRow w b xs) (hl : xs.length ≤ 9223372036854775807) : Kd.C (Kd.int .i64) w (some ⟨b, 0, none⟩) xs.length xs := by
  refine ⟨rfl, hl, fun _ => ⟨⟨b, 0, none⟩, rfl, fun j p hj => ⟨[.int .i64 p], rfl, rfl, fun i u hu => ?_⟩⟩⟩
  have hlt : j < xs.length := (List.getElem?_eq_some_iff.1 hj).1
  have hp : xs.getD j 0 = p := by rw [List.getD_eq_getElem?_getD, hj]; rfl
  have hi : i = 0 := by
    have := (List.getElem?_eq_some_iff.1 hu).1
    simpa using this
  subst hi
  have hc := h.cell j hlt
  rw [hp] at hc
  have hu' : u = .int .i64 p := by simpa using hu.symm
  subst hu'
  have : (⟨b, 0, none⟩ : Addr).add (j * (Kd.int .i64).sz + 0) = ⟨b, j, none⟩ := by
    show (⟨b, 0, none⟩ : Addr).add (j * 1 + 0) = _
    rw [Nat.mul_one]; simp [Addr.add]; omega
  rw [this]; exact hc
/-- Block bl holds slices of rows of integers, each a block of its own: rs. -/
structure MX (w : World) (bl : Nat) (rs : Nat → Nat) (l : List (List Int)) : Prop where
  nd : ∀ i j, i < l.length → j < l.length → rs i = rs j → i = j
  hd : ∃ cs, w.heap[bl]? = some (.cells cs 23 (0, 0)) ∧ ∀ i, i < l.length → ∃ c, cs[i]? = some (.slice (some ⟨rs i, 0, none⟩) (l.getD i []).length c) ∧ (l.getD i []).length ≤ c
  row : ∀ i, i < l.length → IntRow w (rs i) (l.getD i [])
section
variable {w w1 : World} {bl : Nat} {rs : Nat → Nat} {l : List (List Int)}
theorem MX.lt (h : MX w bl rs l) : bl < w.heap.size := by
  obtain ⟨cs, h1, _⟩ := h.hd
  exact blk_lt h1
theorem MX.ne (h : MX w bl rs l) {i : Nat} (hi : i < l.length) : rs i ≠ bl := by
  obtain ⟨cs, h1, _⟩ := h.hd
  obtain ⟨cs', h2, _⟩ := h.row i hi
  exact blk_ne h2 h1 (by decide)
theorem MX.tch {S : Nat → Prop} (h : MX w bl rs l) (ht : Tch S w w1) (hb : ¬ S bl) (hr : ∀ i, i < l.length → ¬ S (rs i)) : MX w1 bl rs l := by
  obtain ⟨cs, h1, h2⟩ := h.hd
  exact ⟨h.nd, ⟨cs, ht.at h1 hb, h2⟩, fun i hi => (h.row i hi).tch ht (hr i hi)⟩
theorem MX.below (h : MX w bl rs l) (ht : Below w.heap.size w w1) : MX w1 bl rs l := h.tch (Tch.of_below ht (fun _ => False)) (fun h => h) (fun _ _ h => h)
theorem MX.drew (h : MX w bl rs l) (n : Nat) : MX (w.drewN n) bl rs l := h.tch ((Tch.refl (fun _ => False) w).drewN n) (fun h => h) (fun _ _ h => h)
theorem MX.cell (h : MX w bl rs l) (i : Nat) (hi : i < l.length) : ∃ c, w.cell? ⟨bl, i, none⟩ = some (.slice (some ⟨rs i, 0, none⟩) (l.getD i []).length c) ∧ (l.getD i []).length ≤ c := by
  obtain ⟨cs, h1, h2⟩ := h.hd
  obtain ⟨c, h3, h4⟩ := h2 i hi
  exact ⟨c, (blk_cell h1 i).trans h3, h4⟩
theorem MX.frozen (h : MX w bl rs l) (i : Nat) : w.frozen? ⟨bl, i, none⟩ = false := by
  obtain ⟨cs, h1, h2⟩ := h.hd
  exact blk_frozen h1 i
theorem getD_setL {l : List (List Int)} {i : Nat} (hi : i < l.length) (x : List Int) (j : Nat) : (l.set i x).getD j [] = if j = i then x else l.getD j [] := by
  rw [List.getD_eq_getElem?_getD, List.getElem?_set]
  by_cases e : i = j
  · subst e; simp [hi]
  · rw [if_neg e, if_neg (fun h => e h.symm), List.getD_eq_getElem?_getD]
/-- One row is told anew: what its block holds has turned. -/
theorem MX.upd {i : Nat} {x : List Int} (h : MX w bl rs l) (hi : i < l.length) (ht : Tch (fun k => k = rs i) w w1) (hx : IntRow w1 (rs i) x) (hl : x.length = (l.getD i []).length) : MX w1 bl rs (l.set i x) := by
  obtain ⟨cs, h1, h2⟩ := h.hd
  refine ⟨fun a b ha hb => h.nd a b (by simpa using ha) (by simpa using hb), ⟨cs, ht.at h1 (fun e => h.ne hi e.symm), fun j hj => ?_⟩, fun j hj => ?_⟩
  · rw [List.length_set] at hj
    obtain ⟨c, h3, h4⟩ := h2 j hj
    rw [getD_setL hi]
    by_cases e : j = i
    · subst e; rw [if_pos rfl, hl]; exact ⟨c, h3, h4⟩
    · rw [if_neg e]; exact ⟨c, h3, h4⟩
  · rw [List.length_set] at hj
    rw [getD_setL hi]
    by_cases e : j = i
    · subst e; rw [if_pos rfl]; exact hx
    · rw [if_neg e]; exact (h.row j hj).tch ht (fun c => e (h.nd j i hj hi c))
def rput (rs : Nat → Nat) (i b : Nat) : Nat → Nat := fun j => if j = i then b else rs j
/-- One row is exchanged for another block. -/
theorem MX.put {i nb c : Nat} {x : List Int} (h : MX w bl rs l) (hi : i < l.length) (hx : IntRow w nb x) (hc : x.length ≤ c) (hn : ∀ j, j < l.length → j ≠ i → rs j ≠ nb) :
    MX (w.setCell ⟨bl, i, none⟩ (.slice (some ⟨nb, 0, none⟩) x.length c)) bl (rput rs i nb) (l.set i x) := by
  obtain ⟨cs, h1, h2⟩ := h.hd
  obtain ⟨cs', h1', h2'⟩ := id hx
  have hne : nb ≠ bl := blk_ne h1' h1 (by decide)
  have hsz : i < cs.size := by
    obtain ⟨c, h3, _⟩ := h2 i hi
    exact (Array.getElem?_eq_some_iff.1 h3).1
  refine ⟨fun a b ha hb => ?_, ⟨_, blk_set h1 i _, fun j hj => ?_⟩, fun j hj => ?_⟩
  · rw [List.length_set] at ha hb
    unfold rput
    by_cases ea : a = i <;> by_cases eb : b = i
    · intro _; omega
    · rw [if_pos ea, if_neg eb]; intro e; exact absurd e.symm (hn b hb eb)
    · rw [if_neg ea, if_pos eb]; intro e; exact absurd e (hn a ha ea)
    · rw [if_neg ea, if_neg eb]; exact h.nd a b ha hb
  · rw [List.length_set] at hj
    rw [getD_setL hi]
    unfold rput
    by_cases e : j = i
    · subst e; rw [if_pos rfl, if_pos rfl]
      exact ⟨c, by simp [hsz], hc⟩
    · rw [if_neg e, if_neg e]
      obtain ⟨c', h3, h4⟩ := h2 j hj
      refine ⟨c', ?_, h4⟩
      rw [← h3]
      simp [Array.getElem?_setIfInBounds]
      intro h; exact absurd h.symm e
  · rw [List.length_set] at hj
    rw [getD_setL hi]
    unfold rput
    by_cases e : j = i
    · subst e; rw [if_pos rfl, if_pos rfl]
      exact hx.keep (Below.heap_setCell _ _ _ _ hne)
    · rw [if_neg e, if_neg e]
      exact (h.row j hj).keep (Below.heap_setCell _ _ _ _ (h.ne hj))
def rswap (rs : Nat → Nat) (a k : Nat) : Nat → Nat := fun j => if j = k then rs a else if j = a then rs k else rs j
theorem swap_get2 {l : List (List Int)} {a k : Nat} (ha : a < l.length) (hk : k < l.length) (j : Nat) : ((l.set a (l.getD k [])).set k (l.getD a [])).getD j [] = if j = k then l.getD a [] else if j = a then l.getD k [] else l.getD j [] := by
  rw [getD_setL (by simpa using hk), getD_setL ha]
theorem MX.swap {a k ca ck : Nat} (h : MX w bl rs l) (ha : a < l.length) (hk : k < l.length) (hak : a ≠ k) (hca : (l.getD a []).length ≤ ca) (hck : (l.getD k []).length ≤ ck) :
    MX ((w.setCell ⟨bl, a, none⟩ (.slice (some ⟨rs k, 0, none⟩) (l.getD k []).length ck)).setCell ⟨bl, k, none⟩ (.slice (some ⟨rs a, 0, none⟩) (l.getD a []).length ca)) bl (rswap rs a k) ((l.set a (l.getD k [])).set k (l.getD a [])) := by
  obtain ⟨cs, h1, h2⟩ := h.hd
  have hsz : ∀ i, i < l.length → i < cs.size := by
    intro i hi
    obtain ⟨c, h3, _⟩ := h2 i hi
    exact (Array.getElem?_eq_some_iff.1 h3).1
  have hza := hsz a ha
  have hzk := hsz k hk
  refine ⟨fun i j hi hj => ?_, ⟨_, blk_set (blk_set h1 a _) k _, fun j hj => ?_⟩, fun j hj => ?_⟩
  · simp only [List.length_set] at hi hj
    unfold rswap
    intro e
    by_cases e1 : i = k
    · rw [if_pos e1] at e
      by_cases e2 : j = k
      · omega
      · rw [if_neg e2] at e
        by_cases e3 : j = a
        · rw [if_pos e3] at e
          exact absurd (h.nd a k ha hk e) hak
        · rw [if_neg e3] at e
          exact absurd (h.nd a j ha hj e).symm e3
    · rw [if_neg e1] at e
      by_cases e4 : i = a
      · rw [if_pos e4] at e
        by_cases e2 : j = k
        · rw [if_pos e2] at e
          exact absurd (h.nd k a hk ha e).symm hak
        · rw [if_neg e2] at e
          by_cases e3 : j = a
          · omega
          · rw [if_neg e3] at e
            exact absurd (h.nd k j hk hj e).symm e2
      · rw [if_neg e4] at e
        by_cases e2 : j = k
        · rw [if_pos e2] at e
          exact absurd (h.nd i a hi ha e) e4
        · rw [if_neg e2] at e
          by_cases e3 : j = a
          · rw [if_pos e3] at e
            exact absurd (h.nd i k hi hk e) e1
          · rw [if_neg e3] at e
            exact h.nd i j hi hj e
  · simp only [List.length_set] at hj
    rw [swap_get2 ha hk]
    unfold rswap
    by_cases e1 : j = k
    · subst e1
      rw [if_pos rfl, if_pos rfl]
      exact ⟨ca, by simp [hzk], hca⟩
    · rw [if_neg e1, if_neg e1]
      by_cases e2 : j = a
      · subst e2
        rw [if_pos rfl, if_pos rfl]
        exact ⟨ck, by rw [Array.getElem?_setIfInBounds, if_neg (fun h => e1 h.symm), Array.getElem?_setIfInBounds, if_pos rfl, if_pos hza], hck⟩
      · rw [if_neg e2, if_neg e2]
        obtain ⟨c', h3, h4⟩ := h2 j hj
        refine ⟨c', ?_, h4⟩
        rw [← h3]
        rw [Array.getElem?_setIfInBounds, if_neg (fun h => e1 h.symm), Array.getElem?_setIfInBounds, if_neg (fun h => e2 h.symm)]
  · simp only [List.length_set] at hj
    rw [swap_get2 ha hk]
    have far : ∀ i, i < l.length → IntRow ((w.setCell ⟨bl, a, none⟩ (.slice (some ⟨rs k, 0, none⟩) (l.getD k []).length ck)).setCell ⟨bl, k, none⟩ (.slice (some ⟨rs a, 0, none⟩) (l.getD a []).length ca)) (rs i) (l.getD i []) := fun i hi =>
      (h.row i hi).keep ((Below.heap_setCell _ _ _ _ (h.ne hi)).trans (Below.heap_setCell _ _ _ _ (h.ne hi)))
    unfold rswap
    by_cases e1 : j = k
    · rw [if_pos e1, if_pos e1]; exact far a ha
    · rw [if_neg e1, if_neg e1]
      by_cases e2 : j = a
      · rw [if_pos e2, if_pos e2]; exact far k hk
      · rw [if_neg e2, if_neg e2]; exact far j hj
end
end Go.Proofs.Ytekenifndicdeaa.P
namespace Go.Proofs.Ytekenifndicdeaa.P
open Go.RowKit Go.Proofs.YtekenifndicdeaaW.PrintWords Go.Proofs.YtekenifndicdeaaW.PrintLast Go.Proofs.YtekenifndicdeaaW.PrintMore Go.Proofs.Ytekenifndicdeaa.B
set_option linter.unusedVariables false
set_option linter.unusedSimpArgs false
theorem IntRow.of_R {w : World} {base : Nat} {ok : Nat → Prop} {v : Value} {xs : List Int} (h : Kd.R (Kd.int .i64) 3 w base ok v xs) (hx : xs ≠ []) : ∃ b c, v = .slice (some ⟨b, 0, none⟩) xs.length c ∧ xs.length ≤ c ∧ base ≤ b ∧ IntRow w b xs := by
  obtain ⟨A, c, e, hl, hC⟩ := Kd.R_reads h
  obtain ⟨inner, ho⟩ := Kd.R_own h
  obtain ⟨_, ho⟩ := ho
  rcases ho with ⟨_, hn⟩ | ⟨g, cap, cur, e2, hb, hh, _⟩
  · exact absurd (List.eq_nil_of_length_eq_zero hn) hx
  · subst e2
    injection e with e1 e2 e3
    subst e1
    subst e3
    refine ⟨g, cap, rfl, hl, hb, cur, hh, fun i hi => ?_⟩
    obtain ⟨ad, ea, hc⟩ := Kd.at_int hC (i : Int) (by omega) (by omega)
    injection ea with ea
    subst ea
    have : (⟨g, 0, none⟩ : Addr).add (i : Int).toNat = ⟨g, i, none⟩ := by simp [Addr.add]; omega
    rw [this] at hc
    exact (blk_cell hh i).symm.trans hc
section
variable {w w1 : World} {bl : Nat} {rs : Nat → Nat} {l : List (List Int)}
/-- One row more. -/
theorem MX.snoc {nb c m : Nat} {x : List Int} (h : MX w bl rs l) (hsz : ∃ cs, w.heap[bl]? = some (.cells cs 23 (0, 0)) ∧ cs.size = m) (hlt : l.length < m) (hx : IntRow w nb x) (hc : x.length ≤ c) (hn : ∀ j, j < l.length → rs j ≠ nb) :
    MX (w.setCell ⟨bl, l.length, none⟩ (.slice (some ⟨nb, 0, none⟩) x.length c)) bl (rput rs l.length nb) (l ++ [x]) ∧ ∃ cs, (w.setCell ⟨bl, l.length, none⟩ (.slice (some ⟨nb, 0, none⟩) x.length c)).heap[bl]? = some (.cells cs 23 (0, 0)) ∧ cs.size = m := by
  obtain ⟨cs, h1, h2⟩ := h.hd
  obtain ⟨cs2, h12, hs⟩ := hsz
  rw [h1] at h12
  injection h12 with h12
  injection h12 with h12
  subst h12
  obtain ⟨cs', h1', h2'⟩ := id hx
  have hne : nb ≠ bl := blk_ne h1' h1 (by decide)
  have hget : ∀ j, j < l.length → (l ++ [x]).getD j [] = l.getD j [] := fun j hj => by
    rw [List.getD_eq_getElem?_getD, List.getElem?_append_left hj, List.getD_eq_getElem?_getD]
  have hlast : (l ++ [x]).getD l.length [] = x := by simp [List.getD_eq_getElem?_getD]
  have hp1 : ∀ j, j < l.length → rput rs l.length nb j = rs j := fun j hj => if_neg (by omega)
  have hp2 : rput rs l.length nb l.length = nb := if_pos rfl
  have hcases : ∀ j, j < (l ++ [x]).length → j < l.length ∨ j = l.length := fun j hj => by simp at hj; omega
  refine ⟨⟨fun i j hi hj => ?_, ⟨_, blk_set h1 l.length _, fun j hj => ?_⟩, fun j hj => ?_⟩, ⟨_, blk_set h1 l.length _, by simpa using hs⟩⟩
  · rcases hcases i hi with hi | rfl <;> rcases hcases j hj with hj | rfl
    · rw [hp1 i hi, hp1 j hj]; exact h.nd i j hi hj
    · rw [hp1 i hi, hp2]; intro e; exact absurd e (hn i hi)
    · rw [hp1 j hj, hp2]; intro e; exact absurd e.symm (hn j hj)
    · intro _; rfl
  · rcases hcases j hj with hj | rfl
    · rw [hp1 j hj, hget j hj]
      obtain ⟨c', h3, h4⟩ := h2 j hj
      refine ⟨c', ?_, h4⟩
      rw [← h3, Array.getElem?_setIfInBounds, if_neg (by omega)]
    · rw [hp2, hlast]
      exact ⟨c, by rw [Array.getElem?_setIfInBounds, if_pos rfl, if_pos (by omega)], hc⟩
  · rcases hcases j hj with hj | rfl
    · rw [hp1 j hj, hget j hj]
      exact (h.row j hj).keep (Below.heap_setCell _ _ _ _ (h.ne hj))
    · rw [hp2, hlast]
      exact hx.keep (Below.heap_setCell _ _ _ _ hne)
/-- It reads as rows. -/
theorem MX.C (h : MX w bl rs l) (k : Nat) (hk : k ≤ l.length) (hl : ∀ i, i < l.length → (l.getD i []).length ≤ 1000000) (hm : l.length ≤ 1000000) : Kd.C (Kd.slice 3 (Kd.int .i64)) w (some ⟨bl, 0, none⟩) k (l.take k) := by
  refine ⟨by rw [List.length_take]; omega, by omega, fun _ => ⟨⟨bl, 0, none⟩, rfl, fun j p hj => ?_⟩⟩
  have hlt : j < (l.take k).length := (List.getElem?_eq_some_iff.1 hj).1
  rw [List.length_take] at hlt
  have hp : l.getD j [] = p := by
    rw [List.getElem?_take, if_pos (by omega)] at hj
    rw [List.getD_eq_getElem?_getD, hj]; rfl
  obtain ⟨c, h3, h4⟩ := h.cell j (by omega)
  have hrow := (h.row j (by omega)).C (by have := hl j (by omega); omega)
  rw [hp] at h3 h4 hrow
  refine ⟨[.slice (some ⟨rs j, 0, none⟩) p.length c], rfl, ⟨some ⟨rs j, 0, none⟩, c, rfl, h4, hrow⟩, fun i u hu => ?_⟩
  have hi : i = 0 := by
    have := (List.getElem?_eq_some_iff.1 hu).1
    simpa using this
  subst hi
  have hu' : u = .slice (some ⟨rs j, 0, none⟩) p.length c := by simpa using hu.symm
  subst hu'
  have : (⟨bl, 0, none⟩ : Addr).add (j * (Kd.slice 3 (Kd.int .i64)).sz + 0) = ⟨bl, j, none⟩ := by
    show (⟨bl, 0, none⟩ : Addr).add (j * 1 + 0) = _
    rw [Nat.mul_one]; simp [Addr.add]; omega
  rw [this]; exact h3
end
end Go.Proofs.Ytekenifndicdeaa.P
