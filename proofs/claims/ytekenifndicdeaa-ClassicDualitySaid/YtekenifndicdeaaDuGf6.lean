/- The memory of matrix.eliminate while it works, and what each of its steps does to it. -/
import Derived.Test.YtekenifndicdeaaDuGf4
import Derived.Test.YtekenifndicdeaaDuBase
namespace Go.Proofs.Ytekenifndicdeaa.P
open Go.RowKit Go.Proofs.YtekenifndicdeaaW.PrintWords Go.Proofs.YtekenifndicdeaaW.PrintLast Go.Proofs.YtekenifndicdeaaW.PrintMore Go.Proofs.Ytekenifndicdeaa.B
set_option linter.unusedVariables false
structure ESt (g b4 b5 b7 bl cl m n : Nat) (F : Fr) (w0 w : World) (rs : Nat → Nat) (l : List (List Int)) (vP : Value) (pv : List Int) (bx : List (Nat × Int)) : Prop where
  base : Below w0.heap.size w0 w
  mx : MX w bl rs l
  mat : Mat F.ops n l
  len : l.length = m
  lo : ∀ j, j < m → w0.heap.size ≤ rs j
  blo : w0.heap.size ≤ bl
  bg : BoxG w b4 g
  br : BoxS w b5 (.slice (some ⟨bl, 0, none⟩) m cl)
  bs : BoxS w b7 (.slice none 0 0)
  piv : Kd.R (Kd.int .i64) 3 w w0.heap.size (fun k => ∀ j, j < m → k ≠ rs j) vP pv
  box : ∀ e, e ∈ bx → BoxI w e.1 e.2 ∧ ∀ j, j < m → rs j ≠ e.1
section
variable {g b4 b5 b7 bl cl m n : Nat} {F : Fr} {w0 w w1 : World} {rs : Nat → Nat} {l : List (List Int)} {vP : Value} {pv : List Int} {bx : List (Nat × Int)}
theorem blk_tne {w : World} {b b' : Nat} {cs cs' : Array Value} {t t' : TypeId} (h : w.heap[b]? = some (.cells cs t (0, 0))) (h' : w.heap[b']? = some (.cells cs' t' (0, 0))) (ht : t ≠ t') : b ≠ b' := by
  rintro rfl
  rw [h] at h'
  injection h' with h'
  injection h' with _ h'
  exact ht h'
theorem ESt.rne (h : ESt g b4 b5 b7 bl cl m n F w0 w rs l vP pv bx) {j : Nat} (hj : j < m) : ∃ cs, w.heap[rs j]? = some (.cells cs 3 (0, 0)) := by
  obtain ⟨cs, h1, _⟩ := h.mx.row j (by rw [h.len]; exact hj)
  exact ⟨cs, h1⟩
/-- What touches no block of it leaves it. -/
theorem ESt.below (h : ESt g b4 b5 b7 bl cl m n F w0 w rs l vP pv bx) (hb : Below w.heap.size w w1) : ESt g b4 b5 b7 bl cl m n F w0 w1 rs l vP pv bx where
  base := h.base.trans (hb.mono h.base.size)
  mx := h.mx.below hb
  mat := h.mat
  len := h.len
  lo := h.lo
  blo := h.blo
  bg := blk_below h.bg hb
  br := blk_below h.br hb
  bs := blk_below h.bs hb
  piv := Kd.R_below h.piv hb
  box := fun e he => ⟨blk_below (h.box e he).1 hb, (h.box e he).2⟩
theorem ESt.drew (h : ESt g b4 b5 b7 bl cl m n F w0 w rs l vP pv bx) (k : Nat) : ESt g b4 b5 b7 bl cl m n F w0 (w.drewN k) rs l vP pv bx := h.below (pw_below_drewN (Below.refl _ _) k)
theorem ESt.fewer (h : ESt g b4 b5 b7 bl cl m n F w0 w rs l vP pv bx) {bx' : List (Nat × Int)} (hs : ∀ e, e ∈ bx' → e ∈ bx) : ESt g b4 b5 b7 bl cl m n F w0 w rs l vP pv bx' := { h with box := fun e he => h.box e (hs e he) }
theorem ESt.newboxes (h : ESt g b4 b5 b7 bl cl m n F w0 w rs l vP pv bx) {bx' : List (Nat × Int)} (hb : Below w.heap.size w w1) (hx : ∀ e, e ∈ bx' → w.heap.size ≤ e.1 ∧ BoxI w1 e.1 e.2) : ESt g b4 b5 b7 bl cl m n F w0 w1 rs l vP pv (bx' ++ bx) :=
  { h.below hb with
    box := by
      intro e he
      rcases List.mem_append.1 he with he | he
      · refine ⟨(hx e he).2, fun j hj e2 => ?_⟩
        obtain ⟨cs, h1⟩ := h.rne hj
        have := blk_lt h1
        have := (hx e he).1
        omega
      · exact (h.below hb).box e he }
theorem swap_self {l : List (List Int)} {a : Nat} (ha : a < l.length) : swapS l a a = l := by
  unfold swapS
  apply List.ext_getElem?
  intro i
  rw [List.getElem?_set, List.getElem?_set]
  by_cases e : a = i
  · subst e
    simp [ha]
  · rw [if_neg e, if_neg e]
/-- Two rows change places. -/
theorem ESt.swap (h : ESt g b4 b5 b7 bl cl m n F w0 w rs l vP pv bx) {a k : Nat} (ha : a < m) (hk : k < m) (hp : SwPost bl rs l a k w w1) : ESt g b4 b5 b7 bl cl m n F w0 w1 (rswap rs a k) (swapS l a k) vP pv bx := by
  obtain ⟨hM, hT⟩ := hp
  obtain ⟨cs, h1, _⟩ := h.mx.hd
  have hsw : ∀ j, j < m → ∃ i, i < m ∧ rswap rs a k j = rs i := by
    intro j hj
    unfold rswap
    by_cases e1 : j = k
    · exact ⟨a, ha, if_pos e1⟩
    · by_cases e2 : j = a
      · exact ⟨k, hk, by rw [if_neg e1, if_pos e2]⟩
      · exact ⟨j, hj, by rw [if_neg e1, if_neg e2]⟩
  exact {
    base := h.base.trans (hT.below (fun i _ e => by rw [e]; exact h.blo) h.base.size)
    mx := hM
    mat := Mat_set (Mat_set h.mat a _ (Mat_get h.mat k (by rw [h.len]; exact hk))) k _ (Mat_get h.mat a (by rw [h.len]; exact ha))
    len := by rw [swap_len, h.len]
    lo := fun j hj => by
      obtain ⟨i, hi, e⟩ := hsw j hj
      rw [e]; exact h.lo i hi
    blo := h.blo
    bg := hT.at h.bg (blk_tne h.bg h1 (by decide))
    br := hT.at h.br (blk_tne h.br h1 (by decide))
    bs := hT.at h.bs (blk_tne h.bs h1 (by decide))
    piv := by
      refine Kd.R_mono (Kd.R_step (Kd.R_bound h.piv) (fun i hi hlt => hT.block i hlt ?_)) (fun i hi j hj => ?_)
      · obtain ⟨_, _, _, q, hq, cells, hc⟩ := hi
        have hq' : q = 3 := by simpa [Kd.int, Kd.scalar] using hq
        subst hq'
        exact blk_tne hc h1 (by decide)
      · obtain ⟨i', hi', e⟩ := hsw j hj
        rw [e]; exact hi.1 i' hi'
    box := fun e he => ⟨hT.at (h.box e he).1 (blk_tne (h.box e he).1 h1 (by decide)), fun j hj => by
      obtain ⟨i, hi, e2⟩ := hsw j hj
      rw [e2]; exact (h.box e he).2 i hi⟩ }
/-- A row is scaled. -/
theorem ESt.scale (h : ESt g b4 b5 b7 bl cl m n F w0 w rs l vP pv bx) {a : Nat} {v : Int} (ha : a < m) (hmat : Mat F.ops n (l.set a (scaleS F.ops v (l.getD a [])))) (hp : ScPost F bl rs l a v w w1) : ∃ rs', ESt g b4 b5 b7 bl cl m n F w0 w1 rs' (l.set a (scaleS F.ops v (l.getD a []))) vP pv bx := by
  obtain ⟨nb, hnb, hM, hT⟩ := hp
  obtain ⟨cs, h1, _⟩ := h.mx.hd
  have hput : ∀ j, rput rs a nb j = if j = a then nb else rs j := fun j => rfl
  refine ⟨_, {
    base := h.base.trans (hT.below (fun i _ e => by rw [e]; exact h.blo) h.base.size)
    mx := hM
    mat := hmat
    len := by rw [List.length_set, h.len]
    lo := fun j hj => by
      rw [hput]
      split
      · exact Nat.le_trans h.base.size hnb
      · exact h.lo j hj
    blo := h.blo
    bg := hT.at h.bg (blk_tne h.bg h1 (by decide))
    br := hT.at h.br (blk_tne h.br h1 (by decide))
    bs := hT.at h.bs (blk_tne h.bs h1 (by decide))
    piv := ?_
    box := fun e he => ⟨hT.at (h.box e he).1 (blk_tne (h.box e he).1 h1 (by decide)), fun j hj => ?_⟩ }⟩
  · refine Kd.R_mono (Kd.R_step (Kd.R_bound h.piv) (fun i hi hlt => hT.block i hlt ?_)) (fun i hi j hj => ?_)
    · obtain ⟨_, _, _, q, hq, cells, hc⟩ := hi
      have hq' : q = 3 := by simpa [Kd.int, Kd.scalar] using hq
      subst hq'
      exact blk_tne hc h1 (by decide)
    · rw [hput]
      split
      · have := hi.2.2.1; omega
      · exact hi.1 j hj
  · rw [hput]
    split
    · have := blk_lt (h.box e he).1; omega
    · exact (h.box e he).2 j hj
/-- A multiple of a row is added to another. -/
theorem ESt.add (h : ESt g b4 b5 b7 bl cl m n F w0 w rs l vP pv bx) {a i : Nat} {x : Int} (hi : i < m) (hmat : Mat F.ops n (l.set i (addToS F.ops (l.getD i []) (F.neg x) (l.getD a [])))) (hp : AdPost F bl rs l a i x w w1) : ESt g b4 b5 b7 bl cl m n F w0 w1 rs (l.set i (addToS F.ops (l.getD i []) (F.neg x) (l.getD a []))) vP pv bx := by
  obtain ⟨hM, hT⟩ := hp
  obtain ⟨cs, h1⟩ := h.rne hi
  exact {
    base := h.base.trans (hT.below (fun k _ e => by rw [e]; exact h.lo i hi) h.base.size)
    mx := hM
    mat := hmat
    len := by rw [List.length_set, h.len]
    lo := h.lo
    blo := h.blo
    bg := hT.at h.bg (blk_tne h.bg h1 (by decide))
    br := hT.at h.br (blk_tne h.br h1 (by decide))
    bs := hT.at h.bs (blk_tne h.bs h1 (by decide))
    piv := Kd.R_step h.piv (fun k hk hlt => hT.block k hlt (hk i hi))
    box := fun e he => ⟨hT.at (h.box e he).1 (fun e2 => (h.box e he).2 i hi e2.symm), (h.box e he).2⟩ }
/-- A pivot is appended. -/
theorem ESt.append (h : ESt g b4 b5 b7 bl cl m n F w0 w rs l vP pv bx) {v1 : Value} {pv1 : List Int} (hR : Kd.R (Kd.int .i64) 3 w1 w0.heap.size (fun k => ∀ j, j < m → k ≠ rs j) v1 pv1) (hb : Below w0.heap.size w0 w1) (hg : w.grownBy w1 vP.ownBlock) : ESt g b4 b5 b7 bl cl m n F w0 w1 rs l v1 pv1 [] := by
  have hT : Tch (fun k => vP.ownBlock = some k) w w1 := ⟨hg.os, hg.tape, hg.output, hg.size, fun k hk hn => hg.block k hk (fun e => hn e.symm)⟩
  have hty : ∀ k, vP.ownBlock = some k → ∃ cells, w.heap[k]? = some (.cells cells 3 (0, 0)) := fun k hk => by
    obtain ⟨inner, ho⟩ := Kd.R_own h.piv
    exact own_typed ho k hk
  obtain ⟨cs, h1, _⟩ := h.mx.hd
  have ne : ∀ {b : Nat} {cs' : Array Value} {t : TypeId}, w.heap[b]? = some (.cells cs' t (0, 0)) → t ≠ 3 → ¬ vP.ownBlock = some b := fun hb' ht e => by
    obtain ⟨cells, hc⟩ := hty _ e
    exact blk_tne hb' hc ht rfl
  exact {
    base := hb
    mx := h.mx.tch hT (ne h1 (by decide)) (fun i hi e => h.piv.1 _ e i (by rw [← h.len]; exact hi) rfl)
    mat := h.mat
    len := h.len
    lo := h.lo
    blo := h.blo
    bg := hT.at h.bg (ne h.bg (by decide))
    br := hT.at h.br (ne h.br (by decide))
    bs := hT.at h.bs (ne h.bs (by decide))
    piv := hR
    box := fun e he => by cases he }
end
end Go.Proofs.Ytekenifndicdeaa.P
