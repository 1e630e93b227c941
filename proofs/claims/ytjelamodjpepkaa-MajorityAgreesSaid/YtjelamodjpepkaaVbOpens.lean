/- An argument that can be read as data is read by the printed contracts' own words: kind by kind. -/
import Derived.Test.YtjelamodjpepkaaVbBase
import Derived.ProofKit
import Derived.Deep.Slices
namespace Go.Proofs.Ytjelamodjpepkaa.B
open Go.RowKit Go.Proofs.YtjelamodjpepkaaW.PrintWords
set_option linter.unusedVariables false
/-- Cells that read as data at type t read as the kind d, and what is read has G. -/
def Opens (P : Program) (W : World) (t : TypeId) {α : Type} (d : Kd α) (G : α → Prop) : Prop :=
  P.cellsOf t = d.sz ∧ ∀ (H : Type) (enc : TypeId × Value → H) (base : Nat) (held : Bool) (fuel : Nat) (cs : List Value) (x : DataW H × List MemPlace),
    DataW.trod enc P W base (fun _ => true) held fuel t cs = some x → ∃ a, d.K W a cs ∧ G a
theorem Opens.int {P : Program} {W : World} {t : TypeId} {k : IntKind} (ht : P.underlying t = some (.int k)) (hc : P.cellsOf t = 1) : Opens P W t (Kd.int k) (fun n => (Lit.int k n).wf = true) := by
  refine ⟨hc, fun H enc base held fuel cs x h => ?_⟩
  obtain ⟨n, rfl, _, hw⟩ := DataW.trod_int ht h
  exact ⟨n, rfl, hw⟩
theorem choose_list {α : Type} {n : Nat} {p : Nat → α → Prop} (h : ∀ i, i < n → ∃ a, p i a) : ∃ l : List α, l.length = n ∧ ∀ i a, l[i]? = some a → p i a := by
  induction n with
  | zero => exact ⟨[], rfl, fun i a h => by simp at h⟩
  | succ n ih =>
    obtain ⟨l, hl, hp⟩ := ih (fun i hi => h i (by omega))
    obtain ⟨a, ha⟩ := h n (by omega)
    refine ⟨l ++ [a], by simp [hl], fun i b hb => ?_⟩
    rw [List.getElem?_append] at hb
    split at hb
    · exact hp i b hb
    · rename_i hlt
      have : i = n := by
        have := (List.getElem?_eq_some_iff.1 hb).1
        simp at this; omega
      subst this
      have hb2 : a = b := by simpa [hl] using hb
      exact hb2 ▸ ha
theorem Opens.cells {P : Program} {W : World} {t e : TypeId} {α : Type} {d : Kd α} {G : α → Prop} (ht : P.underlying t = some (.slice e)) (he : Opens P W e d G)
    {H : Type} {enc : TypeId × Value → H} {base : Nat} {held : Bool} {fuel : Nat} {cs : List Value} {x : DataW H × List MemPlace} (h : DataW.trod enc P W base (fun _ => true) held fuel t cs = some x) :
    ∃ (l : List α) (A : Option Addr) (c : Nat), cs = [.slice A l.length c] ∧ l.length ≤ c ∧ c ≤ maxLen ∧ d.C W A l.length l ∧ ∀ a ∈ l, G a := by
  rcases Go.Deep.open_slice ht h with ⟨rfl, rfl⟩ | ⟨a, len, cap, m, n, D, Pl, rfl, hb, hl, hm, hmm, rfl, hx⟩
  · exact ⟨[], none, 0, rfl, Nat.le_refl _, by simp [maxLen], ⟨rfl, by simp, by simp⟩, by simp⟩
  · simp only [if_true] at hmm
    obtain ⟨l, hll, hlp⟩ := choose_list (n := len) (p := fun i v => ∃ cs', W.cells? base (a.add (i * P.cellsOf e)) (P.cellsOf e) = some cs' ∧ d.K W v cs' ∧ G v) (fun i hi => by
      obtain ⟨cs', h1, h2⟩ := hx i (by omega)
      obtain ⟨v, hv, hG⟩ := he.2 H enc base held n cs' _ h2
      exact ⟨v, cs', h1, hv, hG⟩)
    subst hll
    refine ⟨l, some a, cap, rfl, hl, hm, ⟨rfl, by simp [maxLen] at hm; omega, fun _ => ⟨a, rfl, fun j p hj => ?_⟩⟩, fun v hv => ?_⟩
    · obtain ⟨cs', h1, h2, _⟩ := hlp j p hj
      obtain ⟨_, hlen, hcell⟩ := World.cells?_some h1
      refine ⟨cs', by rw [hlen]; exact he.1, h2, fun i u hu => ?_⟩
      rw [he.1] at hcell hlen
      have hi : i < d.sz := by
        have := (List.getElem?_eq_some_iff.1 hu).1
        omega
      have := hcell i hi
      rw [Go.Deep.add_add] at this
      exact this.trans hu
    · obtain ⟨i, hi, rfl⟩ := List.getElem_of_mem hv
      exact (hlp i _ (List.getElem?_eq_getElem hi)).choose_spec.2.2
theorem Opens.slice {P : Program} {W : World} {t e : TypeId} {α : Type} {d : Kd α} {G : α → Prop} (ht : P.underlying t = some (.slice e)) (hc : P.cellsOf t = 1) (he : Opens P W e d G) :
    Opens P W t (Kd.slice e d) (fun l => l.length ≤ maxLen ∧ ∀ a ∈ l, G a) := by
  refine ⟨hc, fun H enc base held fuel cs x h => ?_⟩
  obtain ⟨l, A, c, rfl, hl, hm, hC, hG⟩ := Opens.cells ht he h
  exact ⟨l, ⟨A, c, rfl, hl, hC⟩, Nat.le_trans hl hm, hG⟩
/-- A slice argument. -/
theorem Opens.arg {P : Program} {W : World} {t e : TypeId} {α : Type} {d : Kd α} {G : α → Prop} (ht : P.underlying t = some (.slice e)) (he : Opens P W e d G)
    {H : Type} {enc : TypeId × Value → H} {base : Nat} {held : Bool} {A : Option Addr} {len cap : Nat} {D : DataW H} {ps : List MemPlace} (h : DataW.Trod enc P W base (fun _ => true) held t (.slice A len cap) D ps) :
    ∃ l : List α, len = l.length ∧ l.length ≤ cap ∧ l.length ≤ maxLen ∧ d.C W A l.length l ∧ ∀ a ∈ l, G a := by
  obtain ⟨fuel, hf⟩ := h
  obtain ⟨l, A', c', e1, hl, hm, hC, hG⟩ := Opens.cells ht he hf
  simp [Value.cells] at e1
  obtain ⟨rfl, rfl, rfl⟩ := e1
  exact ⟨l, rfl, hl, Nat.le_trans hl hm, hC, hG⟩
end Go.Proofs.Ytjelamodjpepkaa.B
