import Derived.Test.YtekenifndicdeaaDuHClone
import Derived.Deep.RegionLaw
import Derived.Deep.RegionLawGrows
import Derived.Laws.EntriesVeiled
namespace Go.Proofs.Ytekenifndicdeaa.P
open Go.RowKit Go.Proofs.YtekenifndicdeaaW.PrintWords Go.Proofs.YtekenifndicdeaaW.PrintLast Go.Proofs.YtekenifndicdeaaW.PrintMore
attribute [local go_sem] max2_int min2_int max_two min_two max_three min_three max_four min_four
set_option linter.unusedVariables false
set_option linter.unusedSimpArgs false
/-- What the local function adds from the variable v on (d variables are left). -/
def combs (size : Nat) : Nat → Int → List Int → List (List Int)
  | 0, _, _ => []
  | d + 1, v, vars => (if (vars ++ [v]).length = size then [vars ++ [v]] else combs size d (v + 1) (vars ++ [v])) ++ combs size d (v + 1) vars
def combs1 (size : Nat) (d : Nat) (v : Int) (vars : List Int) : List (List Int) := if vars.length = size then [vars] else combs size d v vars
def fv (bs bo bm bf : Nat) : Value := .func (Fn.func 52) #[] #[.pointer (some ⟨bs, 0, none⟩), .pointer (some ⟨bo, 0, none⟩), .pointer (some ⟨bm, 0, none⟩), .pointer (some ⟨bf, 0, none⟩)]
/-- The captured variables. -/
structure Cap (w : World) (bs bo bm bf : Nat) (size : Nat) (m : Int) (vo : Value) (L : List (List Int)) (B : Nat) : Prop where
  hs : w.heap[bs]? = some (.cells #[.int .i64 (size : Int)] 3 (0, 0))
  ho : w.heap[bo]? = some (.cells #[vo] 26 (0, 0))
  hm : w.heap[bm]? = some (.cells #[.int .i64 m] 3 (0, 0))
  hf : w.heap[bf]? = some (.cells #[fv bs bo bm bf] 73 (0, 0))
  own : Kd.S (Kd.slice 3 (Kd.int .i64)) 23 w B (fun _ => True) vo L
  base : B ≤ bo ∧ B ≤ w.heap.size
theorem Cap.below {w w1 : World} {bs bo bm bf size : Nat} {m : Int} {vo : Value} {L : List (List Int)} {B : Nat} (h : Cap w bs bo bm bf size m vo L B) (hb : Below w.heap.size w w1) : Cap w1 bs bo bm bf size m vo L B :=
  ⟨blk_below h.hs hb, blk_below h.ho hb, blk_below h.hm hb, blk_below h.hf hb, Kd.S_below h.own hb, h.base.1, Nat.le_trans h.base.2 hb.size⟩
theorem S_apart_new {w W : World} {B N : Nat} {vo v2 : Value} {L : List (List Int)} {l1 : List Int} {okv : Nat → Prop} (h : Kd.S (Kd.slice 3 (Kd.int .i64)) 23 w B (fun _ => True) vo L) (hW : Below w.heap.size w W)
    (h2 : Kd.R (Kd.int .i64) 3 W N okv v2 l1) (hN : w.heap.size ≤ N) : Kd.S (Kd.slice 3 (Kd.int .i64)) 23 W B (fun k => True ∧ ¬ some k = v2.ownBlock) vo L :=
  Kd.S_mono (Kd.S_step (Kd.S_bound h) (fun k hk hlt => hW.block k hlt)) (fun k hk => ⟨trivial, fun e => by have := Kd.R_base h2 k e.symm; have := hk.2.2.1; omega⟩)
theorem cap_bo {w W w1 : World} {bs bo bm bf size : Nat} {m : Int} {vo : Value} {L : List (List Int)} {B : Nat} (h : Cap w bs bo bm bf size m vo L B) (hW : Below w.heap.size w W) (hg : W.grownBy w1 vo.ownBlock) : w1.heap[bo]? = some (.cells #[vo] 26 (0, 0)) := by
  have hlt : bo < w.heap.size := blk_lt h.ho
  rw [hg.block bo (Nat.lt_of_lt_of_le hlt hW.size) (Kd.S_ne h.own h.ho (by decide)), hW.block bo hlt]
  exact h.ho
theorem cap_store {w W w1 : World} {bs bo bm bf size : Nat} {m : Int} {vo v1 : Value} {L L1 : List (List Int)} {B : Nat} (h : Cap w bs bo bm bf size m vo L B) (hW : Below w.heap.size w W)
    (hS : Kd.S (Kd.slice 3 (Kd.int .i64)) 23 w1 B (fun _ => True) v1 L1) (hB : Below B w w1) (hg : W.grownBy w1 vo.ownBlock) (hat : v1.ownBlock = vo.ownBlock ∨ ∃ b, v1.ownBlock = some b ∧ W.heap.size ≤ b) :
    Cap (w1.setCell ⟨bo, 0, none⟩ v1) bs bo bm bf size m v1 L1 B ∧ Below B w (w1.setCell ⟨bo, 0, none⟩ v1) ∧ (v1.ownBlock = vo.ownBlock ∨ ∃ b, v1.ownBlock = some b ∧ w.heap.size ≤ b) ∧ Kept w (w1.setCell ⟨bo, 0, none⟩ v1) (fun k => k = bo ∨ some k = vo.ownBlock) := by
  have hty : ∀ k, vo.ownBlock = some k → ∃ cells, w.heap[k]? = some (.cells cells 23 (0, 0)) := Kd.S_typed h.own
  have old : ∀ k o, w.heap[k]? = some o → some k ≠ vo.ownBlock → w1.heap[k]? = some o := by
    intro k o ho hne
    have hlt : k < w.heap.size := blk_lt ho
    rw [hg.block k (Nat.lt_of_lt_of_le hlt hW.size) hne, hW.block k hlt]
    exact ho
  have ne : ∀ (k : Nat) (cs : Array Value) (t : TypeId), w.heap[k]? = some (.cells cs t (0, 0)) → t ≠ 23 → some k ≠ vo.ownBlock := by
    intro k cs t hk ht e
    obtain ⟨cells, hc⟩ := hty k e.symm
    rw [hk] at hc
    injection hc with hc
    injection hc with _ hc
    exact ht hc
  have far : ∀ (k : Nat) (cs : Array Value) (t : TypeId), w.heap[k]? = some (.cells cs t (0, 0)) → t ≠ 23 → t ≠ 26 → (w1.setCell ⟨bo, 0, none⟩ v1).heap[k]? = some (.cells cs t (0, 0)) := by
    intro k cs t hk ht ht2
    have hkbo : k ≠ bo := fun e => by
      rw [e, h.ho] at hk
      injection hk with hk
      injection hk with _ hk
      exact ht2 hk.symm
    rw [Below.heap_setCell w1 ⟨bo, 0, none⟩ v1 k hkbo]
    exact old k _ hk (ne k cs t hk ht)
  have hbo1 : w1.heap[bo]? = some (.cells #[vo] 26 (0, 0)) := old bo _ h.ho (ne bo _ _ h.ho (by decide))
  refine ⟨⟨far bs _ _ h.hs (by decide) (by decide), ?_, far bm _ _ h.hm (by decide) (by decide), far bf _ _ h.hf (by decide) (by decide), Kd.S_set hS hbo1 (by simp [Kd.slice, Kd.int, Kd.scalar]) 0 v1, h.base.1, ?_⟩, hB.setCell h.base.1 _, ?_, ?_, ?_⟩
  · have := blk_set (w := w1) (g := bo) hbo1 0 v1
    simpa using this
  · simp only [World.setCell]
    have := hB.size
    have := h.base.2
    simp; omega
  · rcases hat with hat | ⟨b, hb, hle⟩
    · exact .inl hat
    · exact .inr ⟨b, hb, Nat.le_trans hW.size hle⟩
  · have := hB.size
    simpa [World.setCell] using this
  · intro k hk hn
    rw [Below.heap_setCell w1 ⟨bo, 0, none⟩ v1 k (fun e => hn (.inl e)), hg.block k (Nat.lt_of_lt_of_le hk hW.size) (fun e => hn (.inr e)), hW.block k hk]
/-- What a call of the local function does. -/
def AddSaid (d : Nat) : Prop := ∀ (size : Nat) (m v : Int) (A1 : Option Addr) (c1 : Nat) (l1 : List Int) (vo : Value) (L : List (List Int)) (w : World) (bs bo bm bf B : Nat),
  0 ≤ v → v ≤ m → m - v = d → m ≤ 6 → size ≤ 7 → Cap w bs bo bm bf size m vo L B → Kd.C (Kd.int .i64) w A1 l1.length l1 → (∀ ad, A1 = some ad → 0 < l1.length → ∃ cells, w.heap[ad.block]? = some (.cells cells 3 (0, 0))) → l1.length ≤ c1 → l1.length + d ≤ 64 →
  L.length + (combs1 size d v l1).length ≤ 4096 →
  Calls Try.prog 52 #[.int .i64 v, .slice A1 l1.length c1, .pointer (some ⟨bs, 0, none⟩), .pointer (some ⟨bo, 0, none⟩), .pointer (some ⟨bm, 0, none⟩), .pointer (some ⟨bf, 0, none⟩)] w
    fun e w' => e = .returned (.tuple #[]) ∧ ∃ vo', Cap w' bs bo bm bf size m vo' (L ++ combs1 size d v l1) B ∧ Below B w w' ∧ (vo'.ownBlock = vo.ownBlock ∨ ∃ b, vo'.ownBlock = some b ∧ w.heap.size ≤ b) ∧ Kept w w' (fun k => k = bo ∨ some k = vo.ownBlock)
set_option maxRecDepth 100000 in
set_option maxHeartbeats 1000000 in
theorem add_full (d size : Nat) (m v : Int) (A1 : Option Addr) (c1 : Nat) (l1 : List Int) (vo : Value) (L : List (List Int)) (w : World) (bs bo bm bf B : Nat)
    (hsz : size ≤ 7) (hcap : Cap w bs bo bm bf size m vo L B) (hC : Kd.C (Kd.int .i64) w A1 l1.length l1) (hc1 : l1.length ≤ c1) (hL : L.length + 1 ≤ 4096) (hfull : l1.length = size) :
  Calls Try.prog 52 #[.int .i64 v, .slice A1 l1.length c1, .pointer (some ⟨bs, 0, none⟩), .pointer (some ⟨bo, 0, none⟩), .pointer (some ⟨bm, 0, none⟩), .pointer (some ⟨bf, 0, none⟩)] w
    fun e w' => e = .returned (.tuple #[]) ∧ ∃ vo', Cap w' bs bo bm bf size m vo' (L ++ [l1]) B ∧ Below B w w' ∧ (vo'.ownBlock = vo.ownBlock ∨ ∃ b, vo'.ownBlock = some b ∧ w.heap.size ≤ b) ∧ Kept w w' (fun k => k = bo ∨ some k = vo.ownBlock) := by
  have HCAP := Aside0.mk hcap
  have HC := Aside0.mk hC
  have HC1 := Aside0.mk hc1
  have HL := Aside0.mk hL
  have f1 : w.cell? ⟨bs, 0, none⟩ = some (.int .i64 (size : Int)) := (blk_cell hcap.hs 0).trans rfl
  have f2 : w.cell? ⟨bo, 0, none⟩ = some vo := (blk_cell hcap.ho 0).trans rfl
  have f3 : w.frozen? ⟨bo, 0, none⟩ = false := blk_frozen hcap.ho 0
  have cell2 : ∀ W : World, Below w.heap.size w W → W.cell? ⟨bo, 0, none⟩ = some vo := fun W hW => (hW.cell (World.block_lt_of_cell? w _ f2)).trans f2
  have HCELL := Aside0.mk cell2
  clear cell2
  have fclone : slices_Clone_int_int.f l1 = some l1 := by
    unfold slices_Clone_int_int.f
    simp only [Option.bind_some, List.nil_append]
    rw [if_pos (by simp; omega)]
  have HF := Aside0.mk fclone
  clear fclone
  have hq1 : ((l1.length : Int) == (size : Int)) = true := by rw [beq_iff_eq]; omega
  have hq2 : (l1.length == size) = true := by rw [beq_iff_eq]; omega
  clear hcap hC hc1 hL hfull
  go_enter Try.func52, Try.ntmps52
  go_wp2
  go_region_law (first
    | (refine goes_ (N := some 15) Try.func53 (by kernel_rfl) rfl #[.slice A1 l1.length c1] rfl rfl rfl ?hargs ?_; (case hargs => ((try simp only [List.map_toArray, List.map_cons, List.map_nil]); first | done | rfl)); refine (slices_Clone_int_int.calls A1 c1 l1 l1 _ ?s1 HC1.out HF.out).mono ?_; (case s1 => exact Kd.C_drew HC.out); rintro e w2 ⟨v2, rfl, ho, hb⟩; refine ⟨v2, rfl, ?_⟩; obtain ⟨A2, c2, e2⟩ := Kd.R_slice ho; subst e2; have HB2 := Aside0.mk (below_step (below_drew (Below.refl w.heap.size w)) hb); have HR2 := Aside0.mk ho; have g2 := HCELL.out w2 HB2.out; have g2a := fun (o : Obj) => HCELL.out (w2.alloc o) (below_alloc HB2.out o); clear hb ho)
    | (refine Kd.S_append_step (Kd.slice 3 (Kd.int .i64)) (w0 := w) B rfl (.tmp 13) (.tmp 16) 26 23 (.slice none 0 0) 24 rfl Try.underlying26 info23 rfl (by decide) (by omega) vo L l1 _ (fun _ => True) (fun k => some k = (Value.slice A2 l1.length c2).ownBlock) rfl rfl ?hp ?hokp (fun _ _ => trivial) ?HO ?HB ?hbase ?hl ?_; (case hp => exact ⟨_, rfl, Kd.R_tight rfl (Kd.R_lower HR2.out (Nat.le_trans HCAP.out.base.2 (Nat.le_refl _)))⟩); (case hokp => exact fun k hk => ⟨trivial, fun e => by have h1 := Kd.R_base HR2.out k hk.symm; have h2 := Kd.S_lt HCAP.out.own k e.symm; have h0 : w.drew.heap.size = w.heap.size := rfl; exact absurd h2 (by omega)⟩); (case HO => exact S_apart_new HCAP.out.own HB2.out HR2.out (Nat.le_refl _)); (case HB => exact (HB2.out).mono HCAP.out.base.2); (case hbase => exact Nat.le_trans HCAP.out.base.2 HB2.out.size); (case hl => have := HL.out; omega); intro v3 w3 hS3 hB3 hg3 hat3; have b3 := cap_bo HCAP.out HB2.out hg3; have g3 := (blk_cell b3 0).trans rfl; have g3f := blk_frozen b3 0; obtain ⟨A3, c3, e3⟩ := Kd.S_slice hS3; subst e3; clear b3; have FIN := Aside0.mk (cap_store HCAP.out HB2.out hS3 hB3 hg3 hat3); clear hS3 hB3 hg3 hat3))
  all_goals
    go_wp2
    have F := FIN.out
    rw [show (L ++ [l1]).length = L.length + 1 from by simp] at F
    exact bodyPost_ret (v := .tuple #[]) (by simp [results, Try.results52, go_sem]) rfl ⟨rfl, _, F⟩
/-- A call of a function value that closes over variables. -/
theorem goesv_ {P : Program} {ops : Array Oper} {Q : Exit → Act → World → Prop} {oi : Oper} {N : Option Tmp} {a : Act} {w : World} {K : Act → World → Prop} {f : FuncId} {fn : Func} {ags : Array Operand} {ts : Array TypeId} {s : Operand} {cap : Array Value} (hf : P.funcs[f]? = some fn) (hname : (fn.name == "runtime.NumGoroutine") = false) (hb : fn.body.isSome = true) (args : Array Value)
    (hw : Region.wanted oi (yielded ops a.tmps) = true) (hN : oi.dst = N) (hop : oi.op = .call { callee := .value s, args := ags, argTypes := ts }) (hv : a.eval s = .func (.func f) #[] cap) (hargs : ags.map a.eval ++ cap = args)
    (h : Calls P f args w fun e w' => ∃ v, e = .returned v ∧ K (a.put N v) w') : if Region.wanted oi (yielded ops a.tmps) = true then Oper.wp P oi a w K Q else K (a.put N undef) w := by
  refine call_ f args hw hN ?_ h
  have he := enters_ hf hname hb args w
  unfold execOp
  simp [hop, resolve, Deferred.ofValue, invoke, hv, hargs, he]
theorem C_kept {w wr : World} {A1 : Option Addr} {l1 : List Int} {vo : Value} {L : List (List Int)} {bs bo bm bf size : Nat} {m : Int} {B : Nat} (hC : Kd.C (Kd.int .i64) w A1 l1.length l1) (hA : ∀ ad, A1 = some ad → 0 < l1.length → ∃ cells, w.heap[ad.block]? = some (.cells cells 3 (0, 0)))
    (h : Cap w bs bo bm bf size m vo L B) (hk : Kept w wr (fun k => k = bo ∨ some k = vo.ownBlock)) : Kd.C (Kd.int .i64) wr A1 l1.length l1 ∧ ∀ ad, A1 = some ad → 0 < l1.length → ∃ cells, wr.heap[ad.block]? = some (.cells cells 3 (0, 0)) := by
  have same : ∀ ad, A1 = some ad → 0 < l1.length → wr.heap[ad.block]? = w.heap[ad.block]? := by
    intro ad e hn
    obtain ⟨cells, hc⟩ := hA ad e hn
    refine hk.2 _ (blk_lt hc) ?_
    rintro (e2 | e2)
    · rw [e2, h.ho] at hc
      injection hc with hc
      injection hc with _ hc
      exact absurd hc (by decide)
    · obtain ⟨cells2, hc2⟩ := Kd.S_typed h.own _ e2.symm
      rw [hc] at hc2
      injection hc2 with hc2
      injection hc2 with _ hc2
      exact absurd hc2 (by decide)
  refine ⟨⟨hC.1, hC.2.1, fun hn => ?_⟩, fun ad e hn => ?_⟩
  · obtain ⟨ad, e, hx⟩ := hC.2.2 hn
    refine ⟨ad, e, fun j p hj => ?_⟩
    obtain ⟨c, h1, h2, h3⟩ := hx j p hj
    refine ⟨c, h1, h2, fun i u hu => ?_⟩
    have hb : ∀ n, (ad.add n).block = ad.block := fun n => by unfold Addr.add; split <;> rfl
    have := h3 i u hu
    unfold World.cell? at this ⊢
    rw [hb, same ad e hn]
    rw [hb] at this
    exact this
  · rw [same ad e hn]; exact hA ad e hn
theorem grow_pre {wr : World} {A1 : Option Addr} {l1 : List Int} (x : Int) (hC : Kd.C (Kd.int .i64) wr A1 l1.length l1) :
    (A1 = none → l1.length = 0 ∧ l1.length = 0) ∧ (∀ b, A1 = some b → ∀ j u, (nums .i64 l1)[j]? = some u → (wr.alloc (.cells #[.int .i64 x] 3)).drew.cell? (b.add j) = some u) ∧
    (∀ (j : Nat) (u : Value), [Value.int .i64 x][j]? = some u → (wr.alloc (.cells #[.int .i64 x] 3)).drew.cell? ((⟨wr.heap.size, 0, none⟩ : Addr).add j) = some u) := by
  refine ⟨fun e => ?_, fun b e j u hu => ?_, fun j u hu => ?_⟩
  · by_cases hn : 0 < l1.length
    · obtain ⟨ad, h, _⟩ := hC.2.2 hn
      rw [e] at h; cases h
    · omega
  · have hC2 := Kd.C_drew (Kd.C_alloc hC (.cells #[.int .i64 x] 3))
    have hj : j < l1.length := by
      have := (List.getElem?_eq_some_iff.1 hu).1
      simpa [nums] using this
    obtain ⟨ad, h, hx⟩ := hC2.2.2 (by omega)
    rw [e] at h
    obtain rfl := Option.some.inj h
    obtain ⟨c, h1, h2, h3⟩ := hx j l1[j] (List.getElem?_eq_getElem hj)
    have hc : c = [Value.int .i64 l1[j]] := h2
    subst hc
    have h4 := h3 0 _ rfl
    have e2 : u = .int .i64 l1[j] := by
      simp [nums, List.getElem?_map, List.getElem?_eq_getElem hj] at hu
      exact hu.symm
    rw [e2]
    have e3 : j * (Kd.int .i64).sz + 0 = j := by show j * 1 + 0 = j; omega
    rw [e3] at h4
    exact h4
  · have hj : j = 0 := by
      have := (List.getElem?_eq_some_iff.1 hu).1
      simp at this; exact this
    subst hj
    have hb := blk_drew (blk_new wr (.cells #[.int .i64 x] 3))
    have := blk_cell hb 0
    simp at hu
    subst hu
    rw [show (⟨wr.heap.size, 0, none⟩ : Addr).add 0 = ⟨wr.heap.size, 0, none⟩ from by simp [Addr.add]]
    exact this.trans rfl
theorem grow_post {wr w' : World} {l1 : List Int} {x : Int} {v' : Value} (hown : w'.ownsRow (wr.alloc (.cells #[.int .i64 x] 3)).drew.heap.size 3 1 v' (l1.length + 1) (nums .i64 l1 ++ [.int .i64 x])) (hg : (wr.alloc (.cells #[.int .i64 x] 3)).drew.grownBy w' none) :
    Below wr.heap.size wr w' ∧ ∃ A' c', v' = .slice A' (l1.length + 1) c' ∧ Kd.C (Kd.int .i64) w' A' (l1 ++ [x]).length (l1 ++ [x]) ∧ (∀ ad, A' = some ad → 0 < (l1 ++ [x]).length → ∃ cells, w'.heap[ad.block]? = some (.cells cells 3 (0, 0))) ∧ (l1 ++ [x]).length ≤ c' := by
  have hl : (l1 ++ [x]).length = l1.length + 1 := by simp
  have hb0 : Below wr.heap.size wr (wr.alloc (.cells #[.int .i64 x] 3)).drew := below_drew (below_alloc (Below.refl _ _) _)
  have hR : Kd.R (Kd.int .i64) 3 w' (wr.alloc (.cells #[.int .i64 x] 3)).drew.heap.size (fun _ => True) v' (l1 ++ [x]) := by
    refine Kd.R_of_own ?_ (fun _ _ => trivial)
    rw [hl]
    have : encs (Value.int .i64) (l1 ++ [x]) = nums .i64 l1 ++ [.int .i64 x] := by simp [encs, nums]
    rw [this]; exact hown
  refine ⟨hb0.grown hg hb0.size (fun k hk => by cases hk), ?_⟩
  obtain ⟨A', c', e, h1, h2⟩ := Kd.R_reads hR
  refine ⟨A', c', by rw [e, hl], h2, fun ad e2 hn => ?_, h1⟩
  obtain ⟨g, cap, e3, _, _, hc⟩ := Kd.R_form hR hn
  rw [e] at e3
  injection e3 with e4
  rw [e2] at e4
  obtain rfl := Option.some.inj e4
  exact hc
def LoopRel (d size : Nat) (m v : Int) (l1 : List Int) (vo : Value) (L : List (List Int)) (w : World) (bs bo bm bf B : Nat) (u : Value) (wr : World) : Prop :=
  ∃ (x : Int) (vX : Value) (LX : List (List Int)), u = .int .i64 x ∧ v ≤ x ∧ x ≤ m ∧ Cap wr bs bo bm bf size m vX LX B ∧ LX ++ combs size (m - x).toNat x l1 = L ++ combs size d v l1 ∧ Below B w wr ∧
    (vX.ownBlock = vo.ownBlock ∨ ∃ b, vX.ownBlock = some b ∧ w.heap.size ≤ b) ∧ Kept w wr (fun k => k = bo ∨ some k = vo.ownBlock)
theorem loop_next {d d' size : Nat} {m v x : Int} {l1 : List Int} {vo vX vo4 : Value} {L LX : List (List Int)} {w wr w' w4 : World} {bs bo bm bf B : Nat} (hd' : m - (x + 1) = d') (hcx : combs size (m - x).toNat x l1 = combs1 size d' (x + 1) (l1 ++ [x]) ++ combs size d' (x + 1) l1)
    (hsum : LX ++ combs size (m - x).toNat x l1 = L ++ combs size d v l1) (hbel : Below B w wr) (hat : vX.ownBlock = vo.ownBlock ∨ ∃ b, vX.ownBlock = some b ∧ w.heap.size ≤ b) (hkept : Kept w wr (fun k => k = bo ∨ some k = vo.ownBlock))
    (hcap : Cap wr bs bo bm bf size m vX LX B) (hbn : Below wr.heap.size wr w') (hcap4 : Cap w4 bs bo bm bf size m vo4 (LX ++ combs1 size d' (x + 1) (l1 ++ [x])) B) (hb4 : Below B w' w4)
    (hat4 : vo4.ownBlock = vX.ownBlock ∨ ∃ b, vo4.ownBlock = some b ∧ w'.heap.size ≤ b) (hk4 : Kept w' w4 (fun k => k = bo ∨ some k = vX.ownBlock)) (h1 : v ≤ x + 1) (h2 : x + 1 ≤ m) :
    LoopRel d size m v l1 vo L w bs bo bm bf B (.int .i64 (x + 1)) w4 := by
  have s1 : w.heap.size ≤ wr.heap.size := hbel.size
  have s2 : wr.heap.size ≤ w'.heap.size := hbn.size
  refine ⟨x + 1, vo4, _, rfl, h1, h2, hcap4, ?_, (hbel.trans (hbn.mono hcap.base.2)).trans hb4, ?_, ?_, ?_⟩
  · rw [show (m - (x + 1)).toNat = d' from by omega, List.append_assoc, ← hcx]
    exact hsum
  · rcases hat4 with e | ⟨b, e, hle⟩
    · rw [e]; exact hat
    · exact .inr ⟨b, e, by omega⟩
  · have := hb4.size; omega
  · intro k hk hn
    rw [hk4.2 k (by omega) ?_, hbn.block k (by omega), hkept.2 k hk hn]
    rintro (e | e)
    · exact hn (.inl e)
    · rcases hat with e2 | ⟨b, e2, hle⟩
      · exact hn (.inr (by rw [← e2]; exact e))
      · rw [e2] at e
        injection e with e
        omega
set_option maxRecDepth 100000 in
set_option maxHeartbeats 1000000 in
theorem add_loop (d : Nat) (ih : ∀ d', d' < d → AddSaid d') (size : Nat) (m v : Int) (A1 : Option Addr) (c1 : Nat) (l1 : List Int) (vo : Value) (L : List (List Int)) (w : World) (bs bo bm bf B : Nat)
    (h0 : 0 ≤ v) (hvm : v ≤ m) (hd : m - v = d) (hm : m ≤ 6) (hsz : size ≤ 7) (hcap : Cap w bs bo bm bf size m vo L B) (hC : Kd.C (Kd.int .i64) w A1 l1.length l1) (hA : ∀ ad, A1 = some ad → 0 < l1.length → ∃ cells, w.heap[ad.block]? = some (.cells cells 3 (0, 0))) (hc1 : l1.length ≤ c1) (hl1 : l1.length + d ≤ 64)
    (hL : L.length + (combs size d v l1).length ≤ 4096) (hfull : l1.length ≠ size) :
  Calls Try.prog 52 #[.int .i64 v, .slice A1 l1.length c1, .pointer (some ⟨bs, 0, none⟩), .pointer (some ⟨bo, 0, none⟩), .pointer (some ⟨bm, 0, none⟩), .pointer (some ⟨bf, 0, none⟩)] w
    fun e w' => e = .returned (.tuple #[]) ∧ ∃ vo', Cap w' bs bo bm bf size m vo' (L ++ combs size d v l1) B ∧ Below B w w' ∧ (vo'.ownBlock = vo.ownBlock ∨ ∃ b, vo'.ownBlock = some b ∧ w.heap.size ≤ b) ∧ Kept w w' (fun k => k = bo ∨ some k = vo.ownBlock) := by
  have HIH := Aside0.mk ih
  have HCAP := Aside0.mk hcap
  have HC := Aside0.mk hC
  have HA := Aside0.mk hA
  have HC1 := Aside0.mk hc1
  have HL := Aside0.mk hL
  have HD := Aside0.mk hd
  have HL1 := Aside0.mk hl1
  have hq1 : ((l1.length : Int) == (size : Int)) = false := beq_eq_false_iff_ne.2 (by omega)
  have hq2 : (l1.length == size) = false := beq_eq_false_iff_ne.2 hfull
  have f1 : w.cell? ⟨bs, 0, none⟩ = some (.int .i64 (size : Int)) := (blk_cell hcap.hs 0).trans rfl
  have hrel0 : LoopRel d size m v l1 vo L w bs bo bm bf B (.int .i64 v) w := ⟨v, vo, L, rfl, Int.le_refl _, hvm, hcap, by rw [show (m - v).toNat = d from by omega], Below.refl _ _, .inl rfl, Kept.refl _ _⟩
  have HREL := Aside0.mk hrel0
  clear hrel0 ih hcap hC hA hc1 hL hd hl1 hfull
  obtain ⟨i0, hi0, hz0, hz1, hz2⟩ := info_parts info3
  go_enter Try.func52, Try.ntmps52
  go_wp2
  go_loopw [8] (fun u wr => LoopRel d size m v l1 vo L w bs bo bm bf B u wr) (fun u _ => (m - intOf u).toNat)
  case atStart => exact HREL.out
  case round =>
    clear f1 HREL
    obtain ⟨x, vX, LX, rfl, hx0, hxm, hcap, hsum, hbel, hat, hkept⟩ := hrel
    have HCAP2 := Aside0.mk hcap
    have HSUM := Aside0.mk hsum
    have HBEL := Aside0.mk hbel
    have HAT := Aside0.mk hat
    have HKEPT := Aside0.mk hkept
    have f4 : wr.cell? ⟨bm, 0, none⟩ = some (.int .i64 m) := (blk_cell hcap.hm 0).trans rfl
    have f5 : wr.cell? ⟨bf, 0, none⟩ = some (fv bs bo bm bf) := (blk_cell hcap.hf 0).trans rfl
    have f5a : ∀ o : Obj, (wr.alloc o).cell? ⟨bf, 0, none⟩ = some (fv bs bo bm bf) := fun o => (blk_cell (hcap.below (below_alloc (Below.refl _ _) o)).hf 0).trans rfl
    clear hcap hsum hbel hat hkept
    obtain ⟨hCr, hAr⟩ := C_kept HC.out HA.out HCAP.out HKEPT.out
    have HCR := Aside0.mk hCr
    have HAR := Aside0.mk hAr
    clear hCr hAr
    by_cases hlt : x < m
    · obtain ⟨d', hd'⟩ : ∃ d' : Nat, m - (x + 1) = d' := ⟨(m - (x + 1)).toNat, by omega⟩
      have hdd : d' < d := by have := HD.out; omega
      have hcx : combs size (m - x).toNat x l1 = combs1 size d' (x + 1) (l1 ++ [x]) ++ combs size d' (x + 1) l1 := by
        rw [show (m - x).toNat = d' + 1 from by omega]; rfl
      have HCX := Aside0.mk hcx
      have hlen : (l1 ++ [x]).length = l1.length + 1 := by simp
      have HLEN := Aside0.mk hlen
      have HD' := Aside0.mk hd'
      have hsums : LX.length + (combs size (m - x).toNat x l1).length = L.length + (combs size d v l1).length := by
        have := congrArg List.length HSUM.out
        simpa using this
      have HLX : Aside0 (LX.length + (combs1 size d' (x + 1) (l1 ++ [x])).length ≤ 4096) := ⟨by
        rw [hcx, List.length_append] at hsums
        have := HL.out
        omega⟩
      have hw1 : IntKind.i64.wrap (x + 1) = x + 1 := Go.IntWalk.i64_in _ (by omega)
      have hc1 := HC1.out
      have HSTEP := Aside0.mk (fun (W : World) (A' : Option Addr) (c' : Nat) => HIH.out d' hdd size m (x + 1) A' c' (l1 ++ [x]) vX LX W bs bo bm bf B (by omega) (by omega) hd' hm hsz)
      clear hcx hlen hd' hsums
      go_wp2
      have HPRE := Aside0.mk (grow_pre x HCR.out)
      go_region_law? (first
        | (refine step_append_grows rfl (.tmp 32) (.tmp 34) 23 rfl 3 i0 (.int .i64 0) 1 8 Try.underlying23 hi0 hz0 hz1 hz2 rfl (by decide) A1 l1.length l1.length (nums .i64 l1) ?s1 HPRE.out.1 ?s3 HPRE.out.2.1 ⟨wr.heap.size, 0, none⟩ 1 1 [.int .i64 x] ?s5 rfl HPRE.out.2.2 ?s7 (by omega) ?s8 ?s9 ?_; (case s1 => simp [Act.eval, Act.put]); (case s5 => simp [Act.eval, Act.put]); (case s3 => simp [nums]); (case s7 => simp [Value.oneCell']); (case s8 => have := HL1.out; simp only [maxLen]; omega); (case s9 => have := HL1.out; omega); intro v' w' hown hgrow; obtain ⟨hbn, A', c', e', hC', hA', hc'⟩ := grow_post hown hgrow; subst e'; have f5b : w'.cell? ⟨bf, 0, none⟩ = some (fv bs bo bm bf) := (blk_cell (HCAP2.out.below hbn).hf 0).trans rfl; have HBN := Aside0.mk hbn; have HCN := Aside0.mk hC'; have HAN := Aside0.mk hA'; have HCC := Aside0.mk hc'; clear hown hgrow hbn hC' hA' hc')
        | (refine goesv_ (N := some 36) (s := .tmp 24) Try.func52 (by kernel_rfl) rfl #[.int .i64 (x + 1), .slice A' (l1.length + 1) c', .pointer (some ⟨bs, 0, none⟩), .pointer (some ⟨bo, 0, none⟩), .pointer (some ⟨bm, 0, none⟩), .pointer (some ⟨bf, 0, none⟩)] rfl rfl rfl rfl ?hargs ?_; (case hargs => simp [Act.eval, Act.put]); have K := HSTEP.out _ A' c' (HCAP2.out.below HBN.out) HCN.out HAN.out HCC.out (by rw [HLEN.out]; have := HL1.out; have := HD.out; have := HD'.out; omega) HLX.out; rw [HLEN.out] at K; refine K.mono ?_; clear K; rintro e w4 ⟨rfl, vo4, hcap4, hb4, hat4, hk4⟩; refine ⟨_, rfl, ?_⟩; have FIN := Aside0.mk (loop_next HD'.out HCX.out HSUM.out HBEL.out HAT.out HKEPT.out HCAP2.out HBN.out hcap4 hb4 hat4 hk4 (by omega) (by omega)); clear hcap4 hb4 hat4 hk4))
      all_goals
        go_wp2
        go_roundw
        case rel => exact FIN.out
        case measure => simp [intOf]; omega
    · have hxe : x = m := by omega
      have hfin : Cap wr bs bo bm bf size m vX (L ++ combs size d v l1) B := by
        have e := HSUM.out
        rw [show (m - x).toNat = 0 from by omega] at e
        rw [← e]
        simpa [combs] using HCAP2.out
      have HFIN := Aside0.mk hfin
      clear hfin
      go_wp2
      go_end0
      exact ⟨rfl, _, HFIN.out, HBEL.out, HAT.out, HKEPT.out⟩
theorem add_all : ∀ d, AddSaid d := by
  intro d
  induction d using Nat.strongRecOn with
  | _ d ih =>
    intro size m v A1 c1 l1 vo L w bs bo bm bf B h0 hvm hd hm hsz hcap hC hA hc1 hl1 hL
    unfold combs1 at hL ⊢
    by_cases hfull : l1.length = size
    · rw [if_pos hfull] at hL ⊢
      exact add_full d size m v A1 c1 l1 vo L w bs bo bm bf B hsz hcap hC hc1 (by simpa using hL) hfull
    · rw [if_neg hfull] at hL ⊢
      exact add_loop d ih size m v A1 c1 l1 vo L w bs bo bm bf B h0 hvm hd hm hsz hcap hC hA hc1 hl1 hL hfull
end Go.Proofs.Ytekenifndicdeaa.P
namespace Go.Proofs.Ytekenifndicdeaa.P
open Go.RowKit Go.Proofs.YtekenifndicdeaaW.PrintWords Go.Proofs.YtekenifndicdeaaW.PrintLast Go.Proofs.YtekenifndicdeaaW.PrintMore
attribute [local go_sem] max2_int min2_int max_two min_two max_three min_three max_four min_four
set_option linter.unusedVariables false
set_option linter.unusedSimpArgs false
/-- The monomials of the degrees below s. -/
def monsTo (m : Nat) : Nat → List (List Int)
  | 0 => []
  | s + 1 => monsTo m s ++ combs1 s m 0 []
def classic_Monomials.f (a0 : Int) (a1 : Int) : Option (List (List Int) × Int) :=
  if a1 < 0 ∨ a1 > 6 ∨ a0 < -1 ∨ a0 > a1 then some ([], 6) else some (monsTo a1.toNat (a0 + 1).toNat, 0)
theorem monsTo_small : ∀ m, m < 7 → ∀ s, s < 8 → (monsTo m s).length ≤ 64 ∧ (combs1 s m 0 []).length ≤ 64 := by decide +kernel
def MonRel (a0 : Int) (m : Nat) (w : World) (B : Nat) (u : Value) (wr : World) : Prop :=
  ∃ (s : Nat) (vX : Value), u = .int .i64 s ∧ s ≤ 7 ∧ (s : Int) ≤ a0 + 1 ∧ wr.heap[B]? = some (.cells #[.int .i64 (m : Int)] 3 (0, 0)) ∧ wr.heap[B + 1]? = some (.cells #[vX] 26 (0, 0)) ∧
    Kd.S (Kd.slice 3 (Kd.int .i64)) 23 wr B (fun _ => True) vX (monsTo m s) ∧ Below B w wr ∧ B + 1 < wr.heap.size
theorem cap_start {m s B : Nat} {wr : World} {vX : Value} {L : List (List Int)} (h1 : wr.heap[B]? = some (.cells #[.int .i64 (m : Int)] 3 (0, 0))) (h2 : wr.heap[B + 1]? = some (.cells #[vX] 26 (0, 0)))
    (hS : Kd.S (Kd.slice 3 (Kd.int .i64)) 23 wr B (fun _ => True) vX L) (hlt : B + 1 < wr.heap.size) :
    Cap (((wr.alloc (.cells #[.int .i64 (s : Int)] 3)).alloc (.cells #[fv wr.heap.size (B + 1) B (wr.heap.size + 1)] 73)).alloc (.cells #[] 3)) wr.heap.size (B + 1) B (wr.heap.size + 1) s m vX L B ∧
    Below wr.heap.size wr (((wr.alloc (.cells #[.int .i64 (s : Int)] 3)).alloc (.cells #[fv wr.heap.size (B + 1) B (wr.heap.size + 1)] 73)).alloc (.cells #[] 3)) := by
  have b1 := below_alloc (below_alloc (below_alloc (Below.refl wr.heap.size wr) (.cells #[.int .i64 (s : Int)] 3)) (.cells #[fv wr.heap.size (B + 1) B (wr.heap.size + 1)] 73)) (.cells #[] 3)
  refine ⟨⟨?_, blk_below h2 b1, blk_below h1 b1, ?_, Kd.S_below hS b1, by omega, Nat.le_trans (by omega) b1.size⟩, b1⟩
  · exact blk_alloc (blk_alloc (blk_new wr _) _) _
  · have := blk_alloc (blk_new (wr.alloc (.cells #[.int .i64 (s : Int)] 3)) (.cells #[fv wr.heap.size (B + 1) B (wr.heap.size + 1)] 73)) (.cells #[] 3)
    simpa using this
set_option maxHeartbeats 1000000 in
theorem classic_Monomials.calls (a0 : Int) (a1 : Int) (r1 : List (List Int)) (r2 : Int) (w : World) (h : classic_Monomials.f a0 a1 = some (r1, r2)) :
    Calls Try.prog 30 #[.int .i64 a0, .int .i64 a1] w fun e w' => ∃ v0_ : Value, e = .returned (.tuple #[v0_, .int .i64 r2]) ∧ Kd.S (Kd.slice 3 (Kd.int .i64)) 23 w' w.heap.size (fun _ => True) v0_ r1 ∧ Below w.heap.size w w' := by
  unfold classic_Monomials.f at h
  have hmf : ∀ (fn : Fn) (first cap : Array Value) (w : World), (Instr.makeFunc fn first cap).run Try.prog w = .ok (.func fn first cap) w := fun _ _ _ _ => rfl
  by_cases hbad : a1 < 0 ∨ a1 > 6 ∨ a0 < -1 ∨ a0 > a1
  · rw [if_pos hbad] at h
    obtain ⟨rfl, rfl⟩ := Prod.mk.inj (Option.some.inj h)
    clear h
    have b0 := below_alloc (Below.refl w.heap.size w) (.cells #[.int .i64 a1] 3)
    have HB0 := Aside0.mk b0
    clear b0
    by_cases h1 : a1 < 0
    · clear hbad
      go_enter Try.func30, Try.ntmps30
      go_wp2
      go_ret2
      exact ⟨_, rfl, Kd.S_nil _ _ _ _ _, HB0.out⟩
    by_cases h2 : 6 < a1
    · clear hbad
      go_enter Try.func30, Try.ntmps30
      go_wp2
      go_ret2
      exact ⟨_, rfl, Kd.S_nil _ _ _ _ _, HB0.out⟩
    by_cases h3 : a0 < -1
    · clear hbad
      go_enter Try.func30, Try.ntmps30
      go_wp2
      go_ret2
      exact ⟨_, rfl, Kd.S_nil _ _ _ _ _, HB0.out⟩
    · have h4 : a1 < a0 := by omega
      clear hbad
      go_enter Try.func30, Try.ntmps30
      go_wp2
      go_ret2
      exact ⟨_, rfl, Kd.S_nil _ _ _ _ _, HB0.out⟩
  · rw [if_neg hbad] at h
    obtain ⟨rfl, rfl⟩ := Prod.mk.inj (Option.some.inj h)
    clear h
    obtain ⟨m, rfl⟩ := Int.eq_ofNat_of_zero_le (show 0 ≤ a1 by omega)
    have hm : (m : Int) ≤ 6 := by omega
    have hr0 : -1 ≤ a0 := by omega
    have hrm : a0 ≤ (m : Int) := by omega
    clear hbad
    have hnm : ¬ ((m : Int) < 0) := by omega
    have hrel0 : MonRel a0 m w w.heap.size (.int .i64 0) ((w.alloc (.cells #[.int .i64 (m : Int)] 3)).alloc (.cells #[.slice none 0 0] 26)) := by
      refine ⟨0, .slice none 0 0, rfl, by omega, by simp; omega, blk_alloc (blk_new w _) _, ?_, Kd.S_nil _ _ _ _ _, below_alloc (below_alloc (Below.refl _ _) _) _, by simp⟩
      have := blk_new (w.alloc (.cells #[.int .i64 (m : Int)] 3)) (.cells #[.slice none 0 0] 26)
      simpa using this
    have HREL := Aside0.mk hrel0
    clear hrel0
    go_enter Try.func30, Try.ntmps30
    go_wp2
    go_loopw [26] (fun u wr => MonRel a0 m w w.heap.size u wr) (fun u _ => (a0 + 1 - intOf u).toNat)
    case atStart => exact HREL.out
    case round =>
      clear HREL
      obtain ⟨s, vX, rfl, hs7, hsa, hb1, hb2, hS, hbel, hlt⟩ := hrel
      have HB1 := Aside0.mk hb1
      have HB2 := Aside0.mk hb2
      have HS := Aside0.mk hS
      have HBEL := Aside0.mk hbel
      have f2 : wr.cell? ⟨w.heap.size + 1, 0, none⟩ = some vX := (blk_cell hb2 0).trans rfl
      obtain ⟨AX, cX, eX⟩ := Kd.S_slice hS
      subst eX
      have hst := cap_start (s := s) hb1 hb2 hS hlt
      have HST := Aside0.mk hst
      clear hb1 hb2 hS hbel hst
      by_cases hsr : (s : Int) < a0 + 1
      · have hsm : s < 8 := by omega
        have hlen := monsTo_small m (by omega) s hsm
        have HK := Aside0.mk (add_all m s (m : Int) 0 (some ⟨wr.heap.size + 2, 0, none⟩) 0 [] _ (monsTo m s) _ wr.heap.size (w.heap.size + 1) w.heap.size (wr.heap.size + 1) w.heap.size (by omega) (by omega) (by omega) hm hs7 HST.out.1 ⟨rfl, by simp, by simp⟩ (fun ad e hn => absurd hn (by simp)) (by simp) (by simp; omega) (by omega))
        clear hlen
        go_wp2_with (go_at_call 52; refine HK.out.mono ?_; rintro e w4 ⟨rfl, vo4, hcap4, hb4, hat4, hk4⟩)
        have hnext : MonRel a0 m w w.heap.size (.int .i64 ((s : Int) + 1)) w4 := ⟨s + 1, vo4, by simp, by omega, by omega, hcap4.hm, hcap4.ho, hcap4.own, (HBEL.out.trans (HST.out.2.mono HBEL.out.size)).trans hb4, by
          have := hb4.size
          have := HST.out.2.size
          omega⟩
        exact ⟨hnext, by simp [intOf]; omega⟩
      · have hse : (s : Int) = a0 + 1 := by omega
        have e1 : (m : Int).toNat = m := rfl
        have e2 : (a0 + 1).toNat = s := by omega
        have HE := Aside0.mk e2
        clear e2
        go_wp2
        go_ret2
        refine ⟨_, rfl, ?_, HBEL.out⟩
        rw [HE.out]
        exact HS.out
end Go.Proofs.Ytekenifndicdeaa.P
