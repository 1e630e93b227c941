import Derived.Test.YtekenifndicdeaaDuGf13
namespace Go.Proofs.Ytekenifndicdeaa.P
open Go.RowKit Go.Proofs.YtekenifndicdeaaW.PrintWords Go.Proofs.YtekenifndicdeaaW.PrintLast Go.Proofs.YtekenifndicdeaaW.PrintMore Go.Proofs.Ytekenifndicdeaa.B
attribute [local go_sem] max2_int min2_int max_two min_two max_three min_three max_four min_four
set_option linter.unusedVariables false
set_option linter.unusedSimpArgs false
def IxPost (l : List Int) (a : Int) (w : World) (e : Ending) (w' : World) : Prop := w = w' ∧ ((a ∈ l ∧ ∃ i : Nat, e = .returned (.int .i64 (i : Int)) ∧ i < l.length) ∨ (a ∉ l ∧ e = .returned (.int .i64 (-1))))
def IxIn (l : List Int) (a : Int) (w : World) (u : Value) (wr : World) : Prop := ∃ i : Nat, u = .int .i64 (i : Int) ∧ i ≤ l.length ∧ a ∉ l.take i ∧ wr = w
theorem ix_calls (A : Option Addr) (c : Nat) (l : List Int) (a : Int) (w : World) (hr : Kd.C (Kd.int .i64) w A l.length l) (hl : l.length ≤ 1000000) : Calls Try.prog 87 #[.slice A l.length c, .int .i64 a] w (IxPost l a w) := by
  have HR := Aside0.mk hr
  have HR0 : Aside0 (IxIn l a w (.int .i64 0) w) := ⟨0, rfl, Nat.zero_le _, by simp, rfl⟩
  clear hr
  go_enter Try.func87, Try.ntmps87
  go_wp2
  go_loopw [8] (fun u wr => IxIn l a w u wr) (fun u _ => l.length - (intOf u).toNat)
  case atStart => exact HR0.out
  case round =>
    clear HR0
    obtain ⟨i, rfl, hi, hno, rfl⟩ := hrel
    by_cases hlt : i < l.length
    · obtain ⟨ad, e, hc⟩ := rd_at HR.out (i : Int) (by omega) (by omega)
      rw [toNat_nat] at hc
      subst e
      have hli : l.getD i 0 = l[i] := by rw [List.getD_eq_getElem?_getD, List.getElem?_eq_getElem hlt]; rfl
      have i0 : (0 : Int) ≤ (i : Int) := by omega
      have i1 : (i : Int) < (l.length : Int) := by omega
      by_cases hE : a = l.getD i 0
      · have hq : (a == l.getD i 0) = true := beq_iff_eq.mpr hE
        have HN : Aside0 (a ∈ l) := ⟨by rw [hE, hli]; exact List.getElem_mem hlt⟩
        clear hE hli hno
        generalize l.getD i 0 = v at *
        go_wp2
        go_ret
        exact ⟨rfl, .inl ⟨HN.out, i, rfl, hlt⟩⟩
      · have hq : (a == l.getD i 0) = false := beq_eq_false_iff_ne.mpr hE
        have HN : Aside0 (IxIn l a wr (.int .i64 ((i : Int) + 1)) wr) := ⟨i + 1, by simp, hlt, by
          rw [List.take_add_one, List.getElem?_eq_getElem hlt]
          intro h
          rcases List.mem_append.1 h with h | h
          · exact hno h
          · have : a = l[i] := by simpa using h
            exact hE (by rw [hli]; exact this), rfl⟩
        clear hE hli hno
        generalize l.getD i 0 = v at *
        go_wp2
        exact ⟨HN.out, by simp [intOf]; omega⟩
    · have HN : Aside0 (a ∉ l) := ⟨by rw [List.take_of_length_le (by omega)] at hno; exact hno⟩
      clear hno
      go_wp2
      go_ret
      exact ⟨rfl, .inr ⟨HN.out, rfl⟩⟩
theorem has_calls (A : Option Addr) (c : Nat) (l : List Int) (a : Int) (w : World) (hr : Kd.C (Kd.int .i64) w A l.length l) (hl : l.length ≤ 1000000) : Calls Try.prog 60 #[.slice A l.length c, .int .i64 a] w fun e w' => e = .returned (.bool (decide (a ∈ l))) ∧ w = w' := by
  have HI := Aside0.mk (ix_calls A c l a w hr hl)
  clear hr
  by_cases h : a ∈ l
  · have HD : Aside0 (decide (a ∈ l) = true) := ⟨decide_eq_true h⟩
    have HI2 : Aside0 (Calls Try.prog 87 #[.slice A l.length c, .int .i64 a] w fun e w' => w = w' ∧ ∃ i : Nat, e = .returned (.int .i64 (i : Int))) := ⟨HI.out.mono fun e w' ⟨h1, h2⟩ => ⟨h1, by
      rcases h2 with ⟨_, i, h2, _⟩ | ⟨hn, _⟩
      · exact ⟨i, h2⟩
      · exact absurd h hn⟩⟩
    clear h
    go_enter Try.func60, Try.ntmps60
    go_wp2_with (go_at_call 87; refine HI2.out.mono ?_; rintro e w' ⟨rfl, i, rfl⟩)
    go_ret
    exact ⟨ret_bool (by rw [HD.out]), rfl⟩
  · have HD : Aside0 (decide (a ∈ l) = false) := ⟨decide_eq_false h⟩
    have HH := Aside0.mk h
    clear h
    go_enter Try.func60, Try.ntmps60
    go_wp2_with (go_at_call 87; refine HI.out.mono ?_; rintro e w' ⟨rfl, (⟨hn, _⟩ | ⟨_, rfl⟩)⟩; (exact absurd hn HH.out))
    go_ret
    exact ⟨ret_bool (by rw [HD.out]), rfl⟩
end Go.Proofs.Ytekenifndicdeaa.P
namespace Go.Proofs.Ytekenifndicdeaa.P
open Go.RowKit Go.Proofs.YtekenifndicdeaaW.PrintWords Go.Proofs.YtekenifndicdeaaW.PrintLast Go.Proofs.YtekenifndicdeaaW.PrintMore Go.Proofs.Ytekenifndicdeaa.B
attribute [local go_sem] max2_int min2_int max_two min_two max_three min_three max_four min_four
set_option linter.unusedVariables false
set_option linter.unusedSimpArgs false
/-- Block b holds just the integers xs. -/
def IntX (w : World) (b : Nat) (xs : List Int) : Prop := w.heap[b]? = some (.cells (xs.map (Value.int .i64)).toArray 3 (0, 0))
theorem IntX.row {w : World} {b : Nat} {xs : List Int} (h : IntX w b xs) : IntRow w b xs := ⟨_, h, fun i hi => by
  rw [List.getElem?_toArray, List.getElem?_map, List.getD_eq_getElem?_getD, List.getElem?_eq_getElem hi]; rfl⟩
theorem IntX.set {w : World} {b : Nat} {xs : List Int} (h : IntX w b xs) (i : Nat) (v : Int) : IntX (w.setCell ⟨b, i, none⟩ (.int .i64 v)) b (xs.set i v) := by
  have h1 := blk_set h i (.int .i64 v)
  unfold IntX
  rw [h1, List.setIfInBounds_toArray, List.map_set]
theorem IntX.keep {w w1 : World} {b : Nat} {xs : List Int} (h : IntX w b xs) (hb : w1.heap[b]? = w.heap[b]?) : IntX w1 b xs := hb.trans h
theorem IntX.R {w : World} {b base : Nat} {xs : List Int} (h : IntX w b xs) (hb : base ≤ b) (hl : xs.length ≤ 1000000) : Kd.R (Kd.int .i64) 3 w base (fun k => k = b) (.slice (some ⟨b, 0, none⟩) xs.length xs.length) xs := by
  refine ⟨fun k hk => by simpa [Value.ownBlock] using hk.symm, xs.map (Value.int .i64), ⟨?_, .inr ⟨b, xs.length, _, rfl, hb, h, Nat.le_refl _, by unfold maxLen; omega, ?_, ?_⟩⟩, ?_, ?_⟩
  · show _ = xs.length * 1; simp
  · show _ = xs.length * 1; simp
  · show List.take (xs.length * 1) _ = _
    rw [Nat.mul_one, List.take_of_length_le (by simp)]
  · show _ = xs.length * 1; simp
  · intro j p hj
    show _ = [Value.int .i64 p]
    have hlt : j < xs.length := (List.getElem?_eq_some_iff.1 hj).1
    show ((xs.map (Value.int .i64)).drop (j * 1)).take 1 = _
    rw [Nat.mul_one, List.drop_eq_getElem_cons (by simpa using hlt)]
    have : xs[j] = p := (List.getElem?_eq_some_iff.1 hj).2
    simp [this]
theorem mk_intsX {w : World} {ops : Array Oper} {rest : List Oper} {o : Oper} {a : Act} {Q : Exit → Act → World → Prop} (hg : o.guard = none) (l : Operand) (hop : o.op = Op.makeSlice 23 l l) (n : Nat) (hl : a.eval l = .int .i64 (n : Int)) (hn : n ≤ 1000000)
    (hK : ∀ w', IntX w' w.heap.size (zeroS n) → Below w.heap.size w w' → wpList Try.prog ops Q rest (a.put o.dst (.slice (some ⟨w.heap.size, 0, none⟩) n n)) w') :
    wpList Try.prog ops Q (o :: rest) a w := by
  refine mk_cells hg l hop Try.underlying23 info3 rfl n hl hn (by omega) ?_
  rintro w' ⟨cs, h1, h2⟩ hb
  refine hK w' ?_ hb
  unfold IntX zeroS
  rw [h1, List.map_replicate, ← h2]
def nullRow (F : Fr) (n : Nat) (L : List (List Int)) (pv : List Int) (c k : Nat) : List Int := (List.range k).foldl (fun x i => x.set (pv.getD i 0).toNat (F.neg (ent L i c))) ((zeroS n).set c 1)
def nullTo (F : Fr) (n : Nat) (L : List (List Int)) (pv : List Int) (k : Nat) : List (List Int) := ((List.range k).filter fun (c : Nat) => !decide (((c : Nat) : Int) ∈ pv)).map fun c => nullRow F n L pv c pv.length
theorem nullRow_succ (F : Fr) (n : Nat) (L : List (List Int)) (pv : List Int) (c k : Nat) : nullRow F n L pv c (k + 1) = (nullRow F n L pv c k).set (pv.getD k 0).toNat (F.neg (ent L k c)) := by
  unfold nullRow
  rw [List.range_succ, List.foldl_append]; rfl
theorem nullRow_len (F : Fr) (n : Nat) (L : List (List Int)) (pv : List Int) (c : Nat) : ∀ k, (nullRow F n L pv c k).length = n
  | 0 => by simp [nullRow, zeroS]
  | k + 1 => by rw [nullRow_succ, List.length_set, nullRow_len F n L pv c k]
theorem nullTo_yes (F : Fr) (n : Nat) (L : List (List Int)) (pv : List Int) (k : Nat) (h : (k : Int) ∈ pv) : nullTo F n L pv (k + 1) = nullTo F n L pv k := by
  unfold nullTo
  rw [List.range_succ, List.filter_append]
  simp [h]
theorem nullTo_no (F : Fr) (n : Nat) (L : List (List Int)) (pv : List Int) (k : Nat) (h : (k : Int) ∉ pv) : nullTo F n L pv (k + 1) = nullTo F n L pv k ++ [nullRow F n L pv k pv.length] := by
  unfold nullTo
  rw [List.range_succ, List.filter_append]
  simp [h]
theorem nullTo_len (F : Fr) (n : Nat) (L : List (List Int)) (pv : List Int) (k : Nat) : (nullTo F n L pv k).length ≤ k := by
  unfold nullTo
  rw [List.length_map]
  have := List.length_filter_le (fun c : Nat => !decide ((c : Int) ∈ pv)) (List.range k)
  simpa using this
theorem nullRow_el (F : Fr) (hK : Fld F.ops) (n : Nat) (L : List (List Int)) (pv : List Int) (c : Nat) (hE : ∀ i, i < pv.length → F.El (ent L i c)) : ∀ k, k ≤ pv.length → ElL F.ops (nullRow F n L pv c k)
  | 0, _ => fun v hv => by
    have hv : v ∈ (zeroS n).set c 1 := hv
    rcases List.mem_or_eq_of_mem_set hv with h | h
    · rw [(List.mem_replicate.1 h).2]; exact hK.zero
    · rw [h]; exact hK.one
  | k + 1, h => fun v hv => by
    rw [nullRow_succ] at hv
    rcases List.mem_or_eq_of_mem_set hv with h1 | h1
    · exact nullRow_el F hK n L pv c hE k (by omega) v h1
    · rw [h1]; exact hK.negE _ (hE k (by omega))
/-- The rows of the kernel. -/
def nullS (F : Fr) (n : Nat) (rows : List (List Int)) : List (List Int) := canonS F.ops n (nullTo F n (canonS F.ops n rows) (elimS F.ops rows n).2 n)
/-- What is known of the canonical rows and their pivots. -/
structure CanF (F : Fr) (n : Nat) (L : List (List Int)) (pv : List Int) : Prop where
  len : pv.length = L.length
  le : L.length ≤ n
  mat : Mat F.ops n L
  piv : ∀ i, i < pv.length → 0 ≤ pv.getD i 0 ∧ pv.getD i 0 < n
theorem asc_le {ps : List Nat} {n k : Nat} (h : ∀ i j, i < j → j < k → ps.getD i 0 < ps.getD j 0) (hl : ∀ i, i < k → ps.getD i 0 < n) : k ≤ n := by
  have key : ∀ i, i < k → i ≤ ps.getD i 0 := by
    intro i
    induction i with
    | zero => intro _; omega
    | succ i ih =>
      intro hi
      have h1 := ih (by omega)
      have h2 := h i (i + 1) (by omega) hi
      omega
  cases k with
  | zero => omega
  | succ k =>
    have h1 := key k (by omega)
    have h2 := hl k (by omega)
    omega
theorem canF (F : Fr) (hK : Fld F.ops) (n : Nat) (rows : List (List Int)) (h : Mat F.ops n rows) : CanF F n (canonS F.ops n rows) (elimS F.ops rows n).2 := by
  obtain ⟨ps, e, hr, hm, _, _, _⟩ := canon_rr hK h
  rw [e]
  have hl : (castS ps).length = ps.length := by simp [castS]
  refine ⟨by rw [hl, hr.len], asc_le hr.asc hr.lt, hm, fun i hi => ?_⟩
  rw [hl, hr.len] at hi
  have h1 := hr.lt i hi
  have h2 : (castS ps).getD i 0 = ((ps.getD i 0 : Nat) : Int) := by
    unfold castS
    rw [List.getD_eq_getElem?_getD, List.getElem?_map, List.getD_eq_getElem?_getD]
    cases ps[i]? <;> rfl
  rw [h2]; omega
def KerIn (F : Fr) (n : Nat) (L : List (List Int)) (pv : List Int) (w4 : World) (vO c : Value) (wr : World) : Prop :=
  ∃ k : Nat, c = .int .i64 (k : Int) ∧ k ≤ n ∧ Kd.R (Kd.slice 3 (Kd.int .i64)) 23 wr w4.heap.size (fun _ => True) vO (nullTo F n L pv k) ∧ Below w4.heap.size w4 wr
def KerJn (F : Fr) (n : Nat) (L : List (List Int)) (pv : List Int) (c b : Nat) (wo : World) (u : Value) (wr : World) : Prop :=
  ∃ i : Nat, u = .int .i64 (i : Int) ∧ i ≤ pv.length ∧ IntX wr b (nullRow F n L pv c i) ∧ Below wo.heap.size wo wr
def KerPost (F : Fr) (n : Nat) (rows : List (List Int)) (w : World) (e : Ending) (w' : World) : Prop := ∃ vm, e = .returned (.tuple #[.agg #[.int .i64 (n : Int), vm], .int .i64 0]) ∧ MatN w.heap.size w' vm (nullS F n rows) ∧ Below w.heap.size w w'
set_option maxRecDepth 100000 in
set_option maxHeartbeats 2000000 in
theorem kernel_calls (P M : Int) (mod : List Int) (F : Fr) (hN : NewSays P M mod F) (v : Value) (n : Nat) (A : Option Addr) (c : Nat) (rows : List (List Int)) (w : World) (hv : FldV w v P M mod) (hr : Kd.C (Kd.slice 3 (Kd.int .i64)) w A rows.length rows) (hc : rows.length ≤ c) (hk : mchk F (n : Int) rows = 0) (h1 : 1 ≤ n) :
    Calls Try.prog 34 #[v, .agg #[.int .i64 (n : Int), .slice A rows.length c]] w (KerPost F n rows w) := by
  obtain ⟨A0, c0, rfl, hml, hmC⟩ := id hv
  obtain ⟨W, hW⟩ : ∃ W, W = (((w.alloc (.cells #[.int .i64 P, .int .i64 M, .slice A0 mod.length c0] 25)).alloc (.cells #[.int .i64 (n : Int), .slice A rows.length c] 56)).alloc (.cells #[.int .i64 0, .slice none 0 0] 56)).alloc (.cells #[.int .i64 (n : Int), .slice A rows.length c] 56) := ⟨_, rfl⟩
  have b1 : Below w.heap.size w W := by rw [hW]; exact below_alloc (below_alloc (below_alloc (below_alloc (Below.refl w.heap.size w) _) _) _) _
  have hm1 : W.heap[w.heap.size + 1]? = some (.cells #[.int .i64 (n : Int), .slice A rows.length c] 56 (0, 0)) := by
    rw [hW]
    have := blk_new (w.alloc (.cells #[.int .i64 P, .int .i64 M, .slice A0 mod.length c0] 25)) (.cells #[.int .i64 (n : Int), .slice A rows.length c] 56)
    exact blk_alloc (blk_alloc (by simpa using this) _) _
  have hm2 : W.heap[w.heap.size + 1 + 1]? = some (.cells #[.int .i64 0, .slice none 0 0] 56 (0, 0)) := by
    rw [hW]
    have := blk_new ((w.alloc (.cells #[.int .i64 P, .int .i64 M, .slice A0 mod.length c0] 25)).alloc (.cells #[.int .i64 (n : Int), .slice A rows.length c] 56)) (.cells #[.int .i64 0, .slice none 0 0] 56)
    exact blk_alloc (by simpa using this) _
  have hm3 : W.heap[w.heap.size + 1 + 1 + 1]? = some (.cells #[.int .i64 (n : Int), .slice A rows.length c] 56 (0, 0)) := by
    rw [hW]
    have := blk_new (((w.alloc (.cells #[.int .i64 P, .int .i64 M, .slice A0 mod.length c0] 25)).alloc (.cells #[.int .i64 (n : Int), .slice A rows.length c] 56)).alloc (.cells #[.int .i64 0, .slice none 0 0] 56)) (.cells #[.int .i64 (n : Int), .slice A rows.length c] 56)
    simpa using this
  obtain ⟨_, hn256, hrl, hmat⟩ := mchk_ok hk
  rw [toNat_nat] at hmat
  have hn256 : n ≤ 256 := by omega
  have HOP := Aside0.mk (open_calls P M mod F hN _ (w.heap.size + 1 + 1 + 1) 1 (n : Int) A c rows W (hv.below b1) hm3 (Kd.C_below hr b1) (by omega) (fun x hx => by rw [(hmat x hx).1]; omega))
  have HR := Aside0.mk (Kd.C_below hr b1)
  have HB := Aside0.mk b1
  have HM1 := Aside0.mk hm1
  have HM2 := Aside0.mk hm2
  have HMAT := Aside0.mk hmat
  have HCF := Aside0.mk (canF F hN.fld n rows hmat)
  unfold OpenPost at HOP
  rw [hk] at HOP
  have HW := Aside0.mk hW
  rw [hW] at HOP
  obtain ⟨R, eR⟩ : ∃ R, R = nullS F n rows := ⟨_, rfl⟩
  unfold KerPost
  rw [← eR]
  unfold nullS at eR
  obtain ⟨L, eL⟩ : ∃ L, L = canonS F.ops n rows := ⟨_, rfl⟩
  obtain ⟨pv, epv⟩ : ∃ pv, pv = (elimS F.ops rows n).2 := ⟨_, rfl⟩
  rw [← eL, ← epv] at eR HCF
  have HER := Aside0.mk eR
  have HEL := Aside0.mk (And.intro eL epv)
  have hpl : pv.length ≤ 256 := by have := HCF.out.len; have := HCF.out.le; omega
  clear hv hr hmC b1 hm1 hm2 hm3 hk hmat hW eR eL epv
  go_enter Try.func34, Try.ntmps34
  go_wp2_with (first | (go_at_call 58; refine HOP.out.mono ?_; rintro e w3 ⟨vg, rfl, hg, hb3⟩; rw [← HW.out] at hb3; obtain ⟨g, rfl, hG⟩ := hg rfl; have q1 : w3.cell? ⟨w.heap.size + 1, 0, none⟩ = some (.int .i64 (n : Int)) := (blk_cell (blk_below HM1.out hb3) 0).trans rfl; have q2 : w3.cell? ⟨w.heap.size + 1, 1, none⟩ = some (.slice A rows.length c) := (blk_cell (blk_below HM1.out hb3) 1).trans rfl; have HG := Aside0.mk hG; have HB3 := Aside0.mk hb3; clear hG hg hb3) | (go_at_call 59; refine (canon_calls g F A c rows n _ hN.ok hN.fld HG.out (Kd.C_below HR.out HB3.out) hc (by omega) HMAT.out h1 (by omega)).mono ?_; rintro e w4 ⟨v1, p1, rfl, hv1, hp1, hb4⟩; rw [← HEL.out.1] at hv1; rw [← HEL.out.2] at hp1; have HV := Aside0.mk hv1; have HP := Aside0.mk hp1; obtain ⟨Av, cv, rfl, hcv, hCv⟩ := hv1; obtain ⟨Ap, cp, rfl, hcp, hCp⟩ := hp1; have HCV := Aside0.mk (hCv w4 (Tch.refl _ _)); have HCP := Aside0.mk (hCp w4 (Tch.refl _ _)); have hm4 := blk_below (blk_below HM2.out HB3.out) hb4; have y1 := cell_below hb4 q1; have HY := Aside0.mk (blk_below (blk_below HM1.out HB3.out) hb4); have HB4 := Aside0.mk (HB3.out.trans (hb4.mono HB3.out.size)); have HG4 := Aside0.mk (HG.out.below hb4); have HM4 := Aside0.mk hm4; clear hm4 hb4 hCv hCp))
  have HR0 : Aside0 (KerIn F n L pv w4 (.slice none 0 0) (.int .i64 0) w4) := ⟨0, rfl, Nat.zero_le _, Kd.R_nil _ _ _ _ _, Below.refl _ _⟩
  go_loopg [10, 37] n (fun q vO cc wr => KerIn F n L pv w4 vO cc wr ∧ q = n - (intOf cc).toNat)
  case atStart => exact ⟨HR0.out, by simp [intOf]⟩
  case round =>
    clear HR0
    obtain ⟨⟨k, rfl, hkn, hO, hbel⟩, hq⟩ := hrel
    obtain ⟨AO, cO, eO⟩ := Kd.R_slice hO
    subst eO
    have HO := Aside0.mk hO
    have HBEL := Aside0.mk hbel
    have z1 : wr.cell? ⟨w.heap.size + 1, 0, none⟩ = some (.int .i64 (n : Int)) := (blk_cell (blk_below HY.out hbel) 0).trans rfl
    by_cases hlt : k < n
    · have HCC := Aside0.mk (fun W (hW : Below w4.heap.size w4 W) => has_calls Ap cp pv (k : Int) W (Kd.C_below HCP.out hW) (by omega))
      by_cases hin : (k : Int) ∈ pv
      · have hd : decide ((k : Int) ∈ pv) = true := decide_eq_true hin
        have HD := Aside0.mk hd
        have HN : Aside0 (KerIn F n L pv w4 (.slice AO (nullTo F n L pv k).length cO) (.int .i64 ((k : Int) + 1)) wr) := ⟨k + 1, by simp, hlt, by rw [nullTo_yes F n L pv k hin]; exact HO.out, HBEL.out⟩
        clear hin hO hbel hd
        go_wp2_with (go_at_call 60; refine (HCC.out _ HBEL.out).mono ?_; rintro e w' ⟨rfl, rfl⟩; rw [HD.out])
        go_roundg (n - (k + 1))
        case measure => rw [hq]; simp [intOf]; omega
        case rel => exact ⟨HN.out, by simp [intOf]⟩
      · have hd : decide ((k : Int) ∈ pv) = false := decide_eq_false hin
        have HD := Aside0.mk hd
        have HIN := Aside0.mk hin
        clear hin hO hbel hd
        obtain ⟨wo, rfl⟩ : ∃ wo : World, wo = wr := ⟨_, rfl⟩
        go_wp2_with (first | (go_at_call 60; refine (HCC.out _ HBEL.out).mono ?_; rintro e w' ⟨rfl, rfl⟩; rw [HD.out]) | ((with_reducible refine gate_dst (N := 45) rfl ?_); refine mk_intsX rfl (.tmp 44) rfl n rfl (by omega) ?_; intro w5 hr5 hb5; have cx := hr5.row.cell k (by simp [zeroS]; omega); have cf := hr5.row.frozen k; have HR5 := Aside0.mk hr5; have HB5 := Aside0.mk hb5; clear hr5 hb5))
        have HJ0 : Aside0 (KerJn F n L pv k wo.heap.size wo (.int .i64 0) (w5.setCell ⟨wo.heap.size, k, none⟩ (.int .i64 1))) := ⟨0, rfl, Nat.zero_le _, IntX.set HR5.out k 1, HB5.out.setCell (Nat.le_refl _) _⟩
        clear HR5 HB5 cx cf
        go_loopg [51] pv.length (fun q u wx => KerJn F n L pv k wo.heap.size wo u wx ∧ q = pv.length - (intOf u).toNat)
        case atStart => exact ⟨HJ0.out, by simp [intOf]⟩
        case round =>
          clear HJ0
          obtain ⟨⟨i, rfl, hip, hX, hbj⟩, hq2⟩ := hrel
          have hbW := HBEL.out.trans (hbj.mono HBEL.out.size)
          have HBJ := Aside0.mk hbj
          have HBW := Aside0.mk hbW
          have HX := Aside0.mk hX
          clear hX hbW hbj
          by_cases hl2 : i < pv.length
          · have hiL : i < L.length := by have := HCF.out.len; omega
            obtain ⟨ad, e, hx⟩ := rd_at (Kd.C_below HCP.out HBW.out) (i : Int) (by omega) (by omega)
            rw [toNat_nat] at hx
            subst e
            obtain ⟨p0, p1⟩ := HCF.out.piv i hl2
            obtain ⟨ad2, A2, c2, e2, hx2, hc2, hC2⟩ := at_L1 (Kd.C_below HCV.out HBW.out) (i : Int) (by omega) (by omega)
            rw [toNat_nat] at hx2
            have erow : rd_L1 L (i : Int) = L.getD i [] := rfl
            rw [erow] at hx2 hc2 hC2
            subst e2
            have hrl := Mat_get HCF.out.mat i hiL
            obtain ⟨ad3, e3, hx3⟩ := rd_at hC2 (k : Int) (by omega) (by rw [hrl.1]; omega)
            rw [toNat_nat] at hx3
            subst e3
            have HEL := Aside0.mk (ElL_at hrl.2 (i := k) (by rw [hrl.1]; omega))
            have HNX : Aside0 (∀ m z, z = F.neg ((L.getD i []).getD k 0) → KerJn F n L pv k wo.heap.size wo (.int .i64 ((i : Int) + 1)) ((wr.drewN m).setCell ⟨wo.heap.size, (pv.getD i 0).toNat, none⟩ (.int .i64 z))) := ⟨fun m z ez => ⟨i + 1, by simp, hl2, by
              rw [nullRow_succ, ez]
              exact IntX.set (HX.out.keep (w1 := wr.drewN m) rfl) _ _, (pw_below_drewN HBJ.out m).setCell (Nat.le_refl _) _⟩⟩
            obtain ⟨pk, epk⟩ := Int.eq_ofNat_of_zero_le p0
            rw [epk] at hx p1 HNX
            rw [toNat_nat] at HNX
            have cx := HX.out.row.cell pk (by rw [nullRow_len]; omega)
            have cf := HX.out.row.frozen pk
            have hrl1 := hrl.1
            generalize nullRow F n L pv k i = nr at *
            generalize L.getD i [] = x at *
            generalize x.getD k 0 = y at *
            clear erow hC2 epk p0 hrl
            rw [hrl1] at hx2 hc2
            clear hrl1
            go_wp2_with (go_at_call 61; refine (gf_Neg _ F _ _ (HG4.out.below HBW.out) hN.ok HEL.out).mono ?_; rintro e w' ⟨rfl, m, rfl⟩)
            go_roundg (pv.length - (i + 1))
            case measure => rw [hq2]; simp [intOf]; omega
            case rel => exact ⟨HNX.out _ _ rfl, by simp [intOf]⟩
          · have hie : i = pv.length := by omega
            subst hie
            have hwo := HBEL.out.size
            have HRX := Aside0.mk (IntX.R (base := w4.heap.size) HX.out hwo (by rw [nullRow_len]; omega))
            rw [nullRow_len] at HRX
            have HRB := Aside0.mk (Kd.R_below HO.out HBJ.out)
            have HFR := Aside0.mk (Kd.R_bound HO.out).1
            have hnl := nullTo_len F n L pv k
            clear hl2 hip
            go_wp2_with (at_builtin; refine Kd.R_append (Kd.slice 3 (Kd.int .i64)) (w0 := w4) w4.heap.size rfl (.tmp 69) (.tmp 71) 26 23 (.slice none 0 0) 24 rfl Try.underlying26 info23 rfl (by decide) (by omega) (.slice AO (nullTo F n L pv k).length cO) (nullTo F n L pv k) (nullRow F n L pv k pv.length) _ (fun _ => True) (fun k => k = wo.heap.size) rfl rfl ?hp ?hokp ?hfresh ?HO ?HB ?hbase ?hl ?_; (case hp => exact ⟨_, rfl, HRX.out⟩); (case hokp => exact fun _ h => ⟨trivial, fun e => by have := (HFR.out _ e.symm).2.2.1; omega⟩); (case hfresh => exact fun _ _ => trivial); (case HO => exact HRB.out); (case HB => exact HBW.out); (case hbase => exact HBW.out.size); (case hl => omega); intro v1 w1 hR1 hb1 hg1 _; have HR1 := Aside0.mk hR1; have HB1 := Aside0.mk hb1; clear hR1 hb1 hg1)
            go_roundg (n - (k + 1))
            case measure => simp [intOf]; omega
            case rel => exact ⟨⟨k + 1, by simp, hlt, by rw [nullTo_no F n L pv k HIN.out]; exact HR1.out, HB1.out⟩, by simp [intOf]⟩
    · have hkn2 : k = n := by omega
      subst hkn2
      obtain ⟨_, _, eRR, hROc, hRC⟩ := Kd.R_reads HO.out
      injection eRR with e1 _ e3
      subst e1; subst e3
      have HRC := Aside0.mk hRC
      have hnl := nullTo_len F k L pv k
      have HNM := Aside0.mk (show Mat F.ops k (nullTo F k L pv k) from fun x hx => by
        unfold nullTo at hx
        obtain ⟨j, _, rfl⟩ := List.mem_map.1 hx
        refine ⟨nullRow_len F k L pv j _, nullRow_el F hN.fld k L pv j (fun i hi => ?_) _ (Nat.le_refl _)⟩
        exact ent_E hN.fld HCF.out.mat (i := i) (show i < L.length by have := HCF.out.len; omega))
      clear hO hRC hq hlt
      go_wp2_with (go_at_call 59; refine (canon_calls g F AO cO (nullTo F k L pv k) k _ hN.ok hN.fld (HG4.out.below HBEL.out) HRC.out hROc (by omega) HNM.out h1 (by omega)).mono ?_; rintro e w5 ⟨v1, p1, rfl, hv1, hp1, hb5⟩; rw [← HER.out] at hv1; have HV5 := Aside0.mk hv1; obtain ⟨A5, c5, rfl, _⟩ := hv1; have hm5 := blk_below (blk_below HM4.out HBEL.out) hb5; have u1 := cell_below hb5 z1; have z0 : w5.cell? ⟨w.heap.size + 1 + 1, 0, none⟩ = some (.int .i64 0) := (blk_cell hm5 0).trans rfl; have z2 : w5.cell? ⟨w.heap.size + 1 + 1, 1, none⟩ = some (.slice none 0 0) := (blk_cell hm5 1).trans rfl; have f0 : w5.frozen? ⟨w.heap.size + 1 + 1, 0, none⟩ = false := blk_frozen hm5 0; have f1 : w5.frozen? ⟨w.heap.size + 1 + 1, 1, none⟩ = false := blk_frozen hm5 1; have HM5 := Aside0.mk hm5; have HB5 := Aside0.mk hb5; clear hm5 hb5 hp1)
      have hfin := blk_set (blk_set HM5.out 0 (.int .i64 (k : Int))) 1 (.slice A5 R.length c5)
      refine bodyPost_ret (results_list (rs := [.cell 4 56, .tmp 5]) rfl (by simp) (.cell (w.heap.size + 1 + 1) 56 #[.int .i64 (k : Int), .slice A5 R.length c5] (0, 0) _ rfl (by simpa using hfin) Try.underlying56 rfl (by kernel_rfl) (.tmp .nil))) rfl ?_
      have s1 := HB.out.size
      have s2 : w.heap.size + 1 + 1 < w4.heap.size := blk_lt HM4.out
      have s3 := HBEL.out.size
      have ht : Tch (fun k => k < wr.heap.size) w5 ((w5.setCell ⟨w.heap.size + 1 + 1, 0, none⟩ (.int .i64 (k : Int))).setCell ⟨w.heap.size + 1 + 1, 1, none⟩ (.slice A5 R.length c5)) := ((Tch.refl (fun k => k < wr.heap.size) w5).set (.inl (by show w.heap.size + 1 + 1 < _; omega)) _).set (.inl (by show w.heap.size + 1 + 1 < _; omega)) _
      refine ⟨_, rfl, HV5.out.step ht (by have := HB4.out; omega), ?_⟩
      have t1 := HB.out.trans (HB4.out.mono HB.out.size)
      have t2 := t1.trans (HBEL.out.mono t1.size)
      exact ((t2.trans (HB5.out.mono t2.size)).setCell (by simp; omega) _).setCell (by simp; omega) _
end Go.Proofs.Ytekenifndicdeaa.P
