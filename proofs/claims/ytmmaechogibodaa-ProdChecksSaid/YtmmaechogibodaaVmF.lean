/- Each operation of the abstract interpreter is what the model does: structs built, slices made. Conditions: none here. -/
import Derived.Test.YtmmaechogibodaaVmE
set_option linter.unusedVariables false
set_option linter.unusedSimpArgs false
namespace Go.Proofs.Ytmmaechogibodaa.Vm
open Go Go.RowKit

section
variable {P : Program} {A : Ctx} {w0 : World} {F : NS} {γ : GM} {s : St} {a : Act} {w : World}
theorem seg_list (cs : List Value) (o : Nat) (vs : List Value) (h : o + vs.length ≤ cs.length) (k : Nat) :
    (cs.take o ++ vs ++ cs.drop (o + vs.length))[k]? = if o ≤ k ∧ k < o + vs.length then vs[k - o]? else cs[k]? := by
  have := seg_get cs.toArray o vs (by simpa using h) k
  simpa using this
theorem fold_put (off : Nat) : ∀ (l : List Value) (j : Nat) (cs : Array Value), off + j + l.length ≤ cs.size →
    ((l.zipIdx j).foldl (fun cs p => cs.setIfInBounds (off + p.2) p.1) cs).toList = cs.toList.take (off + j) ++ l ++ cs.toList.drop (off + j + l.length)
  | [], j, cs, h => by simp
  | v :: l, j, cs, h => by
    simp only [List.zipIdx_cons, List.foldl_cons]
    rw [fold_put off l (j + 1) _ (by simp at h ⊢; omega)]
    have e := list_seg_step cs.toList (off + j) v l (by simp at h ⊢; omega)
    simpa [Array.toList_setIfInBounds, Nat.add_assoc] using e
theorem fill_cons (place : Nat → Option (Nat × Nat)) (cells : Array Value) (i : Nat) (v : Value) (rest : List (Nat × Value)) {off size : Nat} (hp : place i = some (off, size)) (hs : v.cells.size = size) (hf : off + v.cells.size ≤ cells.size) :
    Instr.fill place cells ((i, v) :: rest) = Instr.fill place (cells.toList.take off ++ v.cells.toList ++ cells.toList.drop (off + v.cells.size)).toArray rest := by
  simp only [Instr.fill, hp]
  rw [if_neg (by simp [hs]; omega)]
  congr 1
  have h1 : (Array.foldl (fun cs x => match x with | (c, j) => cs.setIfInBounds (off + j) c) cells v.cells.zipIdx) = (v.cells.toList.zipIdx 0).foldl (fun cs p => cs.setIfInBounds (off + p.2) p.1) cells := by
    rw [← Array.foldl_toList, Array.toList_zipIdx]
  rw [h1]
  apply Array.ext'
  rw [fold_put off _ 0 cells (by simpa using hf)]
  simp
theorem all2_over {R : CV → Value → Prop} {l r q : List CV} {L V : List Value} (hl : All2 R l L) (hr : All2 R r V) {o : Nat} (h : over l o r = some q) (hf : o + V.length ≤ L.length) : All2 R q (L.take o ++ V ++ L.drop (o + V.length)) := by
  obtain ⟨h1, h2, h3⟩ := over_spec l o r q h
  have e1 := hl.length
  have e2 := hr.length
  refine All2.of_get (by simp; omega) fun k c v hc hv => ?_
  rw [h3 k] at hc
  rw [seg_list L o V hf] at hv
  rw [e2] at hc
  split at hc
  · rename_i hk
    rw [if_pos hk] at hv
    obtain ⟨v', h4, h5⟩ := hr.get _ c hc
    rw [hv] at h4; obtain rfl := Option.some.inj h4
    exact h5
  · rename_i hk
    rw [if_neg hk] at hv
    obtain ⟨v', h4, h5⟩ := hl.get _ c hc
    rw [hv] at h4; obtain rfl := Option.some.inj h4
    exact h5
theorem fill_rel (R : Rel A w0 F γ s a w) {pl place : Nat → Option (Nat × Nat)} (hpl : ∀ i x, pl i = some x → place i = some x) : ∀ (parts : List (Nat × Operand)) (cs q : List CV) (C : Array Value), fillL pl s.ev cs parts = some q → All2 (RelC F γ s.mem w) cs C.toList →
    ∃ C', Instr.fill place C (parts.map fun x => (x.1, a.eval x.2)) = some C' ∧ All2 (RelC F γ s.mem w) q C'.toList
  | [], cs, q, C, h, hr => by simp only [fillL, Option.some.injEq] at h; subst h; exact ⟨C, rfl, hr⟩
  | (i, x) :: parts, cs, q, C, h, hr => by
    simp only [fillL] at h
    split at h
    · rename_i off n p hp hx
      split at h
      · rename_i hc
        obtain ⟨c1, c2, c3⟩ := hc
        split at h
        · rename_i cs' hcs
          have hv := R.ev x
          rw [hx] at hv
          obtain ⟨d1, d2⟩ := cells_rel hv c3
          have hl := d1.length
          rw [len_eq] at c1
          obtain ⟨o1, o2, o3⟩ := over_spec cs off _ cs' hcs
          have o2 : off + (cellsPV p).length ≤ cs.length := by
            rcases o2 with o2 | o2
            · rw [o2] at c1; simp at c1; omega
            · exact o2
          have hcl := hr.length
          simp at hl hcl
          obtain ⟨C', k1, k2⟩ := fill_rel R hpl parts cs' q (C.toList.take off ++ (a.eval x).cells.toList ++ C.toList.drop (off + (a.eval x).cells.size)).toArray h (by
            have := all2_over hr d1 hcs (by simp; omega)
            simpa using this)
          refine ⟨C', ?_, k2⟩
          simp only [List.map_cons]
          rw [fill_cons place C i (a.eval x) _ (hpl i _ hp) (by omega) (by omega)]
          exact k1
        · cases h
      · cases h
    · cases h
theorem places_run (W : World) : ∀ (fs : List Field) (pl : List (Nat × Nat)), placesF P fs = some pl → (fs.mapM (fun f => do pure (f.offset, ← sizeOf f.type) : Field → Sem (Nat × Nat))).run P W = .ok pl W
  | [], pl, h => by simp only [placesF, Option.some.injEq] at h; subst h; simp
  | f :: fs, pl, h => by
    simp only [placesF] at h
    split at h
    · rename_i n r hn hr
      obtain rfl := Option.some.inj h
      have ih := places_run W fs r hr
      rw [List.mapM_cons]
      simp only [Sem.run_bind, sSize hn, Result.andThen_ok, Sem.run_pure, ih]
    · cases h
theorem ok_build (R : Rel A w0 F γ s a w) {nid : Nat} {o : Oper} {out : Out} {t : TypeId} {parts : Array (Nat × Operand)} (ho : o.op = .build t parts) (h : (exBuild P s.ev t parts).den = some out) : Sim P A w0 F γ nid s o out a w := by
  unfold exBuild at h
  split at h
  · rename_i i hi
    split at h
    · rename_i z hz
      have hparts : ((parts.map fun x => (x.1, a.eval x.2)).toList) = parts.toList.map fun x => (x.1, a.eval x.2) := by simp
      split at h
      · rename_i fs hu
        split at h
        · rename_i pl hpl
          split at h
          · rename_i l hl
            obtain rfl := den_ret1 h
            obtain ⟨C', k1, k2⟩ := fill_rel R (place := (pl.toArray[·]?)) (fun i x hx => by rw [nth?_eq] at hx; simpa using hx) parts.toList _ l z.cells hl (all2_val _ _ _ _ _)
            refine Sim.look R (V := .agg C') ?_ ⟨C', rfl, k2⟩
            have hm : (Array.mapM (fun f => do pure (f.offset, ← sizeOf f.type) : Field → Sem (Nat × Nat)) fs).run P w = .ok pl.toArray w := by
              rw [Array.mapM_eq_mapM_toList, Sem.run_map, places_run w fs.toList pl hpl]; rfl
            simp only [execOp, ho, Instr.build, Sem.run_bind, zeroValue, sInfo hi, Result.andThen_ok, hz, Sem.run_pure, run_underlying hu, hm, hparts, k1]
          · exact (den_fail h).elim
        · exact (den_fail h).elim
      · rename_i n e hu
        split at h
        · rename_i sz hsz
          split at h
          · rename_i l hl
            obtain rfl := den_ret1 h
            obtain ⟨C', k1, k2⟩ := fill_rel R (place := fun i => some (i * sz, sz)) (fun i x hx => hx) parts.toList _ l z.cells hl (all2_val _ _ _ _ _)
            refine Sim.look R (V := .agg C') ?_ ⟨C', rfl, k2⟩
            simp only [execOp, ho, Instr.build, Sem.run_bind, zeroValue, sInfo hi, Result.andThen_ok, hz, Sem.run_pure, run_underlying hu, sSize hsz, hparts, k1]
          · exact (den_fail h).elim
        · exact (den_fail h).elim
      · exact (den_fail h).elim
    · exact (den_fail h).elim
  · exact (den_fail h).elim

theorem valsI_len : ∀ (ks : List IntKind) (r : List Int) (j : Nat), (valsI ks r j).length = ks.length
  | [], _, _ => rfl
  | k :: ks, r, j => by simp [valsI, valsI_len ks]
theorem intsV_vals : ∀ (ks : List IntKind) (r : List Int) (j : Nat), intsV ks r j = (valsI ks r j).map .val
  | [], _, _ => rfl
  | k :: ks, r, j => by simp [intsV, valsI, intsV_vals ks]
/-- Is it members in a row? -/
def Blk.isRows : Blk → Bool
  | .row .. => true
  | .recs .. => true
  | .grow .. => true
  | _ => false
/-- A cell that names no block. -/
def CV.free : CV → Bool
  | .val _ => true
  | .dt .. => true
  | _ => false
theorem RelC.free {F' : NS} {γ' : GM} {m m' : MM} {w' : World} {c : CV} {V : Value} (hc : c.free = true) (hz : ∀ g, F.z g → F'.z g) (hw : ∀ g, F.z g → w'.heap[g]? = w.heap[g]?) (h : RelC F γ m w c V) : RelC F' γ' m' w' c V := by
  cases c <;> first | (cases hc; done) | skip
  · exact h
  · exact Deep.step hz hw h
theorem at_rows {blk : Blk} (hr : blk.isRows = true) : (∀ i j c, blk.at i j = some c → j < blk.n ∧ i < blk.len ∧ c.free = true) ∧ ∀ i j, i < blk.len → j < blk.n → ∃ c, blk.at i j = some c := by
  cases blk with
  | cells l => cases hr
  | mem l ds => cases hr
  | map kk vk es => cases hr
  | row k xs =>
    refine ⟨fun i j c h => ?_, fun i j hi hj => ?_⟩
    · simp only [Blk.at] at h
      split at h
      · rename_i hj; obtain rfl := Option.some.inj h; exact ⟨by simp [Blk.n, hj.1], hj.2, rfl⟩
      · cases h
    · have : j = 0 := by simp [Blk.n] at hj; exact hj
      exact ⟨_, by simp only [Blk.at]; rw [if_pos ⟨this, hi⟩]⟩
  | recs ks xs =>
    refine ⟨fun i j c h => ?_, fun i j hi hj => ?_⟩
    · simp only [Blk.at] at h
      split at h
      · rename_i hi
        have hj := (List.getElem?_eq_some_iff.1 h).1
        rw [intsV_len] at hj
        rw [intsV_get, List.getElem?_eq_getElem hj] at h
        obtain rfl := Option.some.inj h
        exact ⟨by simpa [Blk.n, len_eq] using hj, hi, rfl⟩
      · cases h
    · have hi : i < xs.length := hi
      exact ⟨_, by simp only [Blk.at]; rw [if_pos hi, List.getElem?_eq_getElem (by rw [intsV_len]; simpa [Blk.n, len_eq] using hj)]⟩
  | grow l xs =>
    refine ⟨fun i j c h => ?_, fun i j hi hj => ?_⟩
    · simp only [Blk.at] at h
      split at h
      · rename_i hi
        have hj := (List.getElem?_eq_some_iff.1 h).1
        rw [dtsL_len] at hj
        rw [dtsL_get, List.getElem?_eq_getElem hj] at h
        obtain rfl := Option.some.inj h
        exact ⟨by simpa [Blk.n, len_eq] using hj, hi, rfl⟩
      · cases h
    · have hi : i < xs.length := hi
      exact ⟨_, by simp only [Blk.at]; rw [if_pos hi, List.getElem?_eq_getElem (by rw [dtsL_len]; simpa [Blk.n, len_eq] using hj)]⟩
/-- The values in a row, one behind the other. -/
def CellsOf (F : NS) (γ : GM) (m : MM) (w : World) (blk : Blk) (Vs : List Value) : Prop :=
  blk.isRows = true ∧ Vs.length = blk.len * blk.n ∧ ∀ i j c, blk.at i j = some c → ∃ V, Vs[i * blk.n + j]? = some V ∧ RelC F γ m w c V
theorem CellsOf.step {F' : NS} {γ' : GM} {m m' : MM} {w' : World} {blk : Blk} {Vs : List Value} (hz : ∀ g, F.z g → F'.z g) (hw : ∀ g, F.z g → w'.heap[g]? = w.heap[g]?) (h : CellsOf F γ m w blk Vs) : CellsOf F' γ' m' w' blk Vs :=
  ⟨h.1, h.2.1, fun i j c hc => let ⟨V, h1, h2⟩ := h.2.2 i j c hc; ⟨V, h1, h2.free ((at_rows h.1).1 i j c hc).2.2 hz hw⟩⟩
theorem CellsOf.one {m : MM} {blk : Blk} {Vs : List Value} (h : CellsOf F γ m w blk Vs) : ∀ v ∈ Vs, v.oneCell' = true := by
  intro v hv
  obtain ⟨k, hk, rfl⟩ := List.mem_iff_getElem.1 hv
  obtain ⟨hr, hl, hc⟩ := h
  have hn : 0 < blk.n := by
    rcases Nat.eq_zero_or_pos blk.n with h0 | h0
    · rw [h0, Nat.mul_zero] at hl; omega
    · exact h0
  have hi : k / blk.n < blk.len := Nat.div_lt_of_lt_mul (by rw [Nat.mul_comm, ← hl]; exact hk)
  obtain ⟨c, hcc⟩ := (at_rows hr).2 (k / blk.n) (k % blk.n) hi (Nat.mod_lt k hn)
  obtain ⟨V, h1, h2⟩ := hc _ _ c hcc
  rw [Nat.div_add_mod' k blk.n, List.getElem?_eq_getElem hk] at h1
  obtain rfl := Option.some.inj h1
  have hfree := ((at_rows hr).1 _ _ c hcc).2.2
  cases c <;> first | (cases hfree; done) | skip
  · -- a value: of a row of numbers
    cases blk with
    | cells l => cases hr
    | mem l ds => cases hr
    | map kk vk es => cases hr
    | row k' xs =>
      simp only [Blk.at] at hcc
      split at hcc
      · simp only [Option.some.injEq, CV.val.injEq] at hcc
        have h2 : _ = _ := h2
        rw [h2, ← hcc]; rfl
      · cases hcc
    | recs ks xs =>
      simp only [Blk.at] at hcc
      split at hcc
      · rw [intsV_get] at hcc
        cases hks : ks[k % (Blk.recs ks xs).n]? with
        | none => rw [hks] at hcc; cases hcc
        | some q =>
          rw [hks] at hcc
          simp only [Option.map_some, Option.some.injEq, CV.val.injEq] at hcc
          have h2 : _ = _ := h2
          rw [h2, ← hcc]; rfl
      · cases hcc
    | grow l xs =>
      simp only [Blk.at] at hcc
      split at hcc
      · rw [dtsL_get] at hcc
        cases hls : l[k % (Blk.grow l xs).n]? with
        | none => rw [hls] at hcc; cases hcc
        | some q => rw [hls] at hcc; simp at hcc
      · cases hcc
  · exact (Deep.one h2).1
/-- A row stands in memory, said of the values one behind the other. -/
theorem relB_cells {m : MM} {b : Nat} {blk : Blk} {Vs : List Value} (hc : CellsOf F γ m w blk Vs) (h : ∀ f v, Vs[f]? = some v → ∃ (g base : Nat) (cs : Array Value) (t : TF), γ b = some (g, base) ∧ w.heap[g]? = some (.cells cs t.1 t.2) ∧ cs[base + f]? = some v) : RelB F γ m w b blk := by
  intro i j c hcc
  obtain ⟨V, h1, h2⟩ := hc.2.2 i j c hcc
  obtain ⟨g, base, cs, t, h4, h5, h6⟩ := h _ V h1
  exact ⟨g, base, cs, t, V, h4, h5, h6, h2⟩
theorem cells_relB {m : MM} {b : Nat} {blk : Blk} (hr : blk.isRows = true) (h : RelB F γ m w b blk) : ∃ Vs, CellsOf F γ m w blk Vs ∧ ∀ f v, Vs[f]? = some v → ∃ (g base : Nat) (cs : Array Value) (t : TF), γ b = some (g, base) ∧ w.heap[g]? = some (.cells cs t.1 t.2) ∧ cs[base + f]? = some v := by
  obtain ⟨Vs, v1, v2⟩ := list_choice (R := fun f (_ : Nat) V => (∃ (g base : Nat) (cs : Array Value) (t : TF), γ b = some (g, base) ∧ w.heap[g]? = some (.cells cs t.1 t.2) ∧ cs[base + f]? = some V) ∧ ∀ c, blk.at (f / blk.n) (f % blk.n) = some c → RelC F γ m w c V) (List.range (blk.len * blk.n)) fun f c hf => by
    have hlt : f < blk.len * blk.n := by have := (List.getElem?_eq_some_iff.1 hf).1; simpa using this
    have hn : 0 < blk.n := by
      rcases Nat.eq_zero_or_pos blk.n with h0 | h0
      · rw [h0, Nat.mul_zero] at hlt; omega
      · exact h0
    obtain ⟨c, hc⟩ := (at_rows hr).2 (f / blk.n) (f % blk.n) (Nat.div_lt_of_lt_mul (by rw [Nat.mul_comm]; exact hlt)) (Nat.mod_lt f hn)
    obtain ⟨g, base, cs, t, V, k1, k2, k3, k4⟩ := h _ _ c hc
    rw [Nat.div_add_mod' f blk.n] at k3
    exact ⟨V, ⟨g, base, cs, t, k1, k2, k3⟩, fun c' hc' => by rw [hc] at hc'; obtain rfl := Option.some.inj hc'; exact k4⟩
  have hlen : Vs.length = blk.len * blk.n := by rw [v1]; simp
  refine ⟨Vs, ⟨hr, hlen, fun i j c hc => ?_⟩, fun f v hf => ?_⟩
  · obtain ⟨hj, hi, _⟩ := (at_rows hr).1 i j c hc
    have hlt : i * blk.n + j < blk.len * blk.n := by
      have : i * blk.n + blk.n ≤ blk.len * blk.n := by rw [← Nat.succ_mul]; exact Nat.mul_le_mul_right _ hi
      omega
    obtain ⟨V, hV⟩ : ∃ V, Vs[i * blk.n + j]? = some V := ⟨_, List.getElem?_eq_getElem (by omega)⟩
    obtain ⟨_, k2⟩ := v2 _ _ V (List.getElem?_eq_getElem (l := List.range (blk.len * blk.n)) (by simpa using hlt)) hV
    refine ⟨V, hV, k2 c ?_⟩
    have e1 : (i * blk.n + j) / blk.n = i := by rw [Nat.mul_comm, Nat.mul_add_div (by omega), Nat.div_eq_of_lt hj]; rfl
    have e2 : (i * blk.n + j) % blk.n = j := by rw [Nat.mul_comm, Nat.mul_add_mod, Nat.mod_eq_of_lt hj]
    rw [e1, e2]; exact hc
  · have hlt := (List.getElem?_eq_some_iff.1 hf).1
    exact (v2 f _ v (List.getElem?_eq_getElem (l := List.range (blk.len * blk.n)) (by simp; omega)) hf).1
/-- Cells of a kind, from a list of rows of values. -/
theorem cellsOf_row (F : NS) (γ : GM) (m : MM) (w : World) (k : IntKind) (xs : List Int) : CellsOf F γ m w (.row k xs) (xs.map (.int k)) := by
  refine ⟨rfl, by simp [Blk.len, Blk.n], fun i j c hc => ?_⟩
  simp only [Blk.at] at hc
  split at hc
  · rename_i hj
    obtain ⟨rfl, hi⟩ := hj
    obtain rfl := Option.some.inj hc
    exact ⟨_, by simp only [Blk.n, Nat.mul_one, Nat.add_zero, List.getElem?_map]; rw [List.getElem?_eq_getElem hi]; simp [nth_eq, hi], rfl⟩
  · cases hc
theorem flat_get {α β : Type} (g : α → List β) (n : Nat) (hg : ∀ r, (g r).length = n) : ∀ (xs : List α) (i j : Nat), j < n → (xs.flatMap g)[i * n + j]? = xs[i]?.bind fun r => (g r)[j]?
  | [], i, j, _ => by simp
  | x :: xs, i, j, hj => by
    rw [List.flatMap_cons]
    cases i with
    | zero => rw [Nat.zero_mul, Nat.zero_add, List.getElem?_append_left (by rw [hg]; exact hj)]; simp
    | succ i =>
      have h1 : (g x).length ≤ (i + 1) * n + j := by rw [hg, Nat.succ_mul]; omega
      rw [List.getElem?_append_right h1, hg, show (i + 1) * n + j - n = i * n + j by rw [Nat.succ_mul]; omega, flat_get g n hg xs i j hj]
      simp
theorem flat_len {α β : Type} (g : α → List β) (n : Nat) (hg : ∀ r, (g r).length = n) : ∀ (xs : List α), (xs.flatMap g).length = xs.length * n
  | [] => by simp
  | x :: xs => by rw [List.flatMap_cons, List.length_append, hg, flat_len g n hg xs, List.length_cons, Nat.succ_mul]; omega
theorem cellsOf_recs (F : NS) (γ : GM) (m : MM) (w : World) (ks : List IntKind) (xs : List (List Int)) : CellsOf F γ m w (.recs ks xs) (xs.flatMap fun r => valsI ks r 0) := by
  refine ⟨rfl, by rw [flat_len _ ks.length (fun r => valsI_len ks r 0)]; simp [Blk.len, Blk.n, len_eq], fun i j c hc => ?_⟩
  have hj := ((at_rows (blk := .recs ks xs) rfl).1 i j c hc).1
  simp only [Blk.at] at hc
  split at hc
  · rename_i hi
    have hj' : j < ks.length := by simpa [Blk.n, len_eq] using hj
    rw [intsV_vals, List.getElem?_map] at hc
    simp only [Blk.n, len_eq]
    rw [flat_get _ ks.length (fun r => valsI_len ks r 0) xs i j hj', List.getElem?_eq_getElem hi]
    have hn : nth [] xs i = xs[i] := by rw [nth_eq, List.getD_eq_getElem?_getD, List.getElem?_eq_getElem hi]; rfl
    rw [hn] at hc
    cases hv : (valsI ks xs[i] 0)[j]? with
    | none => rw [hv] at hc; cases hc
    | some v => rw [hv] at hc; obtain rfl := Option.some.inj hc; exact ⟨v, by simp [hv], rfl⟩
  · cases hc
end
end Go.Proofs.Ytmmaechogibodaa.Vm
