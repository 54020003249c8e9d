/- Each operation of the abstract interpreter is what the model does: structs built, slices made. Conditions: none here. -/
import Derived.Test.YtoibhkhgpahdjaaVmE
set_option linter.unusedVariables false
set_option linter.unusedSimpArgs false
namespace Go.Proofs.Ytoibhkhgpahdjaa.Vm
open Go Go.RowKit

section
variable {P : Program} {A : Nat → Prop} {w0 : World} {F : Nat → Prop} {γ : GM} {s : St} {a : Act} {w : World}
theorem seg_list (cs : List Value) (o : Nat) (vs : List Value) (h : o + vs.length ≤ cs.length) (k : Nat) :
    (cs.take o ++ vs ++ cs.drop (o + vs.length))[k]? = if o ≤ k ∧ k < o + vs.length then vs[k - o]? else cs[k]? := by
  have := seg_get cs.toArray o vs (by simpa using h) k
  simpa using this
theorem fold_put (off : Nat) : ∀ (l : List Value) (j : Nat) (cs : Array Value), off + j + l.length ≤ cs.size →
    ((l.zipIdx j).foldl (fun cs p => cs.setIfInBounds (off + p.2) p.1) cs).toList = cs.toList.take (off + j) ++ l ++ cs.toList.drop (off + j + l.length)
  | [], j, cs, h => by simp
  | v :: l, j, cs, h => by
    simp only [List.zipIdx_cons, List.foldl_cons]
    rw [fold_put off l (j + 1) _ (by simp at h ⊢; omega)]
    have e := list_seg_step cs.toList (off + j) v l (by simp at h ⊢; omega)
    simpa [Array.toList_setIfInBounds, Nat.add_assoc] using e
theorem fill_cons (place : Nat → Option (Nat × Nat)) (cells : Array Value) (i : Nat) (v : Value) (rest : List (Nat × Value)) {off size : Nat} (hp : place i = some (off, size)) (hs : v.cells.size = size) (hf : off + v.cells.size ≤ cells.size) :
    Instr.fill place cells ((i, v) :: rest) = Instr.fill place (cells.toList.take off ++ v.cells.toList ++ cells.toList.drop (off + v.cells.size)).toArray rest := by
  simp only [Instr.fill, hp]
  rw [if_neg (by simp [hs]; omega)]
  congr 1
  have h1 : (Array.foldl (fun cs x => match x with | (c, j) => cs.setIfInBounds (off + j) c) cells v.cells.zipIdx) = (v.cells.toList.zipIdx 0).foldl (fun cs p => cs.setIfInBounds (off + p.2) p.1) cells := by
    rw [← Array.foldl_toList, Array.toList_zipIdx]
  rw [h1]
  apply Array.ext'
  rw [fold_put off _ 0 cells (by simpa using hf)]
  simp
theorem all2_over {R : CV → Value → Prop} {l r q : List CV} {L V : List Value} (hl : All2 R l L) (hr : All2 R r V) {o : Nat} (h : over l o r = some q) (hf : o + V.length ≤ L.length) : All2 R q (L.take o ++ V ++ L.drop (o + V.length)) := by
  obtain ⟨h1, h2, h3⟩ := over_spec l o r q h
  have e1 := hl.length
  have e2 := hr.length
  refine All2.of_get (by simp; omega) fun k c v hc hv => ?_
  rw [h3 k] at hc
  rw [seg_list L o V hf] at hv
  rw [e2] at hc
  split at hc
  · rename_i hk
    rw [if_pos hk] at hv
    obtain ⟨v', h4, h5⟩ := hr.get _ c hc
    rw [hv] at h4; obtain rfl := Option.some.inj h4
    exact h5
  · rename_i hk
    rw [if_neg hk] at hv
    obtain ⟨v', h4, h5⟩ := hl.get _ c hc
    rw [hv] at h4; obtain rfl := Option.some.inj h4
    exact h5
theorem fill_rel (R : Rel A w0 F γ s a w) {pl place : Nat → Option (Nat × Nat)} (hpl : ∀ i x, pl i = some x → place i = some x) : ∀ (parts : List (Nat × Operand)) (cs q : List CV) (C : Array Value), fillL pl s.ev cs parts = some q → All2 (RelC F γ s.mem w) cs C.toList →
    ∃ C', Instr.fill place C (parts.map fun x => (x.1, a.eval x.2)) = some C' ∧ All2 (RelC F γ s.mem w) q C'.toList
  | [], cs, q, C, h, hr => by simp only [fillL, Option.some.injEq] at h; subst h; exact ⟨C, rfl, hr⟩
  | (i, x) :: parts, cs, q, C, h, hr => by
    simp only [fillL] at h
    split at h
    · rename_i off n p hp hx
      split at h
      · rename_i hc
        obtain ⟨c1, c2, c3⟩ := hc
        split at h
        · rename_i cs' hcs
          have hv := R.ev x
          rw [hx] at hv
          obtain ⟨d1, d2⟩ := cells_rel hv c3
          have hl := d1.length
          rw [len_eq] at c1
          obtain ⟨o1, o2, o3⟩ := over_spec cs off _ cs' hcs
          have o2 : off + (cellsPV p).length ≤ cs.length := by
            rcases o2 with o2 | o2
            · rw [o2] at c1; simp at c1; omega
            · exact o2
          have hcl := hr.length
          simp at hl hcl
          obtain ⟨C', k1, k2⟩ := fill_rel R hpl parts cs' q (C.toList.take off ++ (a.eval x).cells.toList ++ C.toList.drop (off + (a.eval x).cells.size)).toArray h (by
            have := all2_over hr d1 hcs (by simp; omega)
            simpa using this)
          refine ⟨C', ?_, k2⟩
          simp only [List.map_cons]
          rw [fill_cons place C i (a.eval x) _ (hpl i _ hp) (by omega) (by omega)]
          exact k1
        · cases h
      · cases h
    · cases h
theorem places_run (W : World) : ∀ (fs : List Field) (pl : List (Nat × Nat)), placesF P fs = some pl → (fs.mapM (fun f => do pure (f.offset, ← sizeOf f.type) : Field → Sem (Nat × Nat))).run P W = .ok pl W
  | [], pl, h => by simp only [placesF, Option.some.injEq] at h; subst h; simp
  | f :: fs, pl, h => by
    simp only [placesF] at h
    split at h
    · rename_i n r hn hr
      obtain rfl := Option.some.inj h
      have ih := places_run W fs r hr
      rw [List.mapM_cons]
      simp only [Sem.run_bind, sSize hn, Result.andThen_ok, Sem.run_pure, ih]
    · cases h
theorem ok_build (R : Rel A w0 F γ s a w) {nid : Nat} {o : Oper} {out : Out} {t : TypeId} {parts : Array (Nat × Operand)} (ho : o.op = .build t parts) (h : (exBuild P s.ev t parts).den = some out) : Sim P A w0 F nid s o out a w := by
  unfold exBuild at h
  split at h
  · rename_i i hi
    split at h
    · rename_i z hz
      have hparts : ((parts.map fun x => (x.1, a.eval x.2)).toList) = parts.toList.map fun x => (x.1, a.eval x.2) := by simp
      split at h
      · rename_i fs hu
        split at h
        · rename_i pl hpl
          split at h
          · rename_i l hl
            obtain rfl := den_ret1 h
            obtain ⟨C', k1, k2⟩ := fill_rel R (place := (pl.toArray[·]?)) (fun i x hx => by rw [nth?_eq] at hx; simpa using hx) parts.toList _ l z.cells hl (all2_val _ _ _ _ _)
            refine Sim.look R (V := .agg C') ?_ ⟨C', rfl, k2⟩
            have hm : (Array.mapM (fun f => do pure (f.offset, ← sizeOf f.type) : Field → Sem (Nat × Nat)) fs).run P w = .ok pl.toArray w := by
              rw [Array.mapM_eq_mapM_toList, Sem.run_map, places_run w fs.toList pl hpl]; rfl
            simp only [execOp, ho, Instr.build, Sem.run_bind, zeroValue, sInfo hi, Result.andThen_ok, hz, Sem.run_pure, run_underlying hu, hm, hparts, k1]
          · exact (den_fail h).elim
        · exact (den_fail h).elim
      · rename_i n e hu
        split at h
        · rename_i sz hsz
          split at h
          · rename_i l hl
            obtain rfl := den_ret1 h
            obtain ⟨C', k1, k2⟩ := fill_rel R (place := fun i => some (i * sz, sz)) (fun i x hx => hx) parts.toList _ l z.cells hl (all2_val _ _ _ _ _)
            refine Sim.look R (V := .agg C') ?_ ⟨C', rfl, k2⟩
            simp only [execOp, ho, Instr.build, Sem.run_bind, zeroValue, sInfo hi, Result.andThen_ok, hz, Sem.run_pure, run_underlying hu, sSize hsz, hparts, k1]
          · exact (den_fail h).elim
        · exact (den_fail h).elim
      · exact (den_fail h).elim
    · exact (den_fail h).elim
  · exact (den_fail h).elim

/-- The values in a row, one behind the other. -/
def valsI : List IntKind → List Int → Nat → List Value
  | [], _, _ => []
  | k :: ks, r, j => .int k (nth 0 r j) :: valsI ks r (j + 1)
theorem valsI_len : ∀ (ks : List IntKind) (r : List Int) (j : Nat), (valsI ks r j).length = ks.length
  | [], _, _ => rfl
  | k :: ks, r, j => by simp [valsI, valsI_len ks]
theorem intsV_vals : ∀ (ks : List IntKind) (r : List Int) (j : Nat), intsV ks r j = (valsI ks r j).map .val
  | [], _, _ => rfl
  | k :: ks, r, j => by simp [intsV, valsI, intsV_vals ks]
def vals : Blk → List Value
  | .cells _ => []
  | .row k xs => xs.map (.int k)
  | .recs ks xs => xs.flatMap fun r => valsI ks r 0
def Blk.isRow : Blk → Bool
  | .cells _ => false
  | _ => true
theorem flat_get {α β : Type} (g : α → List β) (n : Nat) (hg : ∀ r, (g r).length = n) : ∀ (xs : List α) (i j : Nat), j < n → (xs.flatMap g)[i * n + j]? = xs[i]?.bind fun r => (g r)[j]?
  | [], i, j, _ => by simp
  | x :: xs, i, j, hj => by
    rw [List.flatMap_cons]
    cases i with
    | zero => rw [Nat.zero_mul, Nat.zero_add, List.getElem?_append_left (by rw [hg]; exact hj)]; simp
    | succ i =>
      have h1 : (g x).length ≤ (i + 1) * n + j := by rw [hg, Nat.succ_mul]; omega
      rw [List.getElem?_append_right h1, hg, show (i + 1) * n + j - n = i * n + j by rw [Nat.succ_mul]; omega, flat_get g n hg xs i j hj]
      simp
theorem flat_len {α β : Type} (g : α → List β) (n : Nat) (hg : ∀ r, (g r).length = n) : ∀ (xs : List α), (xs.flatMap g).length = xs.length * n
  | [] => by simp
  | x :: xs => by rw [List.flatMap_cons, List.length_append, hg, flat_len g n hg xs, List.length_cons, Nat.succ_mul]; omega
theorem vals_len {blk : Blk} (hr : blk.isRow = true) : (vals blk).length = blk.len * blk.n := by
  cases blk with
  | cells l => cases hr
  | row k xs => simp [vals, Blk.len, Blk.n]
  | recs ks xs => rw [vals, flat_len _ ks.length (fun r => valsI_len ks r 0)]; simp [Blk.len, Blk.n, len_eq]
theorem at_vals {blk : Blk} {i j : Nat} {c : CV} (hr : blk.isRow = true) (h : blk.at i j = some c) : j < blk.n ∧ i < blk.len ∧ ∃ v, c = .val v ∧ (vals blk)[i * blk.n + j]? = some v := by
  cases blk with
  | cells l => cases hr
  | row k xs =>
    simp only [Blk.at] at h
    split at h
    · rename_i hj
      obtain ⟨rfl, hi⟩ := hj
      obtain rfl := Option.some.inj h
      refine ⟨by simp [Blk.n], hi, _, rfl, ?_⟩
      simp [vals, Blk.n, nth_eq, hi]
    · cases h
  | recs ks xs =>
    simp only [Blk.at] at h
    split at h
    · rename_i hi
      rw [intsV_vals, List.getElem?_map] at h
      have hj : j < ks.length := by
        rcases Nat.lt_or_ge j ks.length with h' | h'
        · exact h'
        · rw [List.getElem?_eq_none (by rw [valsI_len]; exact h')] at h; cases h
      refine ⟨by simpa [Blk.n, len_eq] using hj, hi, ?_⟩
      simp only [vals, Blk.n, len_eq]
      rw [flat_get _ ks.length (fun r => valsI_len ks r 0) xs i j hj, List.getElem?_eq_getElem hi]
      cases hv : (valsI ks (nth [] xs i) 0)[j]? with
      | none => rw [hv] at h; cases h
      | some v =>
        rw [hv] at h
        refine ⟨v, (Option.some.inj h).symm, ?_⟩
        rw [nth_eq, List.getD_eq_getElem?_getD, List.getElem?_eq_getElem hi] at hv
        simpa using hv
    · cases h
theorem vals_at {blk : Blk} {f : Nat} {v : Value} (hr : blk.isRow = true) (h : (vals blk)[f]? = some v) : ∃ i j, f = i * blk.n + j ∧ blk.at i j = some (.val v) := by
  cases blk with
  | cells l => cases hr
  | row k xs =>
    refine ⟨f, 0, by simp [Blk.n], ?_⟩
    simp only [vals, List.getElem?_map] at h
    cases hx : xs[f]? with
    | none => rw [hx] at h; cases h
    | some x =>
      rw [hx] at h
      obtain ⟨hf, hx'⟩ := List.getElem?_eq_some_iff.1 hx
      simp only [Option.map_some, Option.some.injEq] at h
      simp [Blk.at, hf, nth_eq, ← h, hx']
  | recs ks xs =>
    have hlt := (List.getElem?_eq_some_iff.1 h).1
    rw [vals, flat_len _ ks.length (fun r => valsI_len ks r 0)] at hlt
    have hpos : 0 < ks.length := by
      rcases Nat.eq_zero_or_pos ks.length with h0 | h0
      · rw [h0] at hlt; omega
      · exact h0
    have hmod := Nat.mod_lt f hpos
    refine ⟨f / ks.length, f % ks.length, by simp [Blk.n, len_eq, Nat.div_add_mod' f ks.length], ?_⟩
    have hi : f / ks.length < xs.length := Nat.div_lt_of_lt_mul (by rw [Nat.mul_comm]; exact hlt)
    rw [vals, show f = f / ks.length * ks.length + f % ks.length by rw [Nat.div_add_mod' f ks.length], flat_get _ ks.length (fun r => valsI_len ks r 0) xs _ _ hmod, List.getElem?_eq_getElem hi] at h
    simp only [Option.bind_some] at h
    simp only [Blk.at]
    rw [if_pos hi, intsV_vals, List.getElem?_map, nth_eq, List.getD_eq_getElem?_getD, List.getElem?_eq_getElem hi, Option.getD_some, h]
    rfl
/-- A row of numbers stands in memory, said of the values one behind the other. -/
theorem relB_flat {m : MM} {b : Nat} {blk : Blk} (hr : blk.isRow = true) (h : ∀ f v, (vals blk)[f]? = some v → ∃ (g base : Nat) (cs : Array Value) (t : TF), γ b = some (g, base) ∧ w.heap[g]? = some (.cells cs t.1 t.2) ∧ cs[base + f]? = some v) : RelB F γ m w b blk := by
  intro i j c hc
  obtain ⟨_, _, v, rfl, h3⟩ := at_vals hr hc
  obtain ⟨g, base, cs, t, h4, h5, h6⟩ := h _ v h3
  exact ⟨g, base, cs, t, v, h4, h5, h6, rfl⟩
theorem flat_relB {m : MM} {b : Nat} {blk : Blk} (hr : blk.isRow = true) (h : RelB F γ m w b blk) (f : Nat) (v : Value) (hv : (vals blk)[f]? = some v) : ∃ (g base : Nat) (cs : Array Value) (t : TF), γ b = some (g, base) ∧ w.heap[g]? = some (.cells cs t.1 t.2) ∧ cs[base + f]? = some v := by
  obtain ⟨i, j, rfl, h2⟩ := vals_at hr hv
  obtain ⟨g, base, cs, t, V, h4, h5, h6, h7⟩ := h i j _ h2
  obtain rfl : V = v := h7
  exact ⟨g, base, cs, t, h4, h5, h6⟩
end
end Go.Proofs.Ytoibhkhgpahdjaa.Vm
