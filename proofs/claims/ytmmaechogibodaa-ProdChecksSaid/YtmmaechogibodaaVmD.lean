/- Each operation of the abstract interpreter is what the model does: variables read and written, fields and members. Conditions: none here. -/
import Derived.Test.YtmmaechogibodaaVmC
import Derived.Laws.StructEq
set_option linter.unusedVariables false
set_option linter.unusedSimpArgs false
namespace Go.Proofs.Ytmmaechogibodaa.Vm
open Go Go.RowKit

section
variable {P : Program} {A : Ctx} {w0 : World} {F : NS} {γ : GM} {s : St} {a : Act} {w : World}
theorem Deep.one {z : Nat → Prop} {h : Sh} {d : D} {V : Value} (hd : Deep z w h d V) : V.oneCell' = true ∧ V.cells = #[V] := by
  cases hd <;> exact ⟨rfl, rfl⟩
theorem relC_one {m : MM} {c : CV} {V : Value} (h : RelC F γ m w c V) (ho : oneOk c = true) : V.oneCell' = true ∧ V.cells = #[V] := by
  cases c with
  | val v => obtain rfl : V = v := h; cases V <;> first | exact ⟨rfl, rfl⟩ | simp [oneOk] at ho
  | ptr b i n j => obtain ⟨_, ⟨g, base, _, rfl⟩, _⟩ := h; exact ⟨rfl, rfl⟩
  | slf b => obtain ⟨_, ⟨x, l, c, rfl⟩, _⟩ := h; exact ⟨rfl, rfl⟩
  | slc b off l => obtain ⟨_, ⟨x, l, c, rfl⟩, _⟩ := h; exact ⟨rfl, rfl⟩
  | ro l x => exact Deep.one h
  | dt l x => exact Deep.one h
  | rop l x j => obtain ⟨g, base, cs, t, _, _, rfl, _⟩ := h; exact ⟨rfl, rfl⟩
  | mapr b => obtain ⟨_, ⟨g, base, _, rfl⟩, _⟩ := h; exact ⟨rfl, rfl⟩
  | mptr b j l => obtain ⟨_, ⟨g, base, _, rfl⟩, _⟩ := h; exact ⟨rfl, rfl⟩
  | any => simp [oneOk] at ho
theorem all_one {m : MM} : ∀ {l : List CV} {Vs : List Value}, All2 (RelC F γ m w) l Vs → allOk l = true → ∀ v ∈ Vs, v.oneCell' = true
  | [], [], _, _, v, hv => by simp at hv
  | c :: l, V :: Vs, h, ho, v, hv => by
    simp only [allOk] at ho
    split at ho
    · rename_i h1
      rcases List.mem_cons.1 hv with rfl | hv
      · exact (relC_one h.1 h1).1
      · exact all_one h.2 ho v hv
    · cases ho
  | [], V :: Vs, h, _, _, _ => h.elim
  | c :: l, [], h, _, _, _ => h.elim
theorem cells_rel {m : MM} {p : PV} {V : Value} (h : RelP F γ m w p V) (ho : okPV p = true) : All2 (RelC F γ m w) (cellsPV p) V.cells.toList ∧ ∀ v ∈ V.cells.toList, v.oneCell' = true := by
  cases p with
  | one c =>
    obtain ⟨h1, h2⟩ := relC_one h ho
    rw [h2]
    exact ⟨⟨h, trivial⟩, fun v hv => by simp at hv; rw [hv]; exact h1⟩
  | agg l => obtain ⟨cs, rfl, h2⟩ := h; exact ⟨h2, all_one h2 ho⟩
  | dat l ds =>
    obtain ⟨cs, rfl, h2, h3⟩ := h
    refine ⟨All2.of_get (by simp [cellsPV, cvsL_len, Value.cells, h2]) fun k c V hc hV => ?_, fun v hv => ?_⟩
    · obtain ⟨V', k1, k2⟩ := h3.cells (γ := γ) (m := m) l 0 (fun k => by rw [Nat.zero_add]) k c hc
      have hV : cs[k]? = some V := by simpa [Value.cells] using hV
      rw [Nat.zero_add, hV] at k1
      obtain rfl := Option.some.inj k1
      exact k2
    · obtain ⟨k, hk, rfl⟩ := List.mem_iff_getElem.1 hv
      have hk' : k < cs.size := by simpa [Value.cells] using hk
      obtain ⟨V, k1, k2⟩ := h3 k l[k] (List.getElem?_eq_getElem (by omega))
      have : cs[k] = V := by
        have := (Array.getElem?_eq_getElem hk').symm.trans k1
        exact Option.some.inj this
      simp only [Value.cells, Array.getElem_toList, this]
      exact k2.one.1
theorem ok_box (R : Rel A w0 F γ s a w) {nid : Nat} (hf : ∀ q, nid ≤ q → q < nid + 64 → ¬ F q) {o : Oper} {out : Out} {t : TypeId} {x : Operand} (ho : o.op = .box t x) (h : (exBox P nid t (s.ev x)).den = some out) : Sim P A w0 F γ nid s o out a w := by
  have hx := R.ev x
  have hrun : (execOp a.eval o).run P w = .ok (.value (.pointer (some ⟨w.heap.size, 0, none⟩))) (w.alloc (.cells (a.eval x).cells t)) := by simp [execOp, ho, Instr.box, newVar, newRow]
  unfold exBox at h
  split at h
  · rename_i l ds hp
    rw [hp] at hx
    obtain ⟨cs, hcs, h2, h3⟩ := hx
    refine Sim.newM R hf hrun ?_ h
    rw [hcs]; exact h3
  · rename_i l hp
    rw [hp] at hx
    split at h
    · rename_i L ds hb
      obtain ⟨cs, hcs, h2⟩ := hx
      unfold boxD at hb
      split at hb
      · split at hb
        · rename_i vs L' hvs _
          split at hb
          · rename_i ds' hds
            obtain ⟨rfl, rfl⟩ := by simpa using hb
            have e1 : cs.toList = vs := cvVals_rel hvs h2
            refine Sim.newM R hf hrun ?_ h
            rw [hcs]
            have := valsD_deep (z := F.z) (w := w) hds
            rw [← e1] at this
            simpa [Value.cells] using this
          · cases hb
        · cases hb
      · cases hb
    · split at h
      · rename_i hk
        exact Sim.newV R hf hrun (cells_rel (p := .agg l) hx hk).1 h
      · exact (den_fail h).elim
  · rename_i p hnd _ hp
    rw [hp] at hx
    split at h
    · rename_i hk
      exact Sim.newV R hf hrun (cells_rel hx hk).1 h
    · exact (den_fail h).elim
  · exact (den_fail h).elim
theorem ok_extract (R : Rel A w0 F γ s a w) {nid : Nat} {o : Oper} {out : Out} {x : Operand} {i : Nat} (ho : o.op = .extract x i) (h : (exExtract (s.ev x) i).den = some out) : Sim P A w0 F γ nid s o out a w := by
  have hx := R.ev x
  unfold exExtract at h
  split at h
  · rename_i l hp
    rw [hp] at hx
    obtain ⟨vs, hv, h2⟩ := hx
    split at h
    · rename_i p hq
      obtain rfl := den_ret1 h
      rw [nth?_eq] at hq
      obtain ⟨V, h3, h4⟩ := h2.get i p hq
      refine Sim.look R (V := V) ?_ h4
      have : vs[i]? = some V := by simpa using h3
      simp [execOp, ho, hv, Instr.extract, this]
    · exact (den_fail h).elim
  · exact (den_fail h).elim
theorem shape_rel {m : MM} {b : Option Bool} {l : List CV} {Vs : List Value} {p : PV} (h : shapePV b l = some p) (hr : All2 (RelC F γ m w) l Vs) :
    (b = some true ∧ RelP F γ m w p (.agg Vs.toArray)) ∨ (b = some false ∧ ∃ V, Vs = [V] ∧ RelP F γ m w p V) := by
  cases b with
  | none => simp [shapePV] at h
  | some b =>
    cases b with
    | true => simp only [shapePV, Option.some.injEq] at h; subst h; exact .inl ⟨rfl, Vs.toArray, rfl, by simpa using hr⟩
    | false =>
      right
      refine ⟨rfl, ?_⟩
      match l, Vs, hr, h with
      | [c], [V], hr, h => simp only [shapePV, Option.some.injEq] at h; subst h; exact ⟨V, rfl, hr.1⟩
      | [], [], hr, h => simp [shapePV] at h
      | c :: d :: l, _, hr, h => simp [shapePV] at h
      | [c], [], hr, h => exact hr.elim
      | [c], V :: V' :: Vs, hr, h => exact hr.2.elim
      | [], _ :: _, hr, h => exact hr.elim
theorem part_run {m : MM} {t : TypeId} {cs : Array Value} {off n : Nat} {l r : List CV} {p : PV} (hn : sizeT P t = some n) (hl : All2 (RelC F γ m w) l cs.toList) (hc : cut l off n = some r) (hp : shapePV (aggT P t) r = some p) (W : World) :
    ∃ V, (part t cs off).run P W = .ok V W ∧ RelP F γ m w p V := by
  obtain ⟨h1, h2, h3⟩ := cut_spec l off n r hc
  have hll := hl.length
  have hlen : n = 0 ∨ off + n ≤ cs.size := by simpa [hll] using h2
  have hr : All2 (RelC F γ m w) r (cs.toList.drop off |>.take n) := by
    refine All2.of_get (by simp; simp at hll; omega) fun k c V hk hV => ?_
    have hkn : k < n := by rw [← h1]; exact (List.getElem?_eq_some_iff.1 hk).1
    rw [h3 k hkn] at hk
    obtain ⟨V', h4, h5⟩ := hl.get _ c hk
    rw [List.getElem?_take, if_pos hkn, List.getElem?_drop, h4] at hV
    obtain rfl := Option.some.inj hV
    exact h5
  rcases shape_rel hp hr with ⟨hb, h4⟩ | ⟨hb, V, h4, h5⟩
  · refine ⟨_, ?_, h4⟩
    simp only [part, Sem.run_bind, sAgg hb, Result.andThen_ok, if_true, sSize hn, Sem.run_pure]
    congr 2
    apply Array.ext'
    simp
  · have hn1 : n = 1 := by have := congrArg List.length h4; simp at this; rw [← h1] ; have := hr.length; rw [h4] at this; simpa using this
    subst hn1
    refine ⟨V, ?_, h5⟩
    have : cs[off]? = some V := by
      have := congrArg (·[0]?) h4
      simpa using this
    simp [part, sAgg hb, this]
theorem ok_field (R : Rel A w0 F γ s a w) {nid : Nat} {o : Oper} {out : Out} {t : TypeId} {x : Operand} {i : Nat} (ho : o.op = .field t x i) (h : (exField P t (s.ev x) i).den = some out) : Sim P A w0 F γ nid s o out a w := by
  have hx := R.ev x
  unfold exField at h
  split at h
  · rename_i l ft off n hp hft
    rw [hp] at hx
    obtain ⟨cs, hv, h2⟩ := hx
    unfold fieldT at hft
    split at hft
    · rename_i fields hu
      split at hft
      · rename_i f hf
        split at hft
        · rename_i n' hn
          obtain ⟨rfl, rfl, rfl⟩ : f.type = ft ∧ f.offset = off ∧ n' = n := by simpa using hft
          split at h
          · rename_i r hr
            split at h
            · rename_i p hp'
              obtain rfl := den_ret1 h
              obtain ⟨V, h3, h4⟩ := part_run hn h2 hr hp' w
              refine Sim.look R (V := V) ?_ h4
              simp [execOp, ho, hv, Instr.field, run_underlying hu, hf, asAgg, h3]
            · exact (den_fail h).elim
          · exact (den_fail h).elim
        · cases hft
      · cases hft
    · cases hft
  · exact (den_fail h).elim
theorem get_at {blk : Blk} {i j n nn : Nat} {l : List CV} (hp : ptrOk blk i nn) (h : blk.get i j n = some l) : l.length = n ∧ ∀ k, k < n → ∃ c c', l[k]? = some c ∧ blk.at i (j + k) = some c' ∧ ∀ (F : NS) (γ : GM) (m : MM) (w : World) (V : Value), RelC F γ m w c' V → RelC F γ m w c V := by
  have same : ∀ {l : List CV} {f : Nat → Option CV}, l.length = n → (∀ k, k < n → l[k]? = f k) → ∀ k, k < n → ∃ c c', l[k]? = some c ∧ f k = some c' ∧ ∀ (F : NS) (γ : GM) (m : MM) (w : World) (V : Value), RelC F γ m w c' V → RelC F γ m w c V := fun hl hk k hkn => by
    have h0 := hk k hkn
    rw [List.getElem?_eq_getElem (by omega)] at h0 ⊢
    exact ⟨_, _, rfl, h0.symm, fun _ _ _ _ _ h => h⟩
  cases blk with
  | cells c =>
    obtain ⟨rfl, rfl⟩ := hp
    obtain ⟨h1, h2, h3⟩ := cut_spec c j n l h
    exact ⟨h1, same h1 fun k hk => by rw [h3 k hk]; simp [Blk.at]⟩
  | row k xs =>
    obtain ⟨rfl, hi⟩ := hp
    match j, n, h with
    | 0, 1, h =>
      simp only [Blk.get, Option.some.injEq] at h
      subst h
      refine ⟨rfl, same rfl fun q hq => ?_⟩
      obtain rfl : q = 0 := by omega
      simp [Blk.at, hi]
    | 0, 0, h => simp [Blk.get] at h
    | 0, n + 2, h => simp [Blk.get] at h
    | j + 1, _, h => simp [Blk.get] at h
  | recs ks xs =>
    obtain ⟨rfl, hi⟩ := hp
    obtain ⟨h1, h2, h3⟩ := cut_spec _ j n l h
    exact ⟨h1, same h1 fun k hk => by rw [h3 k hk]; simp [Blk.at, hi]⟩
  | grow ls xs =>
    obtain ⟨rfl, hi⟩ := hp
    obtain ⟨h1, h2, h3⟩ := cut_spec _ j n l h
    rw [cvsL_len] at h2
    refine ⟨h1, fun k hk => ?_⟩
    obtain ⟨sh, hsh⟩ : ∃ sh, ls[j + k]? = some sh := ⟨_, List.getElem?_eq_getElem (by omega)⟩
    refine ⟨_, _, by rw [h3 k hk, cvsL_get, hsh]; rfl, by simp only [Blk.at]; rw [if_pos hi, dtsL_get, hsh]; rfl, fun F γ m w V h => ?_⟩
    exact Deep.cell (z := F.z) h fun _ h => h
  | mem ls ds => exact absurd hp id
  | map kk vk es => exact absurd hp id
theorem ptr_n {blk : Blk} {i n : Nat} (h : ptrOk blk i n) : n = blk.n := by cases blk <;> simp [ptrOk, Blk.n] at * <;> first | exact h.2 | exact h.1
/-- Cells of a block, read. -/
theorem block_read (R : Rel A w0 F γ s a w) {b : Nat} {e : Ent} {i n j sz : Nat} {V : Value} {l : List CV} (he : s.mem b = some e) (hv : RelC F γ s.mem w (.ptr b i n j) V) (hl : e.blk.get i j sz = some l) :
    ∃ g base Vs, γ b = some (g, base) ∧ V = .pointer (some ⟨g, base + (i * n + j), none⟩) ∧ Vs.length = sz ∧ All2 (RelC F γ s.mem w) l Vs ∧ ∀ k v, Vs[k]? = some v → w.cell? ⟨g, base + (i * n + j) + k, none⟩ = some v := by
  obtain ⟨_, ⟨g, base, h1, h2⟩, h3⟩ := hv
  have hp := h3 e he
  obtain ⟨h4, h5⟩ := get_at hp hl
  have hB := (R.memr b e he).2
  have key : ∀ k, k < sz → ∃ c V, l[k]? = some c ∧ w.cell? ⟨g, base + (i * n + j) + k, none⟩ = some V ∧ RelC F γ s.mem w c V := by
    intro k hk
    obtain ⟨c, c', hc, this, hcc⟩ := h5 k hk
    obtain ⟨g', base', cs, t, V', k1, k2, k3, k4⟩ := hB i (j + k) c' this
    rw [h1] at k1
    obtain ⟨rfl, rfl⟩ : g = g' ∧ base = base' := by simpa using k1
    refine ⟨c, V', hc, ?_, hcc _ _ _ _ _ k4⟩
    simp only [World.cell?, k2]
    rw [ptr_n hp, show base + (i * e.blk.n + j) + k = base + (i * e.blk.n + (j + k)) by omega]
    simpa using k3
  have ex : ∀ q, q ≤ sz → ∃ Vs : List Value, Vs.length = q ∧ ∀ k, k < q → ∃ c V, l[k]? = some c ∧ Vs[k]? = some V ∧ w.cell? ⟨g, base + (i * n + j) + k, none⟩ = some V ∧ RelC F γ s.mem w c V := by
    intro q
    induction q with
    | zero => exact fun _ => ⟨[], rfl, fun k hk => absurd hk (by omega)⟩
    | succ q ih =>
      intro hq
      obtain ⟨Vs, v1, v2⟩ := ih (by omega)
      obtain ⟨c, V', c1, c2, c3⟩ := key q (by omega)
      refine ⟨Vs ++ [V'], by simp [v1], fun k hk => ?_⟩
      by_cases hkq : k < q
      · obtain ⟨c', V'', d1, d2, d3⟩ := v2 k hkq
        exact ⟨c', V'', d1, by rw [List.getElem?_append_left (by omega)]; exact d2, d3⟩
      · obtain rfl : k = q := by omega
        exact ⟨c, V', c1, by rw [List.getElem?_append_right (by omega)]; simp [v1], c2, c3⟩
  obtain ⟨Vs, v1, v2⟩ := ex sz (Nat.le_refl _)
  refine ⟨g, base, Vs, h1, h2, v1, All2.of_get (by omega) fun k c V' hc hV => ?_, fun k v hk => ?_⟩
  · obtain ⟨c', V'', d1, d2, d3, d4⟩ := v2 k (by have := (List.getElem?_eq_some_iff.1 hc).1; omega)
    rw [d1] at hc; rw [d2] at hV
    obtain rfl := Option.some.inj hc
    obtain rfl := Option.some.inj hV
    exact d4
  · obtain ⟨c', V'', d1, d2, d3, d4⟩ := v2 k (by have := (List.getElem?_eq_some_iff.1 hk).1; omega)
    rw [d2] at hk
    obtain rfl := Option.some.inj hk
    exact d3
theorem addr_add (g o k : Nat) : (⟨g, o, none⟩ : Addr).add k = ⟨g, o + k, none⟩ := by unfold Addr.add; split <;> simp_all
theorem loadVar_run {m : MM} {W : World} {t : TypeId} {n g o : Nat} {l : List CV} {p : PV} {Vs : List Value} (hn : sizeT P t = some n) (hp : shapePV (aggT P t) l = some p) (hr : All2 (RelC F γ m w) l Vs) (hlen : Vs.length = n)
    (hc : ∀ k v, Vs[k]? = some v → W.cell? ⟨g, o + k, none⟩ = some v) : ∃ V, (loadVar t ⟨g, o, none⟩).run P W = .ok V W ∧ RelP F γ m w p V := by
  rcases shape_rel hp hr with ⟨hb, h4⟩ | ⟨hb, V, h4, h5⟩
  · refine ⟨_, ?_, h4⟩
    have := run_loadCells_list (P := P) W ⟨g, o, none⟩ Vs (fun j v hj => by rw [addr_add]; exact hc j v hj)
    simp only [loadVar, Sem.run_bind, sAgg hb, Result.andThen_ok, if_true, sSize hn, ← hlen, this, Sem.run_pure]
  · subst h4
    have := hc 0 V rfl
    simp only [Nat.add_zero] at this
    exact ⟨V, by simp [loadVar, sAgg hb, this], h5⟩
theorem rowCells_get (k : IntKind) (xs : List Int) : ∀ (n i j : Nat), j < n → (rowCells k xs i n)[j]? = some (.val (.int k (nth 0 xs (i + j))))
  | 0, i, j, h => by omega
  | n + 1, i, 0, _ => rfl
  | n + 1, i, j + 1, h => by
    simp only [rowCells, List.getElem?_cons_succ]
    rw [rowCells_get k xs n (i + 1) j (by omega)]
    congr 4; omega
theorem rowCells_len (k : IntKind) (xs : List Int) : ∀ (n i : Nat), (rowCells k xs i n).length = n
  | 0, _ => rfl
  | n + 1, i => by simp [rowCells, rowCells_len k xs n]
theorem wholeRow_spec {b : Blk} {agg : Option Bool} {i j : Nat} {k : IntKind} {xs : List Int} (h : wholeRow b agg i j = some (k, xs)) : b = .row k xs ∧ agg = some true ∧ i = 0 ∧ j = 0 := by
  unfold wholeRow at h
  split at h
  · obtain ⟨rfl, rfl⟩ := Prod.mk.inj (Option.some.inj h); exact ⟨rfl, rfl, rfl, rfl⟩
  · cases h
/-- What a block that is told by its data holds. -/
theorem mem_read (R : Rel A w0 F γ s a w) {b g base : Nat} {o : Bool} {L : List Sh} {ds : List D} (he : s.mem b = some ⟨o, .mem L ds⟩) (hg : γ b = some (g, base)) : DeepR F.z w L ds fun j => w.cell? ⟨g, base + j, none⟩ := by
  intro j sh hj
  obtain ⟨g', base', cs, t, V, k1, k2, k3, k4⟩ := (R.memr b _ he).2 0 j (.dt sh (nth d0 ds j)) (by simp only [Blk.at]; rw [if_pos trivial, dtsL_get, hj, Nat.zero_add]; rfl)
  rw [hg] at k1
  obtain ⟨rfl, rfl⟩ : g = g' ∧ base = base' := by simpa using k1
  refine ⟨V, ?_, k4⟩
  simp only [World.cell?, k2]
  simpa [Blk.n] using k3
/-- Cells that are told by their data, read as a value. -/
theorem deep_load {m : MM} {z : Nat → Prop} (hz : ∀ g, z g → F.z g) {L : List Sh} {ds : List D} {g o j : Nat} (h : DeepR z w L ds fun j => w.cell? ⟨g, o + j, none⟩) {t : TypeId} {n : Nat} {r : List CV} {p : PV} (hsz : sizeT P t = some n)
    (hr : cut (cvsL L ds 0) j n = some r) (hp : shapePV (aggT P t) r = some p) : ∃ V, (loadVar t ⟨g, o + j, none⟩).run P w = .ok V w ∧ RelP F γ m w p V := by
  obtain ⟨c1, c2, c3⟩ := cut_spec _ _ _ _ hr
  obtain ⟨Vs, v1, v2⟩ := list_choice (R := fun k c V => w.cell? ⟨g, o + j + k, none⟩ = some V ∧ RelC F γ m w c V) r fun k c hc => by
    have hk : k < n := by have := (List.getElem?_eq_some_iff.1 hc).1; omega
    rw [c3 k hk] at hc
    obtain ⟨V, k1, k2⟩ := (DeepR.step (z' := F.z) hz (fun _ _ => rfl) h).cells (γ := γ) (m := m) L 0 (fun k => by rw [Nat.zero_add]) (j + k) c hc
    rw [Nat.zero_add] at k1
    exact ⟨V, by rw [show o + j + k = o + (j + k) by omega]; exact k1, k2⟩
  exact loadVar_run hsz hp (All2.of_get v1.symm fun k c V hc hV => (v2 k c V hc hV).2) (by omega) fun k V hV => by
    have hk : k < r.length := by have := (List.getElem?_eq_some_iff.1 hV).1; omega
    exact (v2 k r[k] V (List.getElem?_eq_getElem hk) hV).1
theorem ok_load (R : Rel A w0 F γ s a w) {nid : Nat} {o : Oper} {out : Out} {t : TypeId} {x : Operand} (ho : o.op = .load t x) (h : (exLoad P s.mem t (s.ev x)).den = some out) : Sim P A w0 F γ nid s o out a w := by
  have hx := R.ev x
  unfold exLoad at h
  split at h
  · rename_i b i n j hp
    rw [hp] at hx
    split at h
    · rename_i e sz he hsz
      split at h
      · rename_i k xs hwr
        obtain ⟨hblk, hagg, rfl, rfl⟩ := wholeRow_spec hwr
        obtain ⟨hq, h⟩ := den_req h
        have hq : sz ≤ xs.length := of_decide_eq_true hq
        obtain rfl := den_ret1 h
        obtain ⟨h1, ⟨g, base, h2, h3⟩, h4⟩ := hx
        have hpk := h4 e he
        have hB := (R.memr b e he).2
        rw [hblk] at hB hpk
        obtain ⟨rfl, _⟩ := hpk
        have key : ∀ j, j < sz → w.cell? ⟨g, base + j, none⟩ = some (.int k (nth 0 xs j)) := fun j hj => by
          obtain ⟨g', base', cs, t', V, k1, k2, k3, k4⟩ := hB j 0 (.val (.int k (nth 0 xs j))) (by simp only [Blk.at]; rw [if_pos ⟨trivial, by omega⟩])
          rw [h2] at k1
          obtain ⟨rfl, rfl⟩ : g = g' ∧ base = base' := by simpa using k1
          obtain rfl : V = .int k (nth 0 xs j) := k4
          simp only [World.cell?, k2]
          simpa [Blk.n] using k3
        have hrun := run_loadCells_list (P := P) w ⟨g, base, none⟩ ((List.range sz).map fun j => .int k (nth 0 xs j)) (fun j v hj => by
          rw [addr_add]
          rw [List.getElem?_map] at hj
          by_cases hlt : j < sz
          · rw [List.getElem?_range hlt] at hj
            obtain rfl := Option.some.inj hj
            exact key j hlt
          · rw [List.getElem?_eq_none (by simpa using hlt)] at hj; cases hj)
        rw [List.length_map, List.length_range] at hrun
        refine Sim.look R (V := .agg ((List.range sz).map fun j => Value.int k (nth 0 xs j)).toArray) ?_ ⟨_, rfl, All2.of_get (by simp [rowCells_len]) fun j c V hc hV => ?_⟩
        · simp only [execOp, ho, h3, Instr.loadAt, Instr.sureAddr, loadVar, Sem.run_bind, Sem.run_pure, Result.andThen_ok, sAgg hagg, if_true, sSize hsz]
          rw [show base + (0 * 1 + 0) = base from rfl, hrun]
          rfl
        · have hlt : j < sz := by have := (List.getElem?_eq_some_iff.1 hc).1; rwa [rowCells_len] at this
          rw [rowCells_get k xs sz 0 j hlt] at hc
          obtain rfl := Option.some.inj hc
          simp [hlt] at hV
          rw [Nat.zero_add]
          exact hV.symm
      · split at h
        · rename_i l hl
          split at h
          · rename_i p hp'
            obtain rfl := den_ret1 h
            obtain ⟨g, base, Vs, h1, h2, h3, h4, h5⟩ := block_read R he hx hl
            obtain ⟨V, h6, h7⟩ := loadVar_run (W := w) hsz hp' h4 h3 h5
            refine Sim.look R (V := V) ?_ h7
            simp [execOp, ho, h2, Instr.loadAt, Instr.sureAddr, h6]
          · exact (den_fail h).elim
        · exact (den_fail h).elim
    · exact (den_fail h).elim
  · rename_i l xs j hp
    rw [hp] at hx
    obtain ⟨g, base, cs, tt, h1, h2, h3, h4⟩ := hx
    have h4' : DeepR F.z w l xs fun j => w.cell? ⟨g, base + j, none⟩ := fun j sh hj => by
      obtain ⟨V, k1, k2⟩ := h4 j sh hj
      exact ⟨V, by simp only [World.cell?, h2]; simpa using k1, k2⟩
    split at h
    · rename_i n hsz
      split at h
      · rename_i r hr
        split at h
        · rename_i p hp'
          obtain rfl := den_ret1 h
          obtain ⟨V, k1, k2⟩ := deep_load (γ := γ) (m := s.mem) (fun _ h => h) h4' hsz hr hp'
          refine Sim.look R (V := V) ?_ k2
          simp [execOp, ho, h3, Instr.loadAt, Instr.sureAddr, k1]
        · exact (den_fail h).elim
      · exact (den_fail h).elim
    · exact (den_fail h).elim
  · rename_i b j l hp
    rw [hp] at hx
    obtain ⟨h1, ⟨g, base, h2, h3⟩, h4⟩ := hx
    split at h
    · rename_i own L ds n he hsz
      split at h
      · rename_i hl
        rw [len_eq] at hl
        obtain ⟨L', hL', hLl⟩ := h4 _ he
        obtain rfl : L = L' := Option.some.inj hL'
        have hm := mem_read R he h2
        -- the cells from here on
        have hm' : DeepR F.z w l (ds.drop j) fun k => w.cell? ⟨g, base + j + k, none⟩ := fun k sh hk => by
          have hkl := (List.getElem?_eq_some_iff.1 hk).1
          obtain ⟨V, k1, k2⟩ := hm (j + k) sh ((hLl k hkl).trans hk)
          refine ⟨V, by have e : base + j + k = base + (j + k) := by omega
                        simp only [e]; exact k1, ?_⟩
          have : nth d0 (ds.drop j) k = nth d0 ds (j + k) := by simp only [nth_eq, List.getD_eq_getElem?_getD, List.getElem?_drop]
          rw [this]; exact k2
        obtain ⟨Vs, v1, v2⟩ := list_choice (R := fun k sh V => w.cell? ⟨g, base + j + k, none⟩ = some V ∧ Deep F.z w sh (nth d0 (ds.drop j) k) V) l fun k sh hk => hm' k sh hk
        have hvl : ∀ k V, Vs[k]? = some V → w.cell? ⟨g, base + j + k, none⟩ = some V := fun k V hV => by
          have hk : k < l.length := by have := (List.getElem?_eq_some_iff.1 hV).1; omega
          exact (v2 k l[k] V (List.getElem?_eq_getElem hk) hV).1
        have hdeep : ∀ k sh, l[k]? = some sh → ∃ V, Vs[k]? = some V ∧ Deep F.z w sh (nth d0 ds (j + k)) V := fun k sh hk => by
          have hkl := (List.getElem?_eq_some_iff.1 hk).1
          refine ⟨Vs[k]'(by omega), List.getElem?_eq_getElem (by omega), ?_⟩
          have := (v2 k sh _ hk (List.getElem?_eq_getElem (by omega : k < Vs.length))).2
          have e : nth d0 (ds.drop j) k = nth d0 ds (j + k) := by simp only [nth_eq, List.getD_eq_getElem?_getD, List.getElem?_drop]
          rwa [e] at this
        split at h
        · rename_i hagg
          have hrun : (loadVar t ⟨g, base + j, none⟩).run P w = .ok (.agg Vs.toArray) w := by
            have := run_loadCells_list (P := P) w ⟨g, base + j, none⟩ Vs (fun j v hj => by rw [addr_add]; exact hvl j v hj)
            simp only [loadVar, Sem.run_bind, sAgg hagg, Result.andThen_ok, if_true, sSize hsz, ← hl, ← v1, this, Sem.run_pure]
          have hexec : (execOp a.eval o).run P w = .ok (.value (.agg Vs.toArray)) w := by simp [execOp, ho, h3, Instr.loadAt, Instr.sureAddr, hrun]
          split at h
          · rename_i hw
            simp only [Bool.and_eq_true, beq_iff_eq, len_eq] at hw
            obtain ⟨hw, -, rfl⟩ := hw
            obtain rfl := den_ret1 h
            refine Sim.look R hexec ⟨Vs.toArray, rfl, by simp; omega, fun k sh hk => ?_⟩
            have hkl := (List.getElem?_eq_some_iff.1 hk).1
            obtain ⟨V, k1, k2⟩ := hdeep k sh (by rw [← hLl k (by omega), Nat.zero_add]; exact hk)
            rw [Nat.zero_add] at k2
            exact ⟨V, by simpa using k1, k2⟩
          · obtain rfl := den_ret1 h
            refine Sim.look R hexec ⟨Vs.toArray, rfl, All2.of_get (by simp [cvsL_len, v1]) fun k c V hc hV => ?_⟩
            rw [cvsL_get] at hc
            cases hk : l[k]? with
            | none => rw [hk] at hc; cases hc
            | some sh =>
              rw [hk] at hc
              simp only [Option.map_some, Option.some.injEq] at hc
              subst hc
              obtain ⟨V', k1, k2⟩ := hdeep k sh hk
              have hV : Vs[k]? = some V := by simpa using hV
              rw [k1] at hV
              obtain rfl := Option.some.inj hV
              exact k2.cell fun _ h => h
        · rename_i hagg
          split at h
          · rename_i sh
            obtain rfl := den_ret1 h
            obtain ⟨V, k1, k2⟩ := hdeep 0 sh rfl
            have hc := hvl 0 V k1
            simp only [Nat.add_zero] at hc k2
            refine Sim.look R (V := V) ?_ (k2.cell fun _ h => h)
            simp [execOp, ho, h3, Instr.loadAt, Instr.sureAddr, loadVar, sAgg hagg, hc]
          · exact (den_fail h).elim
        · exact (den_fail h).elim
      · exact (den_fail h).elim
    · exact (den_fail h).elim
  · exact (den_fail h).elim
theorem fieldT_spec {t : TypeId} {i : Nat} {ft : TypeId} {off n : Nat} (h : fieldT P t i = some (ft, off, n)) : ∃ fields f, P.underlying t = some (.struct fields) ∧ fields[i]? = some f ∧ f.type = ft ∧ f.offset = off ∧ sizeT P f.type = some n := by
  unfold fieldT at h
  split at h
  · rename_i fields hu
    split at h
    · rename_i f hf
      split at h
      · rename_i n' hn
        obtain ⟨rfl, rfl, rfl⟩ : f.type = ft ∧ f.offset = off ∧ n' = n := by simpa using h
        exact ⟨fields, f, hu, hf, rfl, rfl, hn⟩
      · cases h
    · cases h
  · cases h
theorem ok_fieldAddr (R : Rel A w0 F γ s a w) {nid : Nat} {o : Oper} {out : Out} {t : TypeId} {x : Operand} {i : Nat} (ho : o.op = .fieldAddr t x i) (h : (exFieldAddr P t (s.ev x) i).den = some out) : Sim P A w0 F γ nid s o out a w := by
  have hx := R.ev x
  unfold exFieldAddr at h
  split at h
  · rename_i b q n j ft off sz hp hft
    rw [hp] at hx
    obtain ⟨fields, f, hu, hf, rfl, rfl, hn⟩ := fieldT_spec hft
    split at h
    · exact (den_fail h).elim
    · rename_i hz
      obtain rfl := den_ret1 h
      obtain ⟨h1, ⟨g, base, h2, h3⟩, h4⟩ := hx
      refine Sim.look R (V := .pointer (some ⟨g, base + (q * n + (j + f.offset)), none⟩)) ?_ ⟨h1, ⟨g, base, h2, rfl⟩, h4⟩
      simp [execOp, ho, h3, Instr.fieldAt, run_underlying hu, hf, Instr.sureAddr, fieldPlace, sSize hn, hz, addr_add, Nat.add_assoc]
  · rename_i l xs j ft off sz hp hft
    rw [hp] at hx
    obtain ⟨fields, f, hu, hf, rfl, rfl, hn⟩ := fieldT_spec hft
    split at h
    · exact (den_fail h).elim
    · rename_i hz
      obtain rfl := den_ret1 h
      obtain ⟨g, base, cs, tt, h1, h2, h3, h4⟩ := hx
      refine Sim.look R (V := .pointer (some ⟨g, base + (j + f.offset), none⟩)) ?_ ⟨g, base, cs, tt, h1, h2, rfl, h4⟩
      simp [execOp, ho, h3, Instr.fieldAt, run_underlying hu, hf, Instr.sureAddr, fieldPlace, sSize hn, hz, addr_add, Nat.add_assoc]
  · rename_i b j l ft off sz hp hft
    rw [hp] at hx
    obtain ⟨fields, f, hu, hf, rfl, rfl, hn⟩ := fieldT_spec hft
    split at h
    · exact (den_fail h).elim
    · rename_i hz
      split at h
      · rename_i r hr
        obtain rfl := den_ret1 h
        obtain ⟨h1, ⟨g, base, h2, h3⟩, h4⟩ := hx
        obtain ⟨c1, c2, c3⟩ := cut_spec _ _ _ _ hr
        refine Sim.look R (V := .pointer (some ⟨g, base + (j + f.offset), none⟩)) ?_ ⟨h1, ⟨g, base, h2, rfl⟩, fun e he => ?_⟩
        · simp [execOp, ho, h3, Instr.fieldAt, run_underlying hu, hf, Instr.sureAddr, fieldPlace, sSize hn, hz, addr_add, Nat.add_assoc]
        · obtain ⟨L, k1, k2⟩ := h4 e he
          refine ⟨L, k1, fun k hk => ?_⟩
          rw [c3 k (by omega), Nat.add_assoc]
          exact k2 _ (by omega)
      · exact (den_fail h).elim
  · exact (den_fail h).elim
theorem Deep.idx {z : Nat → Prop} {l : List Sh} {xs : List (List D)} {V : Value} (h : Deep z w (.sl l) (.l xs) V) {i : Nat} (hi : i < xs.length) :
    ∃ (g base cap : Nat) (cs : Array Value) (t : TF), V = .slice (some ⟨g, base, none⟩) xs.length cap ∧ z g ∧ w.heap[g]? = some (.cells cs t.1 t.2) ∧ DeepR z w l (nth [] xs i) fun j => cs[base + i * l.length + j]? := by
  cases h with
  | nil l a c => simp at hi
  | sl l xs g base cap cs t h1 h2 h3 h4 h5 =>
    refine ⟨g, base, cap, cs, t, rfl, h1, h2, fun j sh hj => ?_⟩
    have hjl := (List.getElem?_eq_some_iff.1 hj).1
    have hfit : base + (i * l.length + j) < cs.size := by
      have : i * l.length + l.length ≤ xs.length * l.length := by rw [← Nat.succ_mul]; exact Nat.mul_le_mul_right _ hi
      omega
    refine ⟨cs[base + (i * l.length + j)], ?_, ?_⟩
    · have e : base + i * l.length + j = base + (i * l.length + j) := by omega
      simp only [e]; exact Array.getElem?_eq_getElem hfit
    · have hn : nth [] xs i = xs[i] := by rw [nth_eq, List.getD_eq_getElem?_getD, List.getElem?_eq_getElem hi]; rfl
      rw [hn]
      exact h5 i j xs[i] sh _ (List.getElem?_eq_getElem hi) hj (Array.getElem?_eq_getElem hfit)
theorem repL_len {α : Type} (l : List α) : ∀ n : Nat, (repL n l).length = n * l.length
  | 0 => by simp [repL]
  | n + 1 => by rw [repL, List.length_append, repL_len l n, Nat.succ_mul, Nat.add_comm]
theorem repL_get {α : Type} (l : List α) : ∀ (n i k : Nat), i < n → k < l.length → (repL n l)[i * l.length + k]? = l[k]?
  | 0, i, k, h, _ => by omega
  | n + 1, 0, k, _, hk => by rw [repL, Nat.zero_mul, Nat.zero_add, List.getElem?_append_left hk]
  | n + 1, i + 1, k, h, hk => by
    rw [repL, List.getElem?_append_right (by rw [Nat.succ_mul]; omega), show (i + 1) * l.length + k - l.length = i * l.length + k by rw [Nat.succ_mul]; omega]
    exact repL_get l n i k (by omega) hk
theorem req_and {b c : Bool} (h : (b && c) = true) : b = true ∧ c = true := by simpa using h
theorem ok_indexAddr (R : Rel A w0 F γ s a w) {nid : Nat} {o : Oper} {out : Out} {t : TypeId} {x ix : Operand} (ho : o.op = .indexAddr t x ix) (h : (exIndexAddr P s.mem t (s.ev x) (s.ev ix)).den = some out) : Sim P A w0 F γ nid s o out a w := by
  have hx := R.ev x
  unfold exIndexAddr at h
  split at h
  · rename_i k y hy
    have hix := ev_int R hy
    split at h
    · rename_i n e b i m j hu hp
      rw [hp] at hx
      split at h
      · rename_i sz ent hsz he
        split at h
        · rename_i k' xs hblk
          split at h
          · rename_i hc
            obtain ⟨rfl, rfl⟩ := hc
            obtain ⟨hq, h⟩ := den_req h
            obtain ⟨hq, q3⟩ := req_and hq
            obtain ⟨q1, q2⟩ := req_and hq
            have q1 : 0 ≤ y := by simpa using q1
            have q2 : y < (n : Int) := by simpa using q2
            have q3 : y.toNat < xs.length := of_decide_eq_true q3
            obtain rfl := den_ret1 h
            obtain ⟨h1, ⟨g, base, h2, h3⟩, h4⟩ := hx
            refine Sim.look R (V := .pointer (some ⟨g, base + (y.toNat * 1 + 0), none⟩)) ?_ ⟨h1, ⟨g, base, h2, rfl⟩, fun e' he' => ?_⟩
            · simp [execOp, ho, h3, hix, Instr.indexAt, asIntOf, run_underlying hu, Instr.sureAddr, q1, q2, sSize hsz, addr_add, Nat.add_assoc]
            · rw [he] at he'; obtain rfl := Option.some.inj he'
              rw [hblk]; exact ⟨rfl, q3⟩
          · exact (den_fail h).elim
        · obtain ⟨hq, h⟩ := den_req h
          obtain ⟨q1, q2⟩ := req_and hq
          have q1 : 0 ≤ y := by simpa using q1
          have q2 : y < (n : Int) := by simpa using q2
          obtain rfl := den_ret1 h
          obtain ⟨h1, ⟨g, base, h2, h3⟩, h4⟩ := hx
          refine Sim.look R (V := .pointer (some ⟨g, base + (_ * m + (_ + y.toNat * sz)), none⟩)) ?_ ⟨h1, ⟨g, base, h2, rfl⟩, h4⟩
          simp [execOp, ho, h3, hix, Instr.indexAt, asIntOf, run_underlying hu, Instr.sureAddr, q1, q2, sSize hsz, addr_add, Nat.add_assoc]
        · exact (den_fail h).elim
      · exact (den_fail h).elim
    · rename_i e b hu hp
      rw [hp] at hx
      split at h
      · rename_i ent sz he hsz
        split at h
        · rename_i hn
          obtain ⟨hq, h⟩ := den_req h
          obtain ⟨q1, q2⟩ := req_and hq
          have q1 : 0 ≤ y := by simpa using q1
          have q2 : y < (ent.blk.len : Int) := by simpa using q2
          obtain rfl := den_ret1 h
          obtain ⟨h1, _, h4⟩ := hx
          rcases h4 ent he with ⟨h5, _⟩ | ⟨g, base, cap, h5, h6, h7, _⟩
          · omega
          · refine Sim.look R (V := .pointer (some ⟨g, base + (y.toNat * ent.blk.n + 0), none⟩)) ?_ ⟨h1, ⟨g, base, h5, rfl⟩, fun e' he' => ?_⟩
            · simp [execOp, ho, h6, hix, Instr.indexAt, asIntOf, run_underlying hu, q1, q2, sSize hsz, addr_add, ← hn]
            · rw [he] at he'; obtain rfl := Option.some.inj he'
              cases hb : ent.blk with
              | cells l => rw [hb] at q2; simp [Blk.len] at q2; omega
              | row k' xs => rw [hb] at q2; simp only [Blk.len] at q2; exact ⟨rfl, by omega⟩
              | recs k' xs => rw [hb] at q2; simp only [Blk.len] at q2; exact ⟨rfl, by omega⟩
              | grow k' xs => rw [hb] at q2; simp only [Blk.len] at q2; exact ⟨rfl, by omega⟩
              | mem l ds => rw [hb] at q2; simp [Blk.len] at q2; omega
              | map kk vk es => rw [hb] at q2; simp [Blk.len] at q2; omega
        · exact (den_fail h).elim
      · exact (den_fail h).elim
    · rename_i e b off l hu hp
      rw [hp] at hx
      split at h
      · rename_i ent sz he hsz
        split at h
        · rename_i hn
          obtain ⟨hq, h⟩ := den_req h
          obtain ⟨q1, q2⟩ := req_and hq
          have q1 : 0 ≤ y := by simpa using q1
          have q2 : y < (l : Int) := by simpa using q2
          obtain rfl := den_ret1 h
          obtain ⟨h1, _, h4⟩ := hx
          obtain ⟨h40, h4⟩ := h4 ent he
          rcases h4 with ⟨h5, _⟩ | ⟨g, base, cap, h5, h6, h7, _⟩
          · omega
          · refine Sim.look R (V := .pointer (some ⟨g, base + ((off + y.toNat) * ent.blk.n + 0), none⟩)) ?_ ⟨h1, ⟨g, base, h5, rfl⟩, fun e' he' => ?_⟩
            · simp [execOp, ho, h6, hix, Instr.indexAt, asIntOf, run_underlying hu, q1, q2, sSize hsz, addr_add, ← hn, Nat.add_mul, Nat.add_assoc]
            · rw [he] at he'; obtain rfl := Option.some.inj he'
              cases hb : ent.blk with
              | cells l => rw [hb] at h40; simp [Blk.len] at h40; omega
              | row k' xs => rw [hb] at h40; simp only [Blk.len] at h40; exact ⟨rfl, by omega⟩
              | recs k' xs => rw [hb] at h40; simp only [Blk.len] at h40; exact ⟨rfl, by omega⟩
              | grow k' xs => rw [hb] at h40; simp only [Blk.len] at h40; exact ⟨rfl, by omega⟩
              | mem l ds => rw [hb] at h40; simp [Blk.len] at h40; omega
              | map kk vk es => rw [hb] at h40; simp [Blk.len] at h40; omega
        · exact (den_fail h).elim
      · exact (den_fail h).elim
    · rename_i e l xs hu hp
      rw [hp] at hx
      split at h
      · rename_i sz hsz
        split at h
        · rename_i hn
          rw [len_eq] at hn
          obtain ⟨hq, h⟩ := den_req h
          obtain ⟨q1, q2⟩ := req_and hq
          have q1 : 0 ≤ y := by simpa using q1
          have q2 : y < (xs.length : Int) := by simpa using q2
          obtain rfl := den_ret1 h
          have hD : Deep F.z w (.sl l) (.l xs) (a.eval x) := hx
          obtain ⟨g, base, cap, cs, tt, k1, k2, k3, k4⟩ := hD.idx (i := y.toNat) (by omega)
          refine Sim.look R (V := .pointer (some ⟨g, base + y.toNat * l.length + 0, none⟩)) ?_ ⟨g, base + y.toNat * l.length, cs, tt, k2, k3, rfl, k4⟩
          simp [execOp, ho, k1, hix, Instr.indexAt, asIntOf, run_underlying hu, q1, q2, sSize hsz, addr_add, ← hn]
        · exact (den_fail h).elim
      · exact (den_fail h).elim
    · rename_i n e b j l hu hp
      rw [hp] at hx
      split at h
      · rename_i sz hsz
        split at h
        · rename_i r hr
          split at h
          · rename_i hL
            obtain ⟨hq, h⟩ := den_req h
            obtain ⟨q1, q2⟩ := req_and hq
            have q1 : 0 ≤ y := by simpa using q1
            have q2 : y < (n : Int) := by simpa using q2
            obtain rfl := den_ret1 h
            obtain ⟨h1, ⟨g, base, h2, h3⟩, h4⟩ := hx
            have hL := shsEq_spec hL
            obtain ⟨c1, c2, c3⟩ := cut_spec _ _ _ _ hr
            refine Sim.look R (V := .pointer (some ⟨g, base + (j + y.toNat * sz), none⟩)) ?_ ⟨h1, ⟨g, base, h2, rfl⟩, fun e' he' => ?_⟩
            · simp [execOp, ho, h3, hix, Instr.indexAt, asIntOf, run_underlying hu, Instr.sureAddr, q1, q2, sSize hsz, addr_add, Nat.add_assoc]
            · obtain ⟨L, k1, k2⟩ := h4 e' he'
              refine ⟨L, k1, fun k hk => ?_⟩
              rw [Nat.add_assoc, k2 _ (by rw [hL, repL_len, c1]; have : y.toNat * sz + sz ≤ n * sz := by rw [← Nat.succ_mul]; exact Nat.mul_le_mul_right _ (by omega)
                                          omega), hL, ← c1, repL_get _ _ _ _ (by omega) hk]
          · exact (den_fail h).elim
        · exact (den_fail h).elim
      · exact (den_fail h).elim
    · exact (den_fail h).elim
  · exact (den_fail h).elim
theorem ok_index (R : Rel A w0 F γ s a w) {nid : Nat} {o : Oper} {out : Out} {t : TypeId} {x ix : Operand} (ho : o.op = .index t x ix) (h : (exIndex P t (s.ev x) (s.ev ix)).den = some out) : Sim P A w0 F γ nid s o out a w := by
  have hx := R.ev x
  unfold exIndex at h
  split at h
  · rename_i S k y hp hy
    rw [hp] at hx
    have hix := ev_int R hy
    split at h
    · rename_i hu
      obtain ⟨hq, h⟩ := den_req h
      obtain ⟨q1, q2⟩ := req_and hq
      have q1 : 0 ≤ y := by simpa using q1
      have q2 : y < (S.size : Int) := by simpa using q2
      obtain rfl := den_int1 h
      have hx : a.eval x = .string S := hx
      refine Sim.look R (V := .int .u8 (bt S y)) ?_ (int1_rel _ _)
      have hlt : y.toNat < S.size := by omega
      have hg : S[y.toNat]? = some S[y.toNat] := by simp [getElem?_pos, hlt]
      simp [execOp, ho, hx, hix, Instr.index, asIntOf, run_underlying hu, q1, hg, bt]
    · exact (den_fail h).elim
  · rename_i l k y hp hy
    rw [hp] at hx
    have hix := ev_int R hy
    split at h
    · rename_i n e hu
      split at h
      · rename_i kk hkk
        split at h
        · rename_i xs hsz hxs
          obtain ⟨hq, h⟩ := den_req h
          obtain ⟨q1, q2⟩ := req_and hq
          have q1 : 0 ≤ y := by simpa using q1
          have q2 : y < (n : Int) := by simpa using q2
          obtain ⟨cs, hv, h2⟩ := hx
          obtain ⟨rfl, hlen⟩ := intsOf_rep _ _ _ hxs
          obtain rfl := den_int1 h
          have hlt : y.toNat < xs.length := by omega
          obtain ⟨V, h3, h4⟩ := h2.get y.toNat (.val (.int kk (nth 0 xs y.toNat))) (by rw [List.getElem?_map, nth_eq, List.getD_eq_getElem?_getD, List.getElem?_eq_getElem hlt]; rfl)
          obtain rfl : V = .int kk (nth 0 xs y.toNat) := h4
          have hagg : aggT P e = some false := by
            unfold arrK at hkk
            rw [hu] at hkk
            simp only at hkk
            split at hkk
            · rename_i k2 hk2; unfold aggT; rw [hk2]
            · cases hkk
          refine Sim.look R (V := .int kk (nth 0 xs y.toNat)) ?_ (int1_rel _ _)
          have h3' : cs[y.toNat]? = some (.int kk (nth 0 xs y.toNat)) := by simpa using h3
          simp [execOp, ho, hv, hix, Instr.index, asIntOf, run_underlying hu, q1, q2, sSize hsz, part, sAgg hagg, h3']
        · exact (den_fail h).elim
      · split at h
        · rename_i sz hsz
          obtain ⟨hq, h⟩ := den_req h
          obtain ⟨q1, q2⟩ := req_and hq
          have q1 : 0 ≤ y := by simpa using q1
          have q2 : y < (n : Int) := by simpa using q2
          obtain ⟨cs, hv, h2⟩ := hx
          obtain ⟨yi, -, hyi, h'⟩ := den_pickY h
          subst hyi
          split at h'
          · rename_i r hr
            split at h'
            · rename_i p hp'
              obtain rfl := den_ret1 h'
              obtain ⟨V, h3, h4⟩ := part_run hsz h2 hr hp' w
              refine Sim.look R (V := V) ?_ h4
              have q2' : yi < n := by omega
              have q1' : ¬ ((yi : Int) < 0) := by omega
              have q2'' : ¬ ((n : Int) ≤ (yi : Int)) := by omega
              simp [execOp, ho, hv, hix, Instr.index, asIntOf, run_underlying hu, q1, q2, q2', q1', q2'', sSize hsz, h3]
            · exact (den_fail h').elim
          · exact (den_fail h').elim
        · exact (den_fail h).elim
    · exact (den_fail h).elim
  · exact (den_fail h).elim
theorem eqFs_run {m : MM} {rec : TypeId → PV → PV → Option Bool} {d : Nat} (hrec : ∀ t p q r, rec t p q = some r → ∀ V V', RelP F γ m w p V → RelP F γ m w q V' → ∀ W, (Op.equalIn d t V V').run P W = .ok r W) {xs ys : Array Value} {l l' : List CV} (hl : All2 (RelC F γ m w) l xs.toList) (hl' : All2 (RelC F γ m w) l' ys.toList) :
    ∀ (fs : List Field) (r : Bool), eqFs rec P fs l l' = some r → ∀ W, (Op.eqFields d xs ys fs).run P W = .ok r W
  | [], r, h, W => by
    obtain rfl := Option.some.inj h
    rfl
  | f :: fs, r, h, W => by
    simp only [eqFs] at h
    split at h
    · cases h
    · rename_i hname
      have hne : f.name ≠ "_" := by simpa using hname
      split at h
      · cases h
      · rename_i n hn
        split at h
        · rename_i a b ha hb
          split at h
          · rename_i p q hp hq
            split at h
            · rename_i x y hx hy
              obtain rfl := Option.some.inj h
              obtain ⟨V, h1, h2⟩ := part_run hn hl ha hp W
              obtain ⟨V', h3, h4⟩ := part_run hn hl' hb hq W
              have h5 := hrec _ _ _ _ hx V V' h2 h4 W
              have h6 := eqFs_run hrec hl hl' fs y hy W
              rw [Op.eqFields, if_pos hne]
              simp only [Sem.run_bind, h1, h3, h5, Result.andThen_ok, Sem.run_ite]
              cases x with
              | true => simp [h6]
              | false => simp
            · cases h
          · cases h
        · cases h
theorem eqP_run {m : MM} (D : Nat) : ∀ (d : Nat) (t : TypeId) (p q : PV) (r : Bool), eqP P d t p q = some r → ∀ V V', RelP F γ m w p V → RelP F γ m w q V' → ∀ W, (Op.equalIn (D + d) t V V').run P W = .ok r W
  | 0, _, _, _, _, h, _, _, _, _, _ => by cases h
  | d + 1, t, p, q, r, h, V, V', hV, hV', W => by
    simp only [eqP] at h
    rw [show D + (d + 1) = D + d + 1 from rfl]
    split at h
    · rename_i a b hu
      obtain rfl := Option.some.inj h
      obtain rfl : V = .bool a := hV
      obtain rfl : V' = .bool b := hV'
      simp [Op.equalIn, run_underlying hu]
    · rename_i k a k' b hu
      split at h
      · rename_i hk; subst hk
        obtain rfl := Option.some.inj h
        obtain rfl : V = .int k a := hV
        obtain rfl : V' = .int k b := hV'
        simp [Op.equalIn, run_underlying hu]
      · cases h
    · rename_i a b hu
      obtain rfl := Option.some.inj h
      obtain rfl : V = .string a := hV
      obtain rfl : V' = .string b := hV'
      simp [Op.equalIn, run_underlying hu]
    · rename_i fs l l' hu
      split at h
      · rename_i hs
        obtain ⟨xs, rfl, h1⟩ := hV
        obtain ⟨ys, rfl, h2⟩ := hV'
        have hf : P.fieldsOf t = fs := by simp [Program.fieldsOf, hu]
        rw [run_equalIn_struct W (D + d) t xs ys (by rw [hf]; exact hu) hs, hf]
        exact eqFs_run (fun t p q r h V V' hV hV' W => eqP_run D d t p q r h V V' hV hV' W) h1 h2 _ _ h W
      · cases h
    · cases h
theorem addr_of {m : MM} {c : CV} {V : Value} (h : RelC F γ m w c V) (hc : isAddr c = true) : ∃ a, V = .pointer (some a) := by
  cases c with
  | ptr b i n j => obtain ⟨_, ⟨g, base, _, rfl⟩, _⟩ := h; exact ⟨_, rfl⟩
  | rop l x j => obtain ⟨g, base, cs, t, _, _, rfl, _⟩ := h; exact ⟨_, rfl⟩
  | mptr b j l => obtain ⟨_, ⟨g, base, _, rfl⟩, _⟩ := h; exact ⟨_, rfl⟩
  | _ => cases hc
theorem ok_binA (R : Rel A w0 F γ s a w) {nid : Nat} {o : Oper} {out : Out} {op : BinOp} {xt yt : TypeId} {x y : Operand} (ho : o.op = .binOp op xt x y yt) (h : (exBinA P s.ev o op xt x y).den = some out) : Sim P A w0 F γ nid s o out a w := by
  have eqq : ∀ l l' f, s.ev x = .pv (.agg l) → s.ev y = .pv (.agg l') → (exEqA P xt l l' f).den = some out → (op = .eql ∧ f = id ∨ op = .neq ∧ f = not) → Sim P A w0 F γ nid s o out a w := fun l l' f hx hy h hop => by
    have hX := R.ev x
    have hY := R.ev y
    rw [hx] at hX
    rw [hy] at hY
    obtain ⟨xs, hvx, h1⟩ := hX
    obtain ⟨ys, hvy, h2⟩ := hY
    unfold exEqA at h
    split at h
    · exact (den_fail h).elim
    · rename_i hg
      split at h
      · rename_i r hr
        obtain rfl := Option.some.inj h
        have hrun := eqP_run (F := F) (γ := γ) (m := s.mem) (w := w) 9992 8 xt _ _ r hr (.agg xs) (.agg ys) ⟨xs, rfl, h1⟩ ⟨ys, rfl, h2⟩ w
        refine Sim.look R (V := .bool (f r)) ?_ rfl
        have hgd := run_eqGuard_agg (P := P) w op xt x y xs ys hg
        rcases hop with ⟨rfl, rfl⟩ | ⟨rfl, rfl⟩
        · have e := run_eql_struct (P := P) w xt xs ys
          rw [show (10000 : Nat) = 9992 + 8 from rfl, hrun] at e
          simp [execOp, ho, hvx, hvy, hgd, e]
        · have e := run_neq_struct (P := P) w xt xs ys
          rw [show (10000 : Nat) = 9992 + 8 from rfl, hrun] at e
          simp [execOp, ho, hvx, hvy, hgd, e]
      · exact (den_fail h).elim
  have nilq : ∀ (c : CV) (f : Bool → Bool), s.ev x = .pv (.one c) → s.ev y = .pv (.one (.val (.pointer none))) → (exNilEq P s.ev o xt c (.val (.pointer none)) f).den = some out → (op = .eql ∧ f = id ∨ op = .neq ∧ f = not) → Sim P A w0 F γ nid s o out a w := fun c f hx hy h hop => by
    have hX := R.ev x
    have hY := R.ev y
    rw [hx] at hX
    rw [hy] at hY
    have hY : a.eval y = .pointer none := hY
    have hpure := fun h => ok_pure (P := P) (A := A) (w0 := w0) (F := F) (γ := γ) (s := s) (a := a) (w := w) R (nid := nid) (o := o) (out := out) (fun cs b e => by rw [ho] at e; cases e) h
    unfold exNilEq at h
    split at h
    · rename_i e hu
      split at h
      · rename_i hc _
        obtain ⟨ad, hV⟩ := addr_of hX hc
        obtain rfl := (Option.some.inj h).symm
        refine Sim.look R (V := .bool (f false)) ?_ rfl
        have heq : (Op.equal xt (.pointer (some ad)) (.pointer none)).run P w = .ok false w := by
          have e0 : Op.equal xt (.pointer (some ad)) (.pointer none) = Op.equalIn (9999 + 1) xt (.pointer (some ad)) (.pointer none) := rfl
          rw [e0]
          unfold Op.equalIn
          rw [Sem.run_bind, run_underlying hu]
          rfl
        have e1 : binOp .eql xt (.pointer (some ad)) (.pointer none) = (do pure (.bool (← Op.equal xt (.pointer (some ad)) (.pointer none)))) := rfl
        have e2 : binOp .neq xt (.pointer (some ad)) (.pointer none) = (do pure (.bool (!(← Op.equal xt (.pointer (some ad)) (.pointer none))))) := rfl
        have hgd : ∀ op, (eqGuard op xt x y (.pointer (some ad)) (.pointer none)).run P w = .ok () w := fun op => by
          unfold eqGuard
          cases op <;> rfl
        rcases hop with ⟨rfl, rfl⟩ | ⟨rfl, rfl⟩
        · simp only [execOp, ho, hV, hY, e1, Sem.run_bind, hgd, heq, Result.andThen_ok, Sem.run_pure]; first | done | rfl
        · simp only [execOp, ho, hV, hY, e2, Sem.run_bind, hgd, heq, Result.andThen_ok, Sem.run_pure]; first | done | rfl
      · exact hpure h
    · exact hpure h
  unfold exBinA at h
  split at h
  · rename_i l l' hx hy; exact eqq _ _ _ hx hy h (.inl ⟨rfl, rfl⟩)
  · rename_i l l' hx hy; exact eqq _ _ _ hx hy h (.inr ⟨rfl, rfl⟩)
  · rename_i sa sb hx hy
    have hvx : a.eval x = .string sa := by have := R.ev x; rw [hx] at this; exact this
    have hvy : a.eval y = .string sb := by have := R.ev y; rw [hy] at this; exact this
    unfold exStr at h
    split at h
    · simp only [T.den] at h
      split at h
      · cases h
      · rename_i hq
        obtain rfl := (Option.some.inj h).symm
        have hq' : ¬ (((sa.size + sb.size : Nat) : Int) > IntKind.i64.max) := by
          have : IntKind.i64.max = 9223372036854775807 := by decide
          rw [this]; simpa using hq
        refine Sim.look R (V := .string (sa ++ sb)) ?_ rfl
        simp only [execOp, ho, hvx, hvy, eqGuard, binOp, Op.stringOp]
        rw [if_neg hq']
        rfl
    all_goals first
      | exact (den_fail h).elim
      | (obtain rfl := (Option.some.inj h).symm
         refine Sim.look R ?_ (show RelV F γ s.mem w (.pv (.one (.val (.bool _)))) (.bool _) from rfl)
         simp only [execOp, ho, hvx, hvy, eqGuard, binOp, Op.stringOp, sEq, sLt]
         rfl)
  · rename_i c hx hy; exact nilq _ id hx hy h (.inl ⟨rfl, rfl⟩)
  · rename_i c hx hy; exact nilq _ not hx hy h (.inr ⟨rfl, rfl⟩)
  · exact ok_bin R ho h
theorem ok_nilCheck (R : Rel A w0 F γ s a w) {nid : Nat} {o : Oper} {out : Out} {x : Operand} {c : CV} (ho : o.op = .nilCheck x) (hx : s.ev x = .pv (.one c)) (hc : isAddr c = true) (h : (ret1 (.pv (.one c))).den = some out) : Sim P A w0 F γ nid s o out a w := by
  obtain rfl := den_ret1 h
  have hX := R.ev x
  rw [hx] at hX
  obtain ⟨ad, hV⟩ := addr_of hX hc
  exact Sim.look R (V := a.eval x) (by simp [execOp, ho, hV]) hX
end
end Go.Proofs.Ytmmaechogibodaa.Vm
