/- Each operation of the abstract interpreter is what the model does: variables read and written, fields and members. Conditions: none here. -/
import Derived.Test.YtoibhkhgpahdjaaVmC
import Derived.Laws.StructEq
set_option linter.unusedVariables false
set_option linter.unusedSimpArgs false
namespace Go.Proofs.Ytoibhkhgpahdjaa.Vm
open Go Go.RowKit

section
variable {P : Program} {A : Nat → Prop} {w0 : World} {F : Nat → Prop} {γ : GM} {s : St} {a : Act} {w : World}
theorem relC_one {m : MM} {c : CV} {V : Value} (h : RelC F γ m w c V) (ho : oneOk c = true) : V.oneCell' = true ∧ V.cells = #[V] := by
  cases c with
  | val v => obtain rfl : V = v := h; cases V <;> first | exact ⟨rfl, rfl⟩ | simp [oneOk] at ho
  | ptr b i n j => obtain ⟨_, ⟨g, base, _, rfl⟩, _⟩ := h; exact ⟨rfl, rfl⟩
  | slf b => obtain ⟨_, ⟨x, l, c, rfl⟩, _⟩ := h; exact ⟨rfl, rfl⟩
  | slc b off l => obtain ⟨_, ⟨x, l, c, rfl⟩, _⟩ := h; exact ⟨rfl, rfl⟩
  | any => simp [oneOk] at ho
theorem all_one {m : MM} : ∀ {l : List CV} {Vs : List Value}, All2 (RelC F γ m w) l Vs → allOk l = true → ∀ v ∈ Vs, v.oneCell' = true
  | [], [], _, _, v, hv => by simp at hv
  | c :: l, V :: Vs, h, ho, v, hv => by
    simp only [allOk] at ho
    split at ho
    · rename_i h1
      rcases List.mem_cons.1 hv with rfl | hv
      · exact (relC_one h.1 h1).1
      · exact all_one h.2 ho v hv
    · cases ho
  | [], V :: Vs, h, _, _, _ => h.elim
  | c :: l, [], h, _, _, _ => h.elim
theorem cells_rel {m : MM} {p : PV} {V : Value} (h : RelP F γ m w p V) (ho : okPV p = true) : All2 (RelC F γ m w) (cellsPV p) V.cells.toList ∧ ∀ v ∈ V.cells.toList, v.oneCell' = true := by
  cases p with
  | one c =>
    obtain ⟨h1, h2⟩ := relC_one h ho
    rw [h2]
    exact ⟨⟨h, trivial⟩, fun v hv => by simp at hv; rw [hv]; exact h1⟩
  | agg l => obtain ⟨cs, rfl, h2⟩ := h; exact ⟨h2, all_one h2 ho⟩
theorem ok_box (R : Rel A w0 F γ s a w) {nid : Nat} (hf : ∀ q, nid ≤ q → q < nid + 64 → ¬ F q) {o : Oper} {out : Out} {t : TypeId} {x : Operand} (ho : o.op = .box t x) (h : (exBox P nid t (s.ev x)).den = some out) : Sim P A w0 F nid s o out a w := by
  have hx := R.ev x
  unfold exBox at h
  split at h
  · rename_i p hp
    rw [hp] at hx
    split at h
    · rename_i hk
      exact Sim.newV R hf (cs := (a.eval x).cells) (t := t) (by simp [execOp, ho, Instr.box, newVar, newRow]) (cells_rel hx hk).1 h
    · exact (den_fail h).elim
  · exact (den_fail h).elim
theorem ok_extract (R : Rel A w0 F γ s a w) {nid : Nat} {o : Oper} {out : Out} {x : Operand} {i : Nat} (ho : o.op = .extract x i) (h : (exExtract (s.ev x) i).den = some out) : Sim P A w0 F nid s o out a w := by
  have hx := R.ev x
  unfold exExtract at h
  split at h
  · rename_i l hp
    rw [hp] at hx
    obtain ⟨vs, hv, h2⟩ := hx
    split at h
    · rename_i p hq
      obtain rfl := den_ret1 h
      rw [nth?_eq] at hq
      obtain ⟨V, h3, h4⟩ := h2.get i p hq
      refine Sim.look R (V := V) ?_ h4
      have : vs[i]? = some V := by simpa using h3
      simp [execOp, ho, hv, Instr.extract, this]
    · exact (den_fail h).elim
  · exact (den_fail h).elim
theorem shape_rel {m : MM} {b : Option Bool} {l : List CV} {Vs : List Value} {p : PV} (h : shapePV b l = some p) (hr : All2 (RelC F γ m w) l Vs) :
    (b = some true ∧ RelP F γ m w p (.agg Vs.toArray)) ∨ (b = some false ∧ ∃ V, Vs = [V] ∧ RelP F γ m w p V) := by
  cases b with
  | none => simp [shapePV] at h
  | some b =>
    cases b with
    | true => simp only [shapePV, Option.some.injEq] at h; subst h; exact .inl ⟨rfl, Vs.toArray, rfl, by simpa using hr⟩
    | false =>
      right
      refine ⟨rfl, ?_⟩
      match l, Vs, hr, h with
      | [c], [V], hr, h => simp only [shapePV, Option.some.injEq] at h; subst h; exact ⟨V, rfl, hr.1⟩
      | [], [], hr, h => simp [shapePV] at h
      | c :: d :: l, _, hr, h => simp [shapePV] at h
      | [c], [], hr, h => exact hr.elim
      | [c], V :: V' :: Vs, hr, h => exact hr.2.elim
      | [], _ :: _, hr, h => exact hr.elim
theorem part_run {m : MM} {t : TypeId} {cs : Array Value} {off n : Nat} {l r : List CV} {p : PV} (hn : sizeT P t = some n) (hl : All2 (RelC F γ m w) l cs.toList) (hc : cut l off n = some r) (hp : shapePV (aggT P t) r = some p) (W : World) :
    ∃ V, (part t cs off).run P W = .ok V W ∧ RelP F γ m w p V := by
  obtain ⟨h1, h2, h3⟩ := cut_spec l off n r hc
  have hll := hl.length
  have hlen : n = 0 ∨ off + n ≤ cs.size := by simpa [hll] using h2
  have hr : All2 (RelC F γ m w) r (cs.toList.drop off |>.take n) := by
    refine All2.of_get (by simp; simp at hll; omega) fun k c V hk hV => ?_
    have hkn : k < n := by rw [← h1]; exact (List.getElem?_eq_some_iff.1 hk).1
    rw [h3 k hkn] at hk
    obtain ⟨V', h4, h5⟩ := hl.get _ c hk
    rw [List.getElem?_take, if_pos hkn, List.getElem?_drop, h4] at hV
    obtain rfl := Option.some.inj hV
    exact h5
  rcases shape_rel hp hr with ⟨hb, h4⟩ | ⟨hb, V, h4, h5⟩
  · refine ⟨_, ?_, h4⟩
    simp only [part, Sem.run_bind, sAgg hb, Result.andThen_ok, if_true, sSize hn, Sem.run_pure]
    congr 2
    apply Array.ext'
    simp
  · have hn1 : n = 1 := by have := congrArg List.length h4; simp at this; rw [← h1] ; have := hr.length; rw [h4] at this; simpa using this
    subst hn1
    refine ⟨V, ?_, h5⟩
    have : cs[off]? = some V := by
      have := congrArg (·[0]?) h4
      simpa using this
    simp [part, sAgg hb, this]
theorem ok_field (R : Rel A w0 F γ s a w) {nid : Nat} {o : Oper} {out : Out} {t : TypeId} {x : Operand} {i : Nat} (ho : o.op = .field t x i) (h : (exField P t (s.ev x) i).den = some out) : Sim P A w0 F nid s o out a w := by
  have hx := R.ev x
  unfold exField at h
  split at h
  · rename_i l ft off n hp hft
    rw [hp] at hx
    obtain ⟨cs, hv, h2⟩ := hx
    unfold fieldT at hft
    split at hft
    · rename_i fields hu
      split at hft
      · rename_i f hf
        split at hft
        · rename_i n' hn
          obtain ⟨rfl, rfl, rfl⟩ : f.type = ft ∧ f.offset = off ∧ n' = n := by simpa using hft
          split at h
          · rename_i r hr
            split at h
            · rename_i p hp'
              obtain rfl := den_ret1 h
              obtain ⟨V, h3, h4⟩ := part_run hn h2 hr hp' w
              refine Sim.look R (V := V) ?_ h4
              simp [execOp, ho, hv, Instr.field, run_underlying hu, hf, asAgg, h3]
            · exact (den_fail h).elim
          · exact (den_fail h).elim
        · cases hft
      · cases hft
    · cases hft
  · exact (den_fail h).elim
theorem get_at {blk : Blk} {i j n nn : Nat} {l : List CV} (hp : ptrOk blk i nn) (h : blk.get i j n = some l) : l.length = n ∧ ∀ k, k < n → l[k]? = blk.at i (j + k) := by
  cases blk with
  | cells c =>
    obtain ⟨rfl, rfl⟩ := hp
    obtain ⟨h1, h2, h3⟩ := cut_spec c j n l h
    exact ⟨h1, fun k hk => by rw [h3 k hk]; simp [Blk.at]⟩
  | row k xs =>
    obtain ⟨rfl, hi⟩ := hp
    match j, n, h with
    | 0, 1, h =>
      simp only [Blk.get, Option.some.injEq] at h
      subst h
      refine ⟨rfl, fun q hq => ?_⟩
      obtain rfl : q = 0 := by omega
      simp [Blk.at, hi]
    | 0, 0, h => simp [Blk.get] at h
    | 0, n + 2, h => simp [Blk.get] at h
    | j + 1, _, h => simp [Blk.get] at h
  | recs ks xs =>
    obtain ⟨rfl, hi⟩ := hp
    obtain ⟨h1, h2, h3⟩ := cut_spec _ j n l h
    exact ⟨h1, fun k hk => by rw [h3 k hk]; simp [Blk.at, hi]⟩
theorem ptr_n {blk : Blk} {i n : Nat} (h : ptrOk blk i n) : n = blk.n := by cases blk <;> simp [ptrOk, Blk.n] at * <;> first | exact h.2 | exact h.1
/-- Cells of a block, read. -/
theorem block_read (R : Rel A w0 F γ s a w) {b : Nat} {e : Ent} {i n j sz : Nat} {V : Value} {l : List CV} (he : s.mem b = some e) (hv : RelC F γ s.mem w (.ptr b i n j) V) (hl : e.blk.get i j sz = some l) :
    ∃ g base Vs, γ b = some (g, base) ∧ V = .pointer (some ⟨g, base + (i * n + j), none⟩) ∧ Vs.length = sz ∧ All2 (RelC F γ s.mem w) l Vs ∧ ∀ k v, Vs[k]? = some v → w.cell? ⟨g, base + (i * n + j) + k, none⟩ = some v := by
  obtain ⟨_, ⟨g, base, h1, h2⟩, h3⟩ := hv
  have hp := h3 e he
  obtain ⟨h4, h5⟩ := get_at hp hl
  have hB := (R.memr b e he).2
  have key : ∀ k, k < sz → ∃ c V, l[k]? = some c ∧ w.cell? ⟨g, base + (i * n + j) + k, none⟩ = some V ∧ RelC F γ s.mem w c V := by
    intro k hk
    have hlk : k < l.length := by omega
    obtain ⟨c, hc⟩ : ∃ c, l[k]? = some c := ⟨_, List.getElem?_eq_getElem hlk⟩
    have := h5 k hk
    rw [hc] at this
    obtain ⟨g', base', cs, t, V', k1, k2, k3, k4⟩ := hB i (j + k) c this.symm
    rw [h1] at k1
    obtain ⟨rfl, rfl⟩ : g = g' ∧ base = base' := by simpa using k1
    refine ⟨c, V', hc, ?_, k4⟩
    simp only [World.cell?, k2]
    rw [ptr_n hp, show base + (i * e.blk.n + j) + k = base + (i * e.blk.n + (j + k)) by omega]
    simpa using k3
  have ex : ∀ q, q ≤ sz → ∃ Vs : List Value, Vs.length = q ∧ ∀ k, k < q → ∃ c V, l[k]? = some c ∧ Vs[k]? = some V ∧ w.cell? ⟨g, base + (i * n + j) + k, none⟩ = some V ∧ RelC F γ s.mem w c V := by
    intro q
    induction q with
    | zero => exact fun _ => ⟨[], rfl, fun k hk => absurd hk (by omega)⟩
    | succ q ih =>
      intro hq
      obtain ⟨Vs, v1, v2⟩ := ih (by omega)
      obtain ⟨c, V', c1, c2, c3⟩ := key q (by omega)
      refine ⟨Vs ++ [V'], by simp [v1], fun k hk => ?_⟩
      by_cases hkq : k < q
      · obtain ⟨c', V'', d1, d2, d3⟩ := v2 k hkq
        exact ⟨c', V'', d1, by rw [List.getElem?_append_left (by omega)]; exact d2, d3⟩
      · obtain rfl : k = q := by omega
        exact ⟨c, V', c1, by rw [List.getElem?_append_right (by omega)]; simp [v1], c2, c3⟩
  obtain ⟨Vs, v1, v2⟩ := ex sz (Nat.le_refl _)
  refine ⟨g, base, Vs, h1, h2, v1, All2.of_get (by omega) fun k c V' hc hV => ?_, fun k v hk => ?_⟩
  · obtain ⟨c', V'', d1, d2, d3, d4⟩ := v2 k (by have := (List.getElem?_eq_some_iff.1 hc).1; omega)
    rw [d1] at hc; rw [d2] at hV
    obtain rfl := Option.some.inj hc
    obtain rfl := Option.some.inj hV
    exact d4
  · obtain ⟨c', V'', d1, d2, d3, d4⟩ := v2 k (by have := (List.getElem?_eq_some_iff.1 hk).1; omega)
    rw [d2] at hk
    obtain rfl := Option.some.inj hk
    exact d3
theorem addr_add (g o k : Nat) : (⟨g, o, none⟩ : Addr).add k = ⟨g, o + k, none⟩ := by unfold Addr.add; split <;> simp_all
theorem loadVar_run {m : MM} {W : World} {t : TypeId} {n g o : Nat} {l : List CV} {p : PV} {Vs : List Value} (hn : sizeT P t = some n) (hp : shapePV (aggT P t) l = some p) (hr : All2 (RelC F γ m w) l Vs) (hlen : Vs.length = n)
    (hc : ∀ k v, Vs[k]? = some v → W.cell? ⟨g, o + k, none⟩ = some v) : ∃ V, (loadVar t ⟨g, o, none⟩).run P W = .ok V W ∧ RelP F γ m w p V := by
  rcases shape_rel hp hr with ⟨hb, h4⟩ | ⟨hb, V, h4, h5⟩
  · refine ⟨_, ?_, h4⟩
    have := run_loadCells_list (P := P) W ⟨g, o, none⟩ Vs (fun j v hj => by rw [addr_add]; exact hc j v hj)
    simp only [loadVar, Sem.run_bind, sAgg hb, Result.andThen_ok, if_true, sSize hn, ← hlen, this, Sem.run_pure]
  · subst h4
    have := hc 0 V rfl
    simp only [Nat.add_zero] at this
    exact ⟨V, by simp [loadVar, sAgg hb, this], h5⟩
theorem rowCells_get (k : IntKind) (xs : List Int) : ∀ (n i j : Nat), j < n → (rowCells k xs i n)[j]? = some (.val (.int k (nth 0 xs (i + j))))
  | 0, i, j, h => by omega
  | n + 1, i, 0, _ => rfl
  | n + 1, i, j + 1, h => by
    simp only [rowCells, List.getElem?_cons_succ]
    rw [rowCells_get k xs n (i + 1) j (by omega)]
    congr 4; omega
theorem rowCells_len (k : IntKind) (xs : List Int) : ∀ (n i : Nat), (rowCells k xs i n).length = n
  | 0, _ => rfl
  | n + 1, i => by simp [rowCells, rowCells_len k xs n]
theorem wholeRow_spec {b : Blk} {agg : Option Bool} {i j : Nat} {k : IntKind} {xs : List Int} (h : wholeRow b agg i j = some (k, xs)) : b = .row k xs ∧ agg = some true ∧ i = 0 ∧ j = 0 := by
  unfold wholeRow at h
  split at h
  · obtain ⟨rfl, rfl⟩ := Prod.mk.inj (Option.some.inj h); exact ⟨rfl, rfl, rfl, rfl⟩
  · cases h
theorem ok_load (R : Rel A w0 F γ s a w) {nid : Nat} {o : Oper} {out : Out} {t : TypeId} {x : Operand} (ho : o.op = .load t x) (h : (exLoad P s.mem t (s.ev x)).den = some out) : Sim P A w0 F nid s o out a w := by
  have hx := R.ev x
  unfold exLoad at h
  split at h
  · rename_i b i n j hp
    rw [hp] at hx
    split at h
    · rename_i e sz he hsz
      split at h
      · rename_i k xs hwr
        obtain ⟨hblk, hagg, rfl, rfl⟩ := wholeRow_spec hwr
        obtain ⟨hq, h⟩ := den_req h
        have hq : sz ≤ xs.length := of_decide_eq_true hq
        obtain rfl := den_ret1 h
        obtain ⟨h1, ⟨g, base, h2, h3⟩, h4⟩ := hx
        have hpk := h4 e he
        have hB := (R.memr b e he).2
        rw [hblk] at hB hpk
        obtain ⟨rfl, _⟩ := hpk
        have key : ∀ j, j < sz → w.cell? ⟨g, base + j, none⟩ = some (.int k (nth 0 xs j)) := fun j hj => by
          obtain ⟨g', base', cs, t', V, k1, k2, k3, k4⟩ := hB j 0 (.val (.int k (nth 0 xs j))) (by simp only [Blk.at]; rw [if_pos ⟨trivial, by omega⟩])
          rw [h2] at k1
          obtain ⟨rfl, rfl⟩ : g = g' ∧ base = base' := by simpa using k1
          obtain rfl : V = .int k (nth 0 xs j) := k4
          simp only [World.cell?, k2]
          simpa [Blk.n] using k3
        have hrun := run_loadCells_list (P := P) w ⟨g, base, none⟩ ((List.range sz).map fun j => .int k (nth 0 xs j)) (fun j v hj => by
          rw [addr_add]
          rw [List.getElem?_map] at hj
          by_cases hlt : j < sz
          · rw [List.getElem?_range hlt] at hj
            obtain rfl := Option.some.inj hj
            exact key j hlt
          · rw [List.getElem?_eq_none (by simpa using hlt)] at hj; cases hj)
        rw [List.length_map, List.length_range] at hrun
        refine Sim.look R (V := .agg ((List.range sz).map fun j => Value.int k (nth 0 xs j)).toArray) ?_ ⟨_, rfl, All2.of_get (by simp [rowCells_len]) fun j c V hc hV => ?_⟩
        · simp only [execOp, ho, h3, Instr.loadAt, Instr.sureAddr, loadVar, Sem.run_bind, Sem.run_pure, Result.andThen_ok, sAgg hagg, if_true, sSize hsz]
          rw [show base + (0 * 1 + 0) = base from rfl, hrun]
          rfl
        · have hlt : j < sz := by have := (List.getElem?_eq_some_iff.1 hc).1; rwa [rowCells_len] at this
          rw [rowCells_get k xs sz 0 j hlt] at hc
          obtain rfl := Option.some.inj hc
          simp [hlt] at hV
          rw [Nat.zero_add]
          exact hV.symm
      · split at h
        · rename_i l hl
          split at h
          · rename_i p hp'
            obtain rfl := den_ret1 h
            obtain ⟨g, base, Vs, h1, h2, h3, h4, h5⟩ := block_read R he hx hl
            obtain ⟨V, h6, h7⟩ := loadVar_run (W := w) hsz hp' h4 h3 h5
            refine Sim.look R (V := V) ?_ h7
            simp [execOp, ho, h2, Instr.loadAt, Instr.sureAddr, h6]
          · exact (den_fail h).elim
        · exact (den_fail h).elim
    · exact (den_fail h).elim
  · exact (den_fail h).elim
theorem fieldT_spec {t : TypeId} {i : Nat} {ft : TypeId} {off n : Nat} (h : fieldT P t i = some (ft, off, n)) : ∃ fields f, P.underlying t = some (.struct fields) ∧ fields[i]? = some f ∧ f.type = ft ∧ f.offset = off ∧ sizeT P f.type = some n := by
  unfold fieldT at h
  split at h
  · rename_i fields hu
    split at h
    · rename_i f hf
      split at h
      · rename_i n' hn
        obtain ⟨rfl, rfl, rfl⟩ : f.type = ft ∧ f.offset = off ∧ n' = n := by simpa using h
        exact ⟨fields, f, hu, hf, rfl, rfl, hn⟩
      · cases h
    · cases h
  · cases h
theorem ok_fieldAddr (R : Rel A w0 F γ s a w) {nid : Nat} {o : Oper} {out : Out} {t : TypeId} {x : Operand} {i : Nat} (ho : o.op = .fieldAddr t x i) (h : (exFieldAddr P t (s.ev x) i).den = some out) : Sim P A w0 F nid s o out a w := by
  have hx := R.ev x
  unfold exFieldAddr at h
  split at h
  · rename_i b q n j ft off sz hp hft
    rw [hp] at hx
    obtain ⟨fields, f, hu, hf, rfl, rfl, hn⟩ := fieldT_spec hft
    split at h
    · exact (den_fail h).elim
    · rename_i hz
      obtain rfl := den_ret1 h
      obtain ⟨h1, ⟨g, base, h2, h3⟩, h4⟩ := hx
      refine Sim.look R (V := .pointer (some ⟨g, base + (q * n + (j + f.offset)), none⟩)) ?_ ⟨h1, ⟨g, base, h2, rfl⟩, h4⟩
      simp [execOp, ho, h3, Instr.fieldAt, run_underlying hu, hf, Instr.sureAddr, fieldPlace, sSize hn, hz, addr_add, Nat.add_assoc]
  · exact (den_fail h).elim
theorem req_and {b c : Bool} (h : (b && c) = true) : b = true ∧ c = true := by simpa using h
theorem ok_indexAddr (R : Rel A w0 F γ s a w) {nid : Nat} {o : Oper} {out : Out} {t : TypeId} {x ix : Operand} (ho : o.op = .indexAddr t x ix) (h : (exIndexAddr P s.mem t (s.ev x) (s.ev ix)).den = some out) : Sim P A w0 F nid s o out a w := by
  have hx := R.ev x
  unfold exIndexAddr at h
  split at h
  · rename_i k y hy
    have hix := ev_int R hy
    split at h
    · rename_i n e b i m j hu hp
      rw [hp] at hx
      split at h
      · rename_i sz ent hsz he
        split at h
        · rename_i k' xs hblk
          split at h
          · rename_i hc
            obtain ⟨rfl, rfl⟩ := hc
            obtain ⟨hq, h⟩ := den_req h
            obtain ⟨hq, q3⟩ := req_and hq
            obtain ⟨q1, q2⟩ := req_and hq
            have q1 : 0 ≤ y := by simpa using q1
            have q2 : y < (n : Int) := by simpa using q2
            have q3 : y.toNat < xs.length := of_decide_eq_true q3
            obtain rfl := den_ret1 h
            obtain ⟨h1, ⟨g, base, h2, h3⟩, h4⟩ := hx
            refine Sim.look R (V := .pointer (some ⟨g, base + (y.toNat * 1 + 0), none⟩)) ?_ ⟨h1, ⟨g, base, h2, rfl⟩, fun e' he' => ?_⟩
            · simp [execOp, ho, h3, hix, Instr.indexAt, asIntOf, run_underlying hu, Instr.sureAddr, q1, q2, sSize hsz, addr_add, Nat.add_assoc]
            · rw [he] at he'; obtain rfl := Option.some.inj he'
              rw [hblk]; exact ⟨rfl, q3⟩
          · exact (den_fail h).elim
        · obtain ⟨hq, h⟩ := den_req h
          obtain ⟨q1, q2⟩ := req_and hq
          have q1 : 0 ≤ y := by simpa using q1
          have q2 : y < (n : Int) := by simpa using q2
          obtain rfl := den_ret1 h
          obtain ⟨h1, ⟨g, base, h2, h3⟩, h4⟩ := hx
          refine Sim.look R (V := .pointer (some ⟨g, base + (_ * m + (_ + y.toNat * sz)), none⟩)) ?_ ⟨h1, ⟨g, base, h2, rfl⟩, h4⟩
          simp [execOp, ho, h3, hix, Instr.indexAt, asIntOf, run_underlying hu, Instr.sureAddr, q1, q2, sSize hsz, addr_add, Nat.add_assoc]
        · exact (den_fail h).elim
      · exact (den_fail h).elim
    · rename_i e b hu hp
      rw [hp] at hx
      split at h
      · rename_i ent sz he hsz
        split at h
        · rename_i hn
          obtain ⟨hq, h⟩ := den_req h
          obtain ⟨q1, q2⟩ := req_and hq
          have q1 : 0 ≤ y := by simpa using q1
          have q2 : y < (ent.blk.len : Int) := by simpa using q2
          obtain rfl := den_ret1 h
          obtain ⟨h1, _, h4⟩ := hx
          rcases h4 ent he with ⟨h5, _⟩ | ⟨g, base, cap, h5, h6, h7, _⟩
          · omega
          · refine Sim.look R (V := .pointer (some ⟨g, base + (y.toNat * ent.blk.n + 0), none⟩)) ?_ ⟨h1, ⟨g, base, h5, rfl⟩, fun e' he' => ?_⟩
            · simp [execOp, ho, h6, hix, Instr.indexAt, asIntOf, run_underlying hu, q1, q2, sSize hsz, addr_add, ← hn]
            · rw [he] at he'; obtain rfl := Option.some.inj he'
              cases hb : ent.blk with
              | cells l => rw [hb] at q2; simp [Blk.len] at q2; omega
              | row k' xs => rw [hb] at q2; simp only [Blk.len] at q2; exact ⟨rfl, by omega⟩
              | recs k' xs => rw [hb] at q2; simp only [Blk.len] at q2; exact ⟨rfl, by omega⟩
        · exact (den_fail h).elim
      · exact (den_fail h).elim
    · rename_i e b off l hu hp
      rw [hp] at hx
      split at h
      · rename_i ent sz he hsz
        split at h
        · rename_i hn
          obtain ⟨hq, h⟩ := den_req h
          obtain ⟨q1, q2⟩ := req_and hq
          have q1 : 0 ≤ y := by simpa using q1
          have q2 : y < (l : Int) := by simpa using q2
          obtain rfl := den_ret1 h
          obtain ⟨h1, _, h4⟩ := hx
          obtain ⟨h40, h4⟩ := h4 ent he
          rcases h4 with ⟨h5, _⟩ | ⟨g, base, cap, h5, h6, h7, _⟩
          · omega
          · refine Sim.look R (V := .pointer (some ⟨g, base + ((off + y.toNat) * ent.blk.n + 0), none⟩)) ?_ ⟨h1, ⟨g, base, h5, rfl⟩, fun e' he' => ?_⟩
            · simp [execOp, ho, h6, hix, Instr.indexAt, asIntOf, run_underlying hu, q1, q2, sSize hsz, addr_add, ← hn, Nat.add_mul, Nat.add_assoc]
            · rw [he] at he'; obtain rfl := Option.some.inj he'
              cases hb : ent.blk with
              | cells l => rw [hb] at h40; simp [Blk.len] at h40; omega
              | row k' xs => rw [hb] at h40; simp only [Blk.len] at h40; exact ⟨rfl, by omega⟩
              | recs k' xs => rw [hb] at h40; simp only [Blk.len] at h40; exact ⟨rfl, by omega⟩
        · exact (den_fail h).elim
      · exact (den_fail h).elim
    · exact (den_fail h).elim
  · exact (den_fail h).elim
theorem ok_index (R : Rel A w0 F γ s a w) {nid : Nat} {o : Oper} {out : Out} {t : TypeId} {x ix : Operand} (ho : o.op = .index t x ix) (h : (exIndex P t (s.ev x) (s.ev ix)).den = some out) : Sim P A w0 F nid s o out a w := by
  have hx := R.ev x
  unfold exIndex at h
  split at h
  · rename_i S k y hp hy
    rw [hp] at hx
    have hix := ev_int R hy
    split at h
    · rename_i hu
      obtain ⟨hq, h⟩ := den_req h
      obtain ⟨q1, q2⟩ := req_and hq
      have q1 : 0 ≤ y := by simpa using q1
      have q2 : y < (S.size : Int) := by simpa using q2
      obtain rfl := den_int1 h
      have hx : a.eval x = .string S := hx
      refine Sim.look R (V := .int .u8 (bt S y)) ?_ (int1_rel _ _)
      have hlt : y.toNat < S.size := by omega
      have hg : S[y.toNat]? = some S[y.toNat] := by simp [getElem?_pos, hlt]
      simp [execOp, ho, hx, hix, Instr.index, asIntOf, run_underlying hu, q1, hg, bt]
    · exact (den_fail h).elim
  · rename_i l k y hp hy
    rw [hp] at hx
    have hix := ev_int R hy
    split at h
    · rename_i n e hu
      split at h
      · rename_i kk hkk
        split at h
        · rename_i xs hsz hxs
          obtain ⟨hq, h⟩ := den_req h
          obtain ⟨q1, q2⟩ := req_and hq
          have q1 : 0 ≤ y := by simpa using q1
          have q2 : y < (n : Int) := by simpa using q2
          obtain ⟨cs, hv, h2⟩ := hx
          obtain ⟨rfl, hlen⟩ := intsOf_rep _ _ _ hxs
          obtain rfl := den_int1 h
          have hlt : y.toNat < xs.length := by omega
          obtain ⟨V, h3, h4⟩ := h2.get y.toNat (.val (.int kk (nth 0 xs y.toNat))) (by rw [List.getElem?_map, nth_eq, List.getD_eq_getElem?_getD, List.getElem?_eq_getElem hlt]; rfl)
          obtain rfl : V = .int kk (nth 0 xs y.toNat) := h4
          have hagg : aggT P e = some false := by
            unfold arrK at hkk
            rw [hu] at hkk
            simp only at hkk
            split at hkk
            · rename_i k2 hk2; unfold aggT; rw [hk2]
            · cases hkk
          refine Sim.look R (V := .int kk (nth 0 xs y.toNat)) ?_ (int1_rel _ _)
          have h3' : cs[y.toNat]? = some (.int kk (nth 0 xs y.toNat)) := by simpa using h3
          simp [execOp, ho, hv, hix, Instr.index, asIntOf, run_underlying hu, q1, q2, sSize hsz, part, sAgg hagg, h3']
        · exact (den_fail h).elim
      · split at h
        · rename_i sz hsz
          obtain ⟨hq, h⟩ := den_req h
          obtain ⟨q1, q2⟩ := req_and hq
          have q1 : 0 ≤ y := by simpa using q1
          have q2 : y < (n : Int) := by simpa using q2
          obtain ⟨cs, hv, h2⟩ := hx
          split at h
          · rename_i r hr
            split at h
            · rename_i p hp'
              obtain rfl := den_ret1 h
              obtain ⟨V, h3, h4⟩ := part_run hsz h2 hr hp' w
              refine Sim.look R (V := V) ?_ h4
              simp [execOp, ho, hv, hix, Instr.index, asIntOf, run_underlying hu, q1, q2, sSize hsz, h3]
            · exact (den_fail h).elim
          · exact (den_fail h).elim
        · exact (den_fail h).elim
    · exact (den_fail h).elim
  · exact (den_fail h).elim
theorem eqFs_run {m : MM} {rec : TypeId → PV → PV → Option Bool} {d : Nat} (hrec : ∀ t p q r, rec t p q = some r → ∀ V V', RelP F γ m w p V → RelP F γ m w q V' → ∀ W, (Op.equalIn d t V V').run P W = .ok r W) {xs ys : Array Value} {l l' : List CV} (hl : All2 (RelC F γ m w) l xs.toList) (hl' : All2 (RelC F γ m w) l' ys.toList) :
    ∀ (fs : List Field) (r : Bool), eqFs rec P fs l l' = some r → ∀ W, (Op.eqFields d xs ys fs).run P W = .ok r W
  | [], r, h, W => by
    obtain rfl := Option.some.inj h
    rfl
  | f :: fs, r, h, W => by
    simp only [eqFs] at h
    split at h
    · cases h
    · rename_i hname
      have hne : f.name ≠ "_" := by simpa using hname
      split at h
      · cases h
      · rename_i n hn
        split at h
        · rename_i a b ha hb
          split at h
          · rename_i p q hp hq
            split at h
            · rename_i x y hx hy
              obtain rfl := Option.some.inj h
              obtain ⟨V, h1, h2⟩ := part_run hn hl ha hp W
              obtain ⟨V', h3, h4⟩ := part_run hn hl' hb hq W
              have h5 := hrec _ _ _ _ hx V V' h2 h4 W
              have h6 := eqFs_run hrec hl hl' fs y hy W
              rw [Op.eqFields, if_pos hne]
              simp only [Sem.run_bind, h1, h3, h5, Result.andThen_ok, Sem.run_ite]
              cases x with
              | true => simp [h6]
              | false => simp
            · cases h
          · cases h
        · cases h
theorem eqP_run {m : MM} (D : Nat) : ∀ (d : Nat) (t : TypeId) (p q : PV) (r : Bool), eqP P d t p q = some r → ∀ V V', RelP F γ m w p V → RelP F γ m w q V' → ∀ W, (Op.equalIn (D + d) t V V').run P W = .ok r W
  | 0, _, _, _, _, h, _, _, _, _, _ => by cases h
  | d + 1, t, p, q, r, h, V, V', hV, hV', W => by
    simp only [eqP] at h
    rw [show D + (d + 1) = D + d + 1 from rfl]
    split at h
    · rename_i a b hu
      obtain rfl := Option.some.inj h
      obtain rfl : V = .bool a := hV
      obtain rfl : V' = .bool b := hV'
      simp [Op.equalIn, run_underlying hu]
    · rename_i k a k' b hu
      split at h
      · rename_i hk; subst hk
        obtain rfl := Option.some.inj h
        obtain rfl : V = .int k a := hV
        obtain rfl : V' = .int k b := hV'
        simp [Op.equalIn, run_underlying hu]
      · cases h
    · rename_i a b hu
      obtain rfl := Option.some.inj h
      obtain rfl : V = .string a := hV
      obtain rfl : V' = .string b := hV'
      simp [Op.equalIn, run_underlying hu]
    · rename_i fs l l' hu
      split at h
      · rename_i hs
        obtain ⟨xs, rfl, h1⟩ := hV
        obtain ⟨ys, rfl, h2⟩ := hV'
        have hf : P.fieldsOf t = fs := by simp [Program.fieldsOf, hu]
        rw [run_equalIn_struct W (D + d) t xs ys (by rw [hf]; exact hu) hs, hf]
        exact eqFs_run (fun t p q r h V V' hV hV' W => eqP_run D d t p q r h V V' hV hV' W) h1 h2 _ _ h W
      · cases h
    · cases h
theorem ok_binA (R : Rel A w0 F γ s a w) {nid : Nat} {o : Oper} {out : Out} {op : BinOp} {xt yt : TypeId} {x y : Operand} (ho : o.op = .binOp op xt x y yt) (h : (exBinA P s.ev o op xt x y).den = some out) : Sim P A w0 F nid s o out a w := by
  have eqq : ∀ l l' f, s.ev x = .pv (.agg l) → s.ev y = .pv (.agg l') → (exEqA P xt l l' f).den = some out → (op = .eql ∧ f = id ∨ op = .neq ∧ f = not) → Sim P A w0 F nid s o out a w := fun l l' f hx hy h hop => by
    have hX := R.ev x
    have hY := R.ev y
    rw [hx] at hX
    rw [hy] at hY
    obtain ⟨xs, hvx, h1⟩ := hX
    obtain ⟨ys, hvy, h2⟩ := hY
    unfold exEqA at h
    split at h
    · exact (den_fail h).elim
    · rename_i hg
      split at h
      · rename_i r hr
        obtain rfl := Option.some.inj h
        have hrun := eqP_run (F := F) (γ := γ) (m := s.mem) (w := w) 9992 8 xt _ _ r hr (.agg xs) (.agg ys) ⟨xs, rfl, h1⟩ ⟨ys, rfl, h2⟩ w
        refine Sim.look R (V := .bool (f r)) ?_ rfl
        have hgd := run_eqGuard_agg (P := P) w op xt x y xs ys hg
        rcases hop with ⟨rfl, rfl⟩ | ⟨rfl, rfl⟩
        · have e := run_eql_struct (P := P) w xt xs ys
          rw [show (10000 : Nat) = 9992 + 8 from rfl, hrun] at e
          simp [execOp, ho, hvx, hvy, hgd, e]
        · have e := run_neq_struct (P := P) w xt xs ys
          rw [show (10000 : Nat) = 9992 + 8 from rfl, hrun] at e
          simp [execOp, ho, hvx, hvy, hgd, e]
      · exact (den_fail h).elim
  unfold exBinA at h
  split at h
  · rename_i l l' hx hy; exact eqq _ _ _ hx hy h (.inl ⟨rfl, rfl⟩)
  · rename_i l l' hx hy; exact eqq _ _ _ hx hy h (.inr ⟨rfl, rfl⟩)
  · rename_i sa sb hx hy
    have hvx : a.eval x = .string sa := by have := R.ev x; rw [hx] at this; exact this
    have hvy : a.eval y = .string sb := by have := R.ev y; rw [hy] at this; exact this
    unfold exStr at h
    split at h
    · simp only [T.den] at h
      split at h
      · cases h
      · rename_i hq
        obtain rfl := (Option.some.inj h).symm
        have hq' : ¬ (((sa.size + sb.size : Nat) : Int) > IntKind.i64.max) := by
          have : IntKind.i64.max = 9223372036854775807 := by decide
          rw [this]; simpa using hq
        refine Sim.look R (V := .string (sa ++ sb)) ?_ rfl
        simp only [execOp, ho, hvx, hvy, eqGuard, binOp, Op.stringOp]
        rw [if_neg hq']
        rfl
    all_goals first
      | exact (den_fail h).elim
      | (obtain rfl := (Option.some.inj h).symm
         refine Sim.look R ?_ (show RelV F γ s.mem w (.pv (.one (.val (.bool _)))) (.bool _) from rfl)
         simp only [execOp, ho, hvx, hvy, eqGuard, binOp, Op.stringOp, sEq, sLt]
         rfl)
  · exact ok_bin R ho h
end
end Go.Proofs.Ytoibhkhgpahdjaa.Vm
