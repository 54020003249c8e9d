/- The abstract interpreter's append is the model's. Conditions: none here. -/
import Derived.Test.YtmmaechogibodaaVmH
set_option linter.unusedVariables false
set_option linter.unusedSimpArgs false
namespace Go.Proofs.Ytmmaechogibodaa.Vm
open Go Go.RowKit

section
variable {P : Program} {A : Ctx} {w0 : World} {F : NS} {γ : GM} {s : St} {a : Act} {w : World}
theorem growBy_le (newLen : Nat) : ∀ (r c : Nat), c < newLen → Builtin.growBy newLen r c ≤ newLen + (newLen + 768) / 4
  | 0, c, h => by simp [Builtin.growBy]; omega
  | r + 1, c, h => by
    simp only [Builtin.growBy]
    rw [if_neg (by omega)]
    by_cases h2 : c + (c + 768) / 4 < newLen
    · exact growBy_le newLen r _ h2
    · have : Builtin.growBy newLen r (c + (c + 768) / 4) = c + (c + 768) / 4 := by
        cases r with
        | zero => rfl
        | succ r => simp only [Builtin.growBy]; rw [if_pos (by omega)]
      rw [this]; omega
theorem nextcap_le {need cap : Nat} (h : cap < need) : Builtin.nextslicecap need cap ≤ need + need / 4 + 704 := by
  unfold Builtin.nextslicecap
  split
  · omega
  · split
    · omega
    · have := growBy_le need 4 cap h; omega
theorem append_fits {t t2 e e2 ty : TypeId} {n : Nat} (hu : P.underlying t = some (.slice e)) (hu2 : P.underlying t2 = some (.slice e2)) (hs : ∀ W, (sizeOf e).run P W = .ok n W)
    {base : Option Addr} {sLen sCap : Nat} {X : Value} {l2 : Nat} {a2 : Option Addr} {c2 : Nat} (hX : X = .slice a2 l2 c2) (hfit : sLen + l2 ≤ sCap) {vs : List Value} {w' : World}
    (hfc : (Builtin.firstCells n l2 X).run P w = .ok vs.toArray w) (hst : (match base with | some a => storeCells (a.add (sLen * n)) vs | none => pure ()).run P w = .ok () w') :
    (Builtin.append_ #[t, t2] ty #[.slice base sLen sCap, X]).run P w = .ok (.slice base (sLen + l2) sCap) w' := by
  subst hX
  cases base with
  | none =>
    have hst : w = w' := by simpa using hst
    subst hst
    simp [Builtin.append_, run_underlying hu, run_underlying hu2, hs, Builtin.lenOf, hfit, hfc]
  | some b =>
    simp only at hst
    simp [Builtin.append_, run_underlying hu, run_underlying hu2, hs, Builtin.lenOf, hfit, hfc, hst]
theorem append_grows {t t2 e e2 ty : TypeId} {n : Nat} {i : TypeInfo} {z : Value} (hu : P.underlying t = some (.slice e)) (hu2 : P.underlying t2 = some (.slice e2)) (hs : ∀ W, (sizeOf e).run P W = .ok n W)
    (hi : P.info? e = some i) (hz : i.zero = some z) (hb : i.bytes ≤ 128) (hb0 : i.bytes ≠ 0)
    {base : Option Addr} {sLen sCap : Nat} {X : Value} {l2 : Nat} {a2 : Option Addr} {c2 : Nat} (hX : X = .slice a2 l2 c2) (hfit : ¬ sLen + l2 ≤ sCap) (hN : i.bytes * (sLen + l2) ≤ 140737488355328) {vs us : List Value}
    (hfc : (Builtin.firstCells n l2 X).run P w.drew = .ok vs.toArray w.drew) (hfs : (Builtin.firstCells n sLen (.slice base sLen sCap)).run P w.drew = .ok us.toArray w.drew) :
    ∃ cap rest, sLen + l2 ≤ cap ∧ rest.size = (cap - (sLen + l2)) * z.cells.size ∧ (Builtin.append_ #[t, t2] ty #[.slice base sLen sCap, X]).run P w = .ok (.slice (some ⟨w.heap.size, 0, none⟩) (sLen + l2) cap) (w.drew.alloc (.cells (us.toArray ++ vs.toArray ++ rest) e)) := by
  subst hX
  have hcap := nextcap_le (show sCap < sLen + l2 by omega)
  have h1 : ¬ (Builtin.nextslicecap (sLen + l2) sCap * i.bytes > 2 ^ 48) := by
    have h2 : Builtin.nextslicecap (sLen + l2) sCap * i.bytes ≤ (sLen + l2 + (sLen + l2) / 4 + 704) * i.bytes := Nat.mul_le_mul_right _ hcap
    rw [Nat.add_mul, Nat.add_mul] at h2
    have h3 : (sLen + l2) / 4 * i.bytes * 4 ≤ i.bytes * (sLen + l2) := by
      have : (sLen + l2) / 4 * 4 ≤ sLen + l2 := Nat.div_mul_le_self _ _
      calc (sLen + l2) / 4 * i.bytes * 4 = i.bytes * ((sLen + l2) / 4 * 4) := by rw [Nat.mul_comm ((sLen + l2) / 4) i.bytes, Nat.mul_assoc]
        _ ≤ i.bytes * (sLen + l2) := Nat.mul_le_mul_left _ this
    have h4 : (sLen + l2) * i.bytes = i.bytes * (sLen + l2) := Nat.mul_comm _ _
    have h5 : 704 * i.bytes ≤ 704 * 128 := Nat.mul_le_mul_left _ hb
    omega
  refine ⟨(Question.appendCap (sLen + l2) sCap e).cut (w.tape w.drawn (.appendCap (sLen + l2) sCap e)), Builtin.zeroCells z.cells ((Question.appendCap (sLen + l2) sCap e).cut (w.tape w.drawn (.appendCap (sLen + l2) sCap e)) - (sLen + l2)), ?_, by simp [Builtin.zeroCells], ?_⟩
  · simp only [Question.cut]; omega
  · have hd : ({ w with drawn := w.drawn + 1 } : World) = w.drew := rfl
    simp only [Builtin.append_, run_underlying hu, run_underlying hu2, Sem.run_bind, Result.andThen_ok, hs, Builtin.lenOf, Sem.run_pure, Sem.run_ite, hfit, if_false, sInfo hi, List.getElem?_toArray, List.getElem?_cons_zero, List.getElem?_cons_succ, Bool.false_eq_true, false_or, hb0, and_false, h1, run_choose, Question.forced, run_askRoom, hd, hfs, hfc, zeroValue, hz, Go.newRow, run_newObj, Bool.not_false, if_true]
    simp [hfc, hb0, h1, hd, hfs]
    rfl
/-- A part of a block of members. -/
def PartOf (e e0 : Blk) (off : Nat) : Prop := e.n = e0.n ∧ ∀ i j c, e.at i j = some c → e0.at (off + i) j = some c
theorem partOf_self (e : Blk) : PartOf e e 0 := ⟨rfl, fun i j c h => by rw [Nat.zero_add]; exact h⟩
theorem nth_trim {α : Type} (d : α) (xs : List α) (off l i : Nat) (h : i < ((xs.drop off).take l).length) : off + i < xs.length ∧ nth d ((xs.drop off).take l) i = nth d xs (off + i) := by
  have h1 : i < l ∧ off + i < xs.length := by simp at h; omega
  refine ⟨h1.2, ?_⟩
  simp only [nth_eq, List.getD_eq_getElem?_getD]
  rw [List.getElem?_take, if_pos h1.1, List.getElem?_drop]
theorem partOf_row (k : IntKind) (xs : List Int) (off l : Nat) : PartOf (.row k ((xs.drop off).take l)) (.row k xs) off := ⟨rfl, fun i j c h => by
  simp only [Blk.at] at h ⊢
  split at h
  · rename_i hj
    obtain ⟨h1, h2⟩ := nth_trim 0 xs off l i hj.2
    rw [if_pos ⟨hj.1, h1⟩, ← h2]; exact h
  · cases h⟩
theorem partOf_recs (ks : List IntKind) (xs : List (List Int)) (off l : Nat) : PartOf (.recs ks ((xs.drop off).take l)) (.recs ks xs) off := ⟨rfl, fun i j c h => by
  simp only [Blk.at] at h ⊢
  split at h
  · rename_i hj
    obtain ⟨h1, h2⟩ := nth_trim [] xs off l i hj
    rw [if_pos h1, ← h2]; exact h
  · cases h⟩
theorem partOf_grow (ls : List Sh) (xs : List (List D)) (off l : Nat) : PartOf (.grow ls ((xs.drop off).take l)) (.grow ls xs) off := ⟨rfl, fun i j c h => by
  simp only [Blk.at] at h ⊢
  split at h
  · rename_i hj
    obtain ⟨h1, h2⟩ := nth_trim [] xs off l i hj
    rw [if_pos h1, ← h2]; exact h
  · cases h⟩
/-- The values of a part of a block. -/
theorem part_cells {m : MM} {b off : Nat} {e e0 : Blk} (hr : e.isRows = true) (hp : PartOf e e0 off) (h : RelB F γ m w b e0) :
    ∃ Vs, CellsOf F γ m w e Vs ∧ ∀ f v, Vs[f]? = some v → ∃ (g base : Nat) (cs : Array Value) (t : TF), γ b = some (g, base) ∧ w.heap[g]? = some (.cells cs t.1 t.2) ∧ cs[base + off * e.n + f]? = some v := by
  have hB : RelB F (fun x => (γ x).map fun y => (y.1, y.2 + off * e.n)) m w b e := fun i j c hc => by
    obtain ⟨g, base, cs, t, V, k1, k2, k3, k4⟩ := h (off + i) j c (hp.2 i j c hc)
    refine ⟨g, base + off * e.n, cs, t, V, by simp [k1], k2, ?_, k4.free ((at_rows hr).1 i j c hc).2.2 (fun _ h => h) fun _ _ => rfl⟩
    rw [← k3, ← hp.1]; congr 1; rw [Nat.add_mul]; omega
  obtain ⟨Vs, v1, v2⟩ := cells_relB hr hB
  refine ⟨Vs, v1.step (fun _ h => h) fun _ _ => rfl, fun f v hf => ?_⟩
  obtain ⟨g, base, cs, t, k1, k2, k3⟩ := v2 f v hf
  simp only [Option.map_eq_some_iff] at k1
  obtain ⟨⟨g', base'⟩, k4, k5⟩ := k1
  simp only [Prod.mk.injEq] at k5
  obtain ⟨rfl, rfl⟩ := k5
  exact ⟨g', base', cs, t, k4, k2, k3⟩
/-- What is read of a slice. -/
theorem row_read (R : Rel A w0 F γ s a w) {c : CV} {X : Value} {bx : Blk} (h : RelC F γ s.mem w c X) (hb : rowOf s.mem c = some bx) (hr : bx.isRows = true) :
    ∃ a2 c2 Vs, X = .slice a2 bx.len c2 ∧ CellsOf F γ s.mem w bx Vs ∧ ∀ W : World, (∀ a, W.cell? a = w.cell? a) → (Builtin.firstCells bx.n bx.len X).run P W = .ok Vs.toArray W := by
  have key : ∀ {b off l n : Nat} {e0 : Blk}, slcOk γ w b off l n X → bx.len = l → bx.n = n → PartOf bx e0 off → RelB F γ s.mem w b e0 →
      ∃ a2 c2 Vs, X = .slice a2 bx.len c2 ∧ CellsOf F γ s.mem w bx Vs ∧ ∀ W : World, (∀ a, W.cell? a = w.cell? a) → (Builtin.firstCells bx.n bx.len X).run P W = .ok Vs.toArray W := by
    intro b off l n e0 hs hl hn hp hB
    obtain ⟨Vs, v1, v2⟩ := part_cells hr hp hB
    have hvl := v1.2.1
    rcases hs with ⟨h0, a0, rfl⟩ | ⟨g, base, cap, h1, rfl, h3, cs, t, h4, h5⟩
    · have hl0 : bx.len = 0 := by omega
      have hv0 : Vs = [] := List.eq_nil_of_length_eq_zero (by rw [hvl, hl0, Nat.zero_mul])
      refine ⟨a0, 0, Vs, by rw [hl0], v1, fun W _ => ?_⟩
      rw [hv0, hl0]
      cases a0 <;> simp [Builtin.firstCells, loadCells, loadCellsFrom]
    · refine ⟨_, cap, Vs, by rw [hl], v1, fun W hW => ?_⟩
      have := run_loadCells_list (P := P) W ⟨g, base + off * n, none⟩ Vs (fun j v hj => by
        rw [addr_add, hW]
        obtain ⟨g', base', cs', t', k1, k2, k3⟩ := v2 j v hj
        rw [h1] at k1
        obtain ⟨rfl, rfl⟩ : g = g' ∧ base = base' := by simpa using k1
        simp only [World.cell?, k2]
        rw [hn] at k3
        simpa using k3)
      simp only [Builtin.firstCells]
      rw [show bx.len * bx.n = Vs.length by rw [hvl]]
      exact this
  cases c with
  | val v => simp [rowOf] at hb
  | any => simp [rowOf] at hb
  | ptr b i n j => simp [rowOf] at hb
  | rop l x j => simp [rowOf] at hb
  | mapr b => simp [rowOf] at hb
  | mptr b j l => simp [rowOf] at hb
  | dt h d => simp [rowOf] at hb
  | ro ls xs =>
    simp only [rowOf, Option.some.injEq] at hb
    subst hb
    have hD : Deep F.z w (.sl ls) (.l xs) X := h
    cases hD with
    | nil l a0 c0 =>
      refine ⟨a0, c0, [], rfl, ⟨rfl, by simp [Blk.len], fun i j c hc => by simp [Blk.at] at hc⟩, fun W _ => ?_⟩
      simp only [Blk.len, List.length_nil]
      cases a0 <;> simp [Builtin.firstCells, loadCells, loadCellsFrom]
    | sl l xs g base cap cs t h1 h2 h3 h4 h5 =>
      -- the cells, as a list
      have hvs : ∃ Vs : List Value, Vs = (cs.toList.drop base).take (xs.length * ls.length) := ⟨_, rfl⟩
      obtain ⟨Vs, hVs⟩ := hvs
      have hvl : Vs.length = xs.length * ls.length := by rw [hVs]; simp; omega
      have hvg : ∀ f, f < xs.length * ls.length → Vs[f]? = cs[base + f]? := fun f hf => by
        rw [hVs, List.getElem?_take, if_pos hf, List.getElem?_drop]; simp
      refine ⟨_, cap, Vs, rfl, ⟨rfl, by rw [hvl]; simp [Blk.len, Blk.n, len_eq], fun i j c hc => ?_⟩, fun W hW => ?_⟩
      · have hj := ((at_rows (blk := .grow ls xs) rfl).1 i j c hc)
        have hj1 : j < ls.length := by simpa [Blk.n, len_eq] using hj.1
        have hi : i < xs.length := hj.2.1
        simp only [Blk.at] at hc
        rw [if_pos hi, dtsL_get, List.getElem?_eq_getElem hj1, Nat.zero_add] at hc
        obtain rfl := Option.some.inj hc
        have hlt : i * ls.length + j < xs.length * ls.length := by
          have : i * ls.length + ls.length ≤ xs.length * ls.length := by rw [← Nat.succ_mul]; exact Nat.mul_le_mul_right _ hi
          omega
        have hn : nth [] xs i = xs[i] := by rw [nth_eq, List.getD_eq_getElem?_getD, List.getElem?_eq_getElem hi]; rfl
        simp only [Blk.n, len_eq]
        refine ⟨Vs[i * ls.length + j]'(by omega), List.getElem?_eq_getElem (by omega), ?_⟩
        rw [hn]
        have e := hvg _ hlt
        rw [List.getElem?_eq_getElem (by omega)] at e
        exact h5 i j xs[i] ls[j] _ (List.getElem?_eq_getElem hi) (List.getElem?_eq_getElem hj1) e.symm
      · have := run_loadCells_list (P := P) W ⟨g, base, none⟩ Vs (fun j v hj => by
          have hlt : j < xs.length * ls.length := by have := (List.getElem?_eq_some_iff.1 hj).1; omega
          rw [addr_add, hW]
          simp only [World.cell?, h2]
          rw [hvg j hlt] at hj
          simpa using hj)
        simp only [Builtin.firstCells, Blk.len, Blk.n, len_eq]
        rw [← hvl]
        exact this
  | slf b =>
    simp only [rowOf] at hb
    split at hb
    · rename_i e he
      obtain rfl := Option.some.inj hb
      exact key (h.2.2 e he) rfl rfl (partOf_self _) (R.memr b e he).2
    · cases hb
  | slc b off l =>
    simp only [rowOf] at hb
    split at hb
    · rename_i o k xs he
      obtain rfl := Option.some.inj hb
      obtain ⟨h0, h1, _⟩ := h.2.2 _ he
      exact key h1 (by simp [Blk.len] at h0 ⊢; omega) rfl (partOf_row k xs off l) (R.memr b _ he).2
    · rename_i o k xs he
      obtain rfl := Option.some.inj hb
      obtain ⟨h0, h1, _⟩ := h.2.2 _ he
      exact key h1 (by simp [Blk.len] at h0 ⊢; omega) rfl (partOf_recs k xs off l) (R.memr b _ he).2
    · rename_i o k xs he
      obtain rfl := Option.some.inj hb
      obtain ⟨h0, h1, _⟩ := h.2.2 _ he
      exact key h1 (by simp [Blk.len] at h0 ⊢; omega) rfl (partOf_grow k xs off l) (R.memr b _ he).2
    · cases hb
theorem deep_int {z : Nat → Prop} {k : IntKind} {d : D} {V : Value} (h : Deep z w (.int k) d V) : V = .int k d.toI := by cases h; rfl
theorem toIs_get : ∀ (ks : List IntKind) (r : List D) (j k : Nat), k < ks.length → nth 0 (toIs ks r j) k = (nth d0 r (j + k)).toI
  | [], r, j, k, h => by simp at h
  | q :: ks, r, j, 0, h => by simp [toIs, nth]
  | q :: ks, r, j, k + 1, h => by simp only [toIs, nth]; rw [toIs_get ks r (j + 1) k (by simpa using h), show j + 1 + k = j + (k + 1) by omega]
theorem asEK_rows {ek : EK} {b c : Blk} (h : asEK ek b = some c) : b.isRows = true := by
  unfold asEK at h
  split at h <;> first | rfl | cases h
/-- Rows of data as a block of a kind: the same values. -/
theorem asEK_spec {m : MM} {ek : EK} {b c : Blk} {Vs : List Value} (h : asEK ek b = some c) (hc : b.isRows = true → CellsOf F γ m w b Vs) : b.isRows = true ∧ CellsOf F γ m w c Vs ∧ c.len = b.len ∧ c.n = b.n ∧ c.n = ek.n := by
  unfold asEK at h
  split at h
  · split at h
    · rename_i e; subst e; obtain rfl := Option.some.inj h; exact ⟨rfl, hc rfl, rfl, rfl, rfl⟩
    · cases h
  · split at h
    · rename_i e; subst e; obtain rfl := Option.some.inj h; exact ⟨rfl, hc rfl, rfl, rfl, rfl⟩
    · cases h
  · split at h
    · rename_i e; obtain rfl := shsEq_spec e; obtain rfl := Option.some.inj h; exact ⟨rfl, hc rfl, rfl, rfl, rfl⟩
    · cases h
  · rename_i k l xs
    split at h
    · rename_i e
      obtain rfl := shsEq_spec e
      obtain rfl := Option.some.inj h
      obtain ⟨_, c2, c3⟩ := hc rfl
      refine ⟨rfl, ⟨rfl, by rw [c2]; simp [Blk.len, Blk.n, len], fun i j c hcc => ?_⟩, by simp [Blk.len], rfl, rfl⟩
      simp only [Blk.at] at hcc
      split at hcc
      · rename_i hj
        obtain ⟨rfl, hi⟩ := hj
        obtain rfl := Option.some.inj hcc
        have hi : i < xs.length := by simpa using hi
        obtain ⟨V, v1, v2⟩ := c3 i 0 (.dt (.int k) (nth d0 (nth [] xs i) 0)) (by simp [Blk.at, hi, dtsL])
        have e1 := deep_int (show Deep F.z w (.int k) (nth d0 (nth [] xs i) 0) V from v2)
        refine ⟨V, v1, ?_⟩
        have e2 : nth 0 (xs.map fun r => (nth d0 r 0).toI) i = (nth d0 (nth [] xs i) 0).toI := by
          rw [nth_eq, List.getD_eq_getElem?_getD, List.getElem?_map, List.getElem?_eq_getElem hi, nth_eq [] xs, List.getD_eq_getElem?_getD, List.getElem?_eq_getElem hi]; rfl
        rw [e2]; exact e1
      · cases hcc
    · cases h
  · rename_i ks l xs
    split at h
    · rename_i e
      obtain rfl := shsEq_spec e
      obtain rfl := Option.some.inj h
      obtain ⟨_, c2, c3⟩ := hc rfl
      have hn : (Blk.recs ks (xs.map fun r => toIs ks r 0)).n = (Blk.grow (shInts ks) xs).n := by simp [Blk.n, len_eq, shInts_len]
      refine ⟨rfl, ⟨rfl, by rw [c2, hn]; simp [Blk.len], fun i j c hcc => ?_⟩, by simp [Blk.len], hn, by simp [Blk.n, EK.n]⟩
      have hj := ((at_rows (blk := .recs ks (xs.map fun r => toIs ks r 0)) rfl).1 i j c hcc).1
      have hj : j < ks.length := by simpa [Blk.n, len_eq] using hj
      simp only [Blk.at] at hcc
      split at hcc
      · rename_i hi
        have hi : i < xs.length := by simpa using hi
        rw [intsV_get, List.getElem?_eq_getElem hj, Nat.zero_add] at hcc
        obtain rfl := Option.some.inj hcc
        obtain ⟨V, v1, v2⟩ := c3 i j (.dt (.int ks[j]) (nth d0 (nth [] xs i) j)) (by simp only [Blk.at]; rw [if_pos hi, dtsL_get, shInts_get, List.getElem?_eq_getElem hj, Nat.zero_add]; rfl)
        have e1 := deep_int (show Deep F.z w (.int ks[j]) (nth d0 (nth [] xs i) j) V from v2)
        refine ⟨V, by rw [hn]; exact v1, ?_⟩
        have e2 : nth [] (xs.map fun r => toIs ks r 0) i = toIs ks (nth [] xs i) 0 := by
          rw [nth_eq, List.getD_eq_getElem?_getD, List.getElem?_map, List.getElem?_eq_getElem hi, nth_eq [] xs, List.getD_eq_getElem?_getD, List.getElem?_eq_getElem hi]; rfl
        rw [e2, toIs_get ks _ 0 j hj, Nat.zero_add]; exact e1
      · cases hcc
    · cases h
  · cases h
theorem isEK_spec {ek : EK} {b : Blk} (h : isEK ek b = true) : b.isRows = true ∧ b.n = ek.n := by
  cases ek <;> cases b <;> simp only [isEK] at h <;> first | (cases h; done) | skip
  · split at h
    · exact ⟨rfl, rfl⟩
    · cases h
  · split at h
    · rename_i e; subst e; exact ⟨rfl, rfl⟩
    · cases h
  · rw [shsEq_spec h]; exact ⟨rfl, rfl⟩
theorem cat_cells {m : MM} {b c d : Blk} {us vs : List Value} (hd : d.isRows = true) (hl : d.len = b.len + c.len) (hn : d.n = b.n) (hn2 : c.n = b.n) (hb : CellsOf F γ m w b us) (hc : CellsOf F γ m w c vs)
    (h1 : ∀ i j x, i < b.len → d.at i j = some x → b.at i j = some x) (h2 : ∀ i j x, b.len ≤ i → d.at i j = some x → c.at (i - b.len) j = some x) : CellsOf F γ m w d (us ++ vs) := by
  obtain ⟨b1, b2, b3⟩ := hb
  obtain ⟨c1, c2, c3⟩ := hc
  refine ⟨hd, by rw [List.length_append, b2, c2, hl, hn, hn2, Nat.add_mul], fun i j x hx => ?_⟩
  obtain ⟨hj, hi, _⟩ := (at_rows hd).1 i j x hx
  rw [hn] at hj ⊢
  by_cases hlt : i < b.len
  · obtain ⟨V, v1, v2⟩ := b3 i j x (h1 i j x hlt hx)
    refine ⟨V, ?_, v2⟩
    rw [List.getElem?_append_left (by have := (List.getElem?_eq_some_iff.1 v1).1; exact this)]
    exact v1
  · obtain ⟨V, v1, v2⟩ := c3 (i - b.len) j x (h2 i j x (by omega) hx)
    refine ⟨V, ?_, v2⟩
    have e : i * b.n = b.len * b.n + (i - b.len) * b.n := by rw [← Nat.add_mul]; congr 1; omega
    rw [List.getElem?_append_right (by rw [b2, e]; omega), b2, ← v1, hn2]
    congr 1; omega
theorem nth_app {α : Type} (d : α) (xs ys : List α) (i : Nat) : nth d (xs ++ ys) i = if i < xs.length then nth d xs i else nth d ys (i - xs.length) := by
  simp only [nth_eq, List.getD_eq_getElem?_getD]
  split
  · rename_i h; rw [List.getElem?_append_left h]
  · rename_i h; rw [List.getElem?_append_right (by omega)]
theorem catB_spec {m : MM} {b c d : Blk} {us vs : List Value} (h : catB b c = some d) (hb : CellsOf F γ m w b us) (hc : CellsOf F γ m w c vs) : d.isRows = true ∧ d.len = b.len + c.len ∧ d.n = b.n ∧ c.n = b.n ∧ CellsOf F γ m w d (us ++ vs) := by
  cases b with
  | cells l => simp [catB] at h
  | mem l ds => simp [catB] at h
  | map kk vk es => simp [catB] at h
  | row k xs =>
    cases c with
    | row k' ys =>
      simp only [catB] at h
      split at h
      · rename_i e; subst e; obtain rfl := Option.some.inj h
        refine ⟨rfl, by simp [Blk.len], rfl, rfl, cat_cells (b := .row k xs) (c := .row k ys) rfl (by simp [Blk.len]) rfl rfl hb hc (fun i j x hi hx => ?_) (fun i j x hi hx => ?_)⟩
        · have hi : i < xs.length := hi
          simp only [Blk.at] at hx ⊢
          split at hx
          · rename_i hj; rw [if_pos ⟨hj.1, hi⟩]; rw [nth_app, if_pos hi] at hx; exact hx
          · cases hx
        · have hi : xs.length ≤ i := hi
          show (Blk.row k ys).at (i - xs.length) j = some x
          simp only [Blk.at] at hx ⊢
          split at hx
          · rename_i hj; rw [if_pos ⟨hj.1, by have := hj.2; simp at this; omega⟩]; rw [nth_app, if_neg (by omega)] at hx; exact hx
          · cases hx
      · cases h
    | _ => simp [catB] at h
  | recs k xs =>
    cases c with
    | recs k' ys =>
      simp only [catB] at h
      split at h
      · rename_i e; subst e; obtain rfl := Option.some.inj h
        refine ⟨rfl, by simp [Blk.len], rfl, rfl, cat_cells (b := .recs k xs) (c := .recs k ys) rfl (by simp [Blk.len]) rfl rfl hb hc (fun i j x hi hx => ?_) (fun i j x hi hx => ?_)⟩
        · have hi : i < xs.length := hi
          simp only [Blk.at] at hx ⊢
          split at hx
          · rename_i hj; rw [if_pos hi]; rw [nth_app, if_pos hi] at hx; exact hx
          · cases hx
        · have hi : xs.length ≤ i := hi
          show (Blk.recs k ys).at (i - xs.length) j = some x
          simp only [Blk.at] at hx ⊢
          split at hx
          · rename_i hj; rw [if_pos (by have := hj; simp at this; omega)]; rw [nth_app, if_neg (by omega)] at hx; exact hx
          · cases hx
      · cases h
    | _ => simp [catB] at h
  | grow k xs =>
    cases c with
    | grow k' ys =>
      simp only [catB] at h
      split at h
      · rename_i e
        obtain rfl := shsEq_spec e
        obtain rfl := Option.some.inj h
        refine ⟨rfl, by simp [Blk.len], rfl, rfl, cat_cells (b := .grow k xs) (c := .grow k ys) rfl (by simp [Blk.len]) rfl rfl hb hc (fun i j x hi hx => ?_) (fun i j x hi hx => ?_)⟩
        · have hi : i < xs.length := hi
          simp only [Blk.at] at hx ⊢
          split at hx
          · rename_i hj; rw [if_pos hi]; rw [nth_app, if_pos hi] at hx; exact hx
          · cases hx
        · have hi : xs.length ≤ i := hi
          show (Blk.grow k ys).at (i - xs.length) j = some x
          simp only [Blk.at] at hx ⊢
          split at hx
          · rename_i hj; rw [if_pos (by have := hj; simp at this; omega)]; rw [nth_app, if_neg (by omega)] at hx; exact hx
          · cases hx
      · cases h
    | _ => simp [catB] at h
theorem updM_two (m : MM) (b q : Nat) (e e' : Option Ent) (x : Nat) : updM m [(b, e), (q, e')] x = if x = q then e' else if x = b then e else m x := by
  simp only [updM]
  by_cases h : x = q
  · simp [h]
  · by_cases h2 : x = b <;> simp [h, h2]
/-- A block goes over into another, of which more is known; what lies in it may be written. -/
theorem Rel.move (R : Rel A w0 F γ s a w) {b q : Nat} {bs bc : Blk} (he : s.mem b = some ⟨true, bs⟩) (hf : ∀ x, F x → x ≠ q) (hr : bc.isRows = true) {w' : World} {v : SV} {V : Value}
    (hw : w' = w ∨ ∃ (g base : Nat) (cs cs' : Array Value) (t : TF), γ b = some (g, base) ∧ w.heap[g]? = some (.cells cs t.1 t.2) ∧ cs'.size = cs.size ∧ w' = w.setRow g cs')
    (hB : (∀ g, F.z g → w'.heap[g]? = w.heap[g]?) → RelB (addN F q) (fun x => if x = q then γ b else γ x) (updM s.mem [(b, none), (q, some ⟨true, bc⟩)]) w' q bc)
    (hV : RelV (addN F q) (fun x => if x = q then γ b else γ x) (updM s.mem [(b, none), (q, some ⟨true, bc⟩)]) w' v V) (dst : Option Tmp) :
    Rel A w0 (addN F q) (fun x => if x = q then γ b else γ x) (s.app dst ⟨v, [(b, none), (q, some ⟨true, bc⟩)]⟩) (a.put dst V) w' := by
  have hbq : b ≠ q := hf b (R.memr b _ he).1
  have hm : ∀ x e, updM s.mem [(b, none), (q, some ⟨true, bc⟩)] x = some e → (x = q ∧ e = ⟨true, bc⟩) ∨ (x ≠ q ∧ x ≠ b ∧ s.mem x = some e) := by
    intro x e hx
    rw [updM_two] at hx
    by_cases h : x = q
    · rw [if_pos h] at hx; exact .inl ⟨h, (Option.some.inj hx).symm⟩
    · rw [if_neg h] at hx
      by_cases h2 : x = b
      · rw [if_pos h2] at hx; cases hx
      · rw [if_neg h2] at hx; exact .inr ⟨h, h2, hx⟩
  have hws : WStep w w' := by
    rcases hw with rfl | ⟨g, base, cs, cs', t, h1, h2, h3, rfl⟩
    · exact WStep.refl _
    · exact wstep_setRow h2 h3
  have hbel : Bel A.i w0.heap.size w0 w' := by
    rcases hw with rfl | ⟨g, base, cs, cs', t, h1, h2, h3, rfl⟩
    · exact R.below
    · exact R.below.set (R.own b _ g base he rfl h1).1 (wset_setRow w g cs') (wstep_setRow h2 h3)
  have hsz : w'.heap.size = w.heap.size := by
    rcases hw with rfl | ⟨g, base, cs, cs', t, h1, h2, h3, rfl⟩
    · rfl
    · simp
  have hoth : ∀ k, (∀ base, γ b ≠ some (k, base)) → w'.heap[k]? = w.heap[k]? := fun k hk => by
    rcases hw with rfl | ⟨g', base', cs, cs', t, h1, h2, h3, rfl⟩
    · rfl
    · exact setRow_other w g' k cs' fun e => by subst e; exact hk base' h1
  have hkeep : ∀ x e g base, x ≠ b → s.mem x = some e → γ x = some (g, base) → w'.heap[g]? = w.heap[g]? := fun x e g base hxb hx hg => hoth g fun base' h1 => (R.own b _ g base' he rfl h1).2 x e g base hxb hx hg rfl
  have hz : ∀ g, F.z g → w'.heap[g]? = w.heap[g]? := fun g hz => hoth g fun base h1 => (R.zok g hz).2.2 b _ base he rfl h1
  have hnofr : ∀ g base, γ b = some (g, base) → Vm.nofr w' g := fun g base h1 => by
    have h0 := R.nofr b _ g base he rfl h1
    rcases hw with rfl | ⟨g', base', cs, cs', t, k1, k2, k3, rfl⟩
    · exact h0
    · rw [h1] at k1
      obtain ⟨rfl, rfl⟩ : g = g' ∧ base = base' := by simpa using k1
      exact h0.row k2 k3
  have ms : MStep F γ s.mem w (addN F q) (fun x => if x = q then γ b else γ x) (updM s.mem [(b, none), (q, some ⟨true, bc⟩)]) w' :=
    ⟨fun x h => .inl h, fun x h => by simp [hf x h], fun x e hx h => by
      rcases hm x e h with ⟨rfl, _⟩ | ⟨_, _, h3⟩
      · exact absurd rfl (hf x hx)
      · exact ⟨e, h3, rfl, rfl, rfl, fun _ _ h => h⟩, hws, fun _ h => h, hz⟩
  refine R.put (o := ⟨v, [(b, none), (q, some ⟨true, bc⟩)]⟩) ms hV ⟨hbel, fun x e hx => ?_, fun x e g base hx ho hg => ?_, fun x e g base hx ho hg => ?_, fun x e g base hx ho hg => ?_, fun x e g base hx hg => ?_, fun x o kk vk es g base hx hg => ?_, fun g hzg => ?_, fun x hx => .inl (R.rts x hx)⟩
  · rcases hm x e hx with ⟨rfl, rfl⟩ | ⟨h1, h2, h3⟩
    · exact ⟨.inr rfl, hB hz⟩
    · obtain ⟨k1, k2⟩ := R.memr x e h3
      exact ⟨.inl k1, k2.step ms (by simp only [if_neg h1]) fun g base hg => hkeep x e g base h2 h3 hg⟩
  · rcases hm x e hx with ⟨rfl, rfl⟩ | ⟨h1, h2, h3⟩
    · simp only [if_true] at hg
      obtain ⟨k1, k2⟩ := R.own b _ g base he rfl hg
      refine ⟨k1, fun x' e' g' base' hne hx' hg' => ?_⟩
      rcases hm x' e' hx' with ⟨rfl, _⟩ | ⟨h1', h2', h3'⟩
      · exact absurd rfl hne
      · simp only [if_neg h1'] at hg'
        exact k2 x' e' g' base' h2' h3' hg'
    · simp only [if_neg h1] at hg
      obtain ⟨k1, k2⟩ := R.own x e g base h3 ho hg
      refine ⟨k1, fun x' e' g' base' hne hx' hg' => ?_⟩
      rcases hm x' e' hx' with ⟨rfl, rfl⟩ | ⟨h1', h2', h3'⟩
      · simp only [if_true] at hg'
        exact k2 b _ g' base' (Ne.symm h2) he hg'
      · simp only [if_neg h1'] at hg'
        exact k2 x' e' g' base' hne h3' hg'
  · rcases hm x e hx with ⟨rfl, rfl⟩ | ⟨h1, h2, h3⟩
    · simp only [if_true] at hg; exact hnofr g base hg
    · simp only [if_neg h1] at hg
      exact (R.nofr x e g base h3 ho hg).of (hkeep x e g base h2 h3 hg)
  · rcases hm x e hx with ⟨rfl, rfl⟩ | ⟨h1, h2, h3⟩
    · cases ho
    · simp only [if_neg h1] at hg
      exact R.shr x e g base h3 ho hg
  · rw [hsz]
    rcases hm x e hx with ⟨rfl, rfl⟩ | ⟨h1, h2, h3⟩
    · simp only [if_true] at hg
      exact R.bnd b _ g base he hg
    · simp only [if_neg h1] at hg
      exact R.bnd x e g base h3 hg
  · rcases hm x _ hx with ⟨rfl, h0⟩ | ⟨h1, h2, h3⟩
    · simp only [Ent.mk.injEq] at h0
      exact absurd h0.2.symm (rows_nomap hr kk vk es)
    · simp only [if_neg h1] at hg
      obtain ⟨ents, clock, k1, k2⟩ := R.maps x o kk vk es g base h3 hg
      exact ⟨ents, clock, (hkeep x _ g base h2 h3 hg).trans k1, k2⟩
  · obtain ⟨k1, k2, k3⟩ := R.zok g hzg
    refine ⟨by rw [hsz]; exact k1, k2, fun x e base hx ho hg => ?_⟩
    rcases hm x e hx with ⟨rfl, rfl⟩ | ⟨h1, h2, h3⟩
    · simp only [if_true] at hg; exact k3 b _ base he rfl hg
    · simp only [if_neg h1] at hg; exact k3 x e base h3 ho hg
/-- A draw is not seen. -/
theorem Mem.drew {m : MM} {rt : List Nat} (M : Mem A w0 F γ m rt w) : MStep F γ m w F γ m w.drew ∧ Mem A w0 F γ m rt w.drew :=
  have ms : MStep F γ m w F γ m w.drew := ⟨fun _ h => h, fun _ _ => rfl, fun b e _ h => ⟨e, h, rfl, rfl, rfl, fun _ _ h => h⟩, fun g cs t h => ⟨cs, t, h, Nat.le_refl _⟩, fun _ h => h, fun _ _ => rfl⟩
  ⟨ms, M.below.drew, fun b e h => ⟨(M.memr b e h).1, (M.memr b e h).2.step ms rfl fun _ _ _ => rfl⟩, M.own, fun b e g base h ho hg => (M.nofr b e g base h ho hg).of rfl, M.shr, M.bnd, M.maps, M.zok, M.rts⟩
theorem Rel.drew (R : Rel A w0 F γ s a w) : Rel A w0 F γ s a w.drew :=
  { R.toMem.drew.2 with defers := R.defers, size := R.size, slots := fun t => (R.slots t).step R.toMem.drew.1 }
end
end Go.Proofs.Ytmmaechogibodaa.Vm
