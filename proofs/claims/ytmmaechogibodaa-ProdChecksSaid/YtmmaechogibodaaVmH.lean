/- Each operation of the abstract interpreter is what the model does: slices built, cut, measured, grown. Conditions: none here. -/
import Derived.Test.YtmmaechogibodaaVmG
set_option linter.unusedVariables false
set_option linter.unusedSimpArgs false
namespace Go.Proofs.Ytmmaechogibodaa.Vm
open Go Go.RowKit

section
variable {P : Program} {A : Ctx} {w0 : World} {F : NS} {γ : GM} {s : St} {a : Act} {w : World}
theorem fill_seq (m : Nat) : ∀ (ps : List (Nat × Value)) (q : Nat) (C : Array Value), (∀ (j : Nat) (x : Nat × Value), ps[j]? = some x → x.1 = q + j ∧ x.2.cells.size = m) → (q + ps.length) * m ≤ C.size →
    ∃ C', Instr.fill (fun i => some (i * m, m)) C ps = some C' ∧ C'.size = C.size ∧ ∀ k : Nat, C'[k]? = if q * m ≤ k ∧ k < (q + ps.length) * m then (ps.flatMap fun x => x.2.cells.toList)[k - q * m]? else C[k]?
  | [], q, C, _, _ => ⟨C, rfl, rfl, fun k => by rw [if_neg (by simp)]⟩
  | (i, v) :: ps, q, C, h, hf => by
    obtain ⟨h1, h2⟩ := h 0 (i, v) rfl
    simp only [Nat.add_zero] at h1 h2
    subst h1
    have hf' : i * m + m ≤ C.size := by
      have : (i + 1) * m ≤ (i + ((i, v) :: ps).length) * m := Nat.mul_le_mul_right _ (by simp <;> omega)
      rw [Nat.succ_mul] at this; omega
    rw [fill_cons _ C i v ps rfl h2 (by omega)]
    have hsz : (C.toList.take (i * m) ++ v.cells.toList ++ C.toList.drop (i * m + v.cells.size)).toArray.size = C.size := by simp; omega
    obtain ⟨C', k1, k2, k3⟩ := fill_seq m ps (i + 1) (C.toList.take (i * m) ++ v.cells.toList ++ C.toList.drop (i * m + v.cells.size)).toArray
      (fun j x hx => by have := h (j + 1) x (by simpa using hx); exact ⟨by omega, this.2⟩) (by rw [hsz]; simp at hf; rw [show i + 1 + ps.length = i + (ps.length + 1) by omega]; exact hf)
    refine ⟨C', k1, k2.trans hsz, fun k => ?_⟩
    have hg : (C.toList.take (i * m) ++ v.cells.toList ++ C.toList.drop (i * m + v.cells.size)).toArray[k]? = if i * m ≤ k ∧ k < i * m + v.cells.size then v.cells[k - i * m]? else C[k]? := by
      have := seg_get C (i * m) v.cells.toList (by simpa using (by omega : i * m + v.cells.size ≤ C.size)) k
      simpa using this
    rw [k3 k, hg, h2]
    have e1 : (i + 1) * m = i * m + m := Nat.succ_mul i m
    have e2 : (i + 1 + ps.length) * m = (i + ((i, v) :: ps).length) * m := by rw [List.length_cons]; congr 1; omega
    rw [e2, e1, List.flatMap_cons]
    by_cases c1 : i * m + m ≤ k ∧ k < (i + ((i, v) :: ps).length) * m
    · rw [if_pos c1, if_pos ⟨by omega, c1.2⟩, List.getElem?_append_right (by simp; omega)]
      congr 1
      simp; omega
    · rw [if_neg c1]
      by_cases c2 : i * m ≤ k ∧ k < i * m + m
      · rw [if_pos c2, if_pos ⟨c2.1, by
          have : (i + 1) * m ≤ (i + ((i, v) :: ps).length) * m := Nat.mul_le_mul_right _ (by simp <;> omega)
          omega⟩, List.getElem?_append_left (by simp; omega)]
        simp
      · rw [if_neg c2, if_neg (by omega)]
theorem rowL_spec (R : Rel A w0 F γ s a w) (k : IntKind) : ∀ (ps : List (Nat × Operand)) (q : Nat) (r : List Int), rowL k s.ev ps q = some r →
    (∀ (j : Nat) (x : Nat × Value), (ps.map fun x => (x.1, a.eval x.2))[j]? = some x → x.1 = q + j ∧ x.2.cells.size = 1) ∧ r.length = ps.length ∧ (ps.map fun x => (x.1, a.eval x.2)).flatMap (fun x => x.2.cells.toList) = r.map (.int k)
  | [], q, r, h => by simp only [rowL, Option.some.injEq] at h; subst h; exact ⟨fun j x hx => by simp at hx, rfl, rfl⟩
  | (i, x) :: ps, q, r, h => by
    simp only [rowL] at h
    split at h
    · rename_i e; subst e
      split at h
      · rename_i k' v hx
        have hv := ev_int R hx
        split at h
        · rename_i e; subst e
          split at h
          · rename_i r' hr
            obtain rfl := Option.some.inj h
            obtain ⟨i1, i2, i3⟩ := rowL_spec R k ps (i + 1) r' hr
            refine ⟨fun j y hy => ?_, by simp [i2], ?_⟩
            · cases j with
              | zero => simp only [List.map_cons, List.getElem?_cons_zero, Option.some.injEq] at hy; subst hy; exact ⟨rfl, by rw [hv]; rfl⟩
              | succ j => have := i1 j y (by simpa using hy); exact ⟨by omega, this.2⟩
            · rw [List.map_cons, List.flatMap_cons, i3, hv]; rfl
          · cases h
        · cases h
      · cases h
    · cases h
theorem all2_vals {m : MM} : ∀ (l V : List Value), All2 (RelC F γ m w) (l.map .val) V → V = l
  | [], [], _ => rfl
  | v :: l, V :: Vs, h => by rw [all2_vals l Vs h.2]; exact congrArg (· :: l) h.1
  | [], V :: Vs, h => h.elim
  | v :: l, [], h => h.elim
theorem recL_spec (R : Rel A w0 F γ s a w) (ks : List IntKind) : ∀ (ps : List (Nat × Operand)) (q : Nat) (r : List (List Int)), recL ks s.ev ps q = some r →
    (∀ (j : Nat) (x : Nat × Value), (ps.map fun x => (x.1, a.eval x.2))[j]? = some x → x.1 = q + j ∧ x.2.cells.size = ks.length) ∧ r.length = ps.length ∧ (ps.map fun x => (x.1, a.eval x.2)).flatMap (fun x => x.2.cells.toList) = r.flatMap fun r => valsI ks r 0
  | [], q, r, h => by simp only [recL, Option.some.injEq] at h; subst h; exact ⟨fun j x hx => by simp at hx, rfl, rfl⟩
  | (i, x) :: ps, q, r, h => by
    simp only [recL] at h
    split at h
    · rename_i e; subst e
      split at h
      · rename_i vs hx
        have hv := R.ev x
        rw [hx] at hv
        obtain ⟨cs, hv, hc⟩ := hv
        split at h
        · rename_i r0 hr0
          split at h
          · rename_i r' hr
            obtain rfl := Option.some.inj h
            have e1 := intsV_of ks vs r0 [] hr0
            simp only [List.nil_append, List.length_nil] at e1
            rw [← e1, intsV_vals] at hc
            have e2 := all2_vals _ _ hc
            obtain ⟨i1, i2, i3⟩ := recL_spec R ks ps (i + 1) r' hr
            have e3 : (a.eval x).cells.toList = valsI ks r0 0 := by rw [hv]; exact e2
            refine ⟨fun j y hy => ?_, by simp [i2], ?_⟩
            · cases j with
              | zero => simp only [List.map_cons, List.getElem?_cons_zero, Option.some.injEq] at hy; subst hy; exact ⟨rfl, by have := congrArg List.length e3; rw [valsI_len] at this; simpa using this⟩
              | succ j => have := i1 j y (by simpa using hy); exact ⟨by omega, this.2⟩
            · rw [List.map_cons, List.flatMap_cons, i3, e3, List.flatMap_cons]
          · cases h
        · cases h
      · cases h
    · cases h
theorem flatten_get {α : Type} {n : Nat} : ∀ {rows : List (List α)}, (∀ r ∈ rows, r.length = n) → ∀ (i j : Nat), j < n → rows.flatten[i * n + j]? = rows[i]?.bind fun r => r[j]?
  | [], _, i, j, _ => by simp
  | r :: rows, h, i, j, hj => by
    have hr := h r (by simp)
    rw [List.flatten_cons]
    cases i with
    | zero => rw [Nat.zero_mul, Nat.zero_add, List.getElem?_append_left (by omega)]; simp
    | succ i =>
      rw [List.getElem?_append_right (by rw [hr, Nat.succ_mul]; omega), hr, show (i + 1) * n + j - n = i * n + j by rw [Nat.succ_mul]; omega, flatten_get (fun r hr => h r (by simp [hr])) i j hj]
      simp
theorem flatten_len {α : Type} {n : Nat} : ∀ {rows : List (List α)}, (∀ r ∈ rows, r.length = n) → rows.flatten.length = rows.length * n
  | [], _ => by simp
  | r :: rows, h => by rw [List.flatten_cons, List.length_append, h r (by simp), flatten_len fun r hr => h r (by simp [hr]), List.length_cons, Nat.succ_mul]; omega
/-- Rows of data stand in rows of values. -/
theorem cellsOf_grow {m : MM} {l : List Sh} {xs : List (List D)} {rows : List (List Value)} (hl : rows.length = xs.length) (h : ∀ (i : Nat) (r : List Value) (d : List D), rows[i]? = some r → xs[i]? = some d → r.length = l.length ∧ DeepR F.z w l d fun j => r[j]?) : CellsOf F γ m w (.grow l xs) rows.flatten := by
  have hrl : ∀ r ∈ rows, r.length = l.length := fun r hr => by
    obtain ⟨i, hi, rfl⟩ := List.mem_iff_getElem.1 hr
    exact (h i rows[i] xs[i] (List.getElem?_eq_getElem hi) (List.getElem?_eq_getElem (by omega))).1
  refine ⟨rfl, by rw [flatten_len hrl]; simp [Blk.len, Blk.n, len_eq, hl], fun i j c hc => ?_⟩
  have hj := ((at_rows (blk := .grow l xs) rfl).1 i j c hc).1
  simp only [Blk.n, len_eq] at hj ⊢
  simp only [Blk.at] at hc
  split at hc
  · rename_i hi
    rw [flatten_get hrl i j hj, List.getElem?_eq_getElem (by omega)]
    have hn : nth [] xs i = xs[i] := by rw [nth_eq, List.getD_eq_getElem?_getD, List.getElem?_eq_getElem hi]; rfl
    rw [hn, dtsL_get, List.getElem?_eq_getElem hj, Nat.zero_add] at hc
    obtain rfl := Option.some.inj hc
    obtain ⟨V, k1, k2⟩ := (h i rows[i] xs[i] (List.getElem?_eq_getElem (by omega)) (List.getElem?_eq_getElem hi)).2 j l[j] (List.getElem?_eq_getElem hj)
    exact ⟨V, by simpa using k1, k2⟩
  · cases hc
theorem growL_rows (R : Rel A w0 F γ s a w) (l : List Sh) : ∀ (ps : List (Nat × Operand)) (q : Nat) (r : List (List D)), growL s.mem l s.ev ps q = some r →
    (∀ (j : Nat) (x : Nat × Value), (ps.map fun x => (x.1, a.eval x.2))[j]? = some x → x.1 = q + j ∧ x.2.cells.size = l.length) ∧ r.length = ps.length ∧
      ∀ (i : Nat) (v : List Value) (d : List D), (ps.map fun x => (a.eval x.2).cells.toList)[i]? = some v → r[i]? = some d → v.length = l.length ∧ DeepR F.z w l d fun j => v[j]?
  | [], q, r, h => by simp only [growL, Option.some.injEq] at h; subst h; exact ⟨fun j x hx => by simp at hx, rfl, fun i v d hv => by simp at hv⟩
  | (i, x) :: ps, q, r, h => by
    simp only [growL] at h
    split at h
    · rename_i e; subst e
      split at h
      · rename_i p hx
        have hv := R.ev x
        rw [hx] at hv
        split at h
        · rename_i ds hok hds
          split at h
          · rename_i r' hr
            obtain rfl := Option.some.inj h
            obtain ⟨c1, c2⟩ := cells_rel hv hok
            obtain ⟨d1, d2, d3⟩ := toDs_deep R.toMem hds c1
            obtain ⟨i1, i2, i3⟩ := growL_rows R l ps (i + 1) r' hr
            refine ⟨fun j y hy => ?_, by simp [i2], fun k v d hv hd => ?_⟩
            · cases j with
              | zero => simp only [List.map_cons, List.getElem?_cons_zero, Option.some.injEq] at hy; subst hy; exact ⟨rfl, by simpa using d2⟩
              | succ j => have := i1 j y (by simpa using hy); exact ⟨by omega, this.2⟩
            · cases k with
              | zero =>
                simp only [List.map_cons, List.getElem?_cons_zero, Option.some.injEq] at hv hd
                subst hv; subst hd
                exact ⟨d2, d3⟩
              | succ k => exact i3 k v d (by simpa using hv) (by simpa using hd)
          · cases h
        · cases h
      · cases h
    · cases h
theorem growL_spec (R : Rel A w0 F γ s a w) (l : List Sh) (ps : List (Nat × Operand)) (q : Nat) (r : List (List D)) (h : growL s.mem l s.ev ps q = some r) :
    (∀ (j : Nat) (x : Nat × Value), (ps.map fun x => (x.1, a.eval x.2))[j]? = some x → x.1 = q + j ∧ x.2.cells.size = l.length) ∧ r.length = ps.length ∧ CellsOf F γ s.mem w (.grow l r) ((ps.map fun x => (x.1, a.eval x.2)).flatMap fun x => x.2.cells.toList) := by
  obtain ⟨h1, h2, h3⟩ := growL_rows R l ps q r h
  refine ⟨h1, h2, ?_⟩
  have := cellsOf_grow (F := F) (γ := γ) (m := s.mem) (w := w) (l := l) (xs := r) (rows := ps.map fun x => (a.eval x.2).cells.toList) (by simp [h2]) h3
  rw [List.flatMap_def, List.map_map]
  exact this
/-- Blocks frozen, and then an operation. -/
theorem Sim.frozen {F1 : NS} (hF : F1.f = F.f) {nid : Nat} {o : Oper} {v : SV} {u upd : List (Nat × Option Ent)} (h : Sim P A w0 F1 γ nid { s with mem := updM s.mem u } o ⟨v, upd⟩ a w) : Sim P A w0 F γ nid s o ⟨v, u ++ upd⟩ a w := fun K Q hK => by
  have e : s.app o.dst ⟨v, u ++ upd⟩ = St.app { s with mem := updM s.mem u } o.dst ⟨v, upd⟩ := by simp only [St.app, updM_append]
  refine h K Q fun V w' F' γ' R' hF' hx => hK V w' F' γ' (by rw [e]; exact R') (fun b hb => by have := hF' b hb; rwa [hF] at this) ⟨fun b hb => hx.1 b (by rw [hF]; exact hb), fun b hb => hx.2 b (by rw [hF]; exact hb)⟩
/-- A slice literal, of members that are told one by one. -/
theorem buildSlice_run {o : Oper} {t e : TypeId} {n : Nat} {parts : Array (Nat × Operand)} {ek : EK} {blk : Blk} (R : Rel A w0 F γ s a w) {nid : Nat} (hf : ∀ q, nid ≤ q → q < nid + 64 → ¬ F q) (ho : o.op = .buildSlice t n parts) (he : elemT P t = some e) (hek : elemK P e = some ek)
    (hn : parts.toList.length = n) (hN : n * ek.n ≤ 16777216) {Vs : List Value} (hr : CellsOf F γ s.mem w blk Vs) (hbn : blk.n = ek.n) (hbl : blk.len = n)
    (hps : ∀ (j : Nat) (x : Nat × Value), (parts.toList.map fun x => (x.1, a.eval x.2))[j]? = some x → x.1 = 0 + j ∧ x.2.cells.size = ek.n)
    (hv : (parts.toList.map fun x => (x.1, a.eval x.2)).flatMap (fun x => x.2.cells.toList) = Vs) :
    Sim P A w0 F γ nid s o ⟨.pv (.one (.slf nid)), [(nid, some ⟨true, blk⟩)]⟩ a w := by
  obtain ⟨i, z, hi, hz, hzc, hsz, hb, hb0, hpos, _⟩ := elemK_spec hek
  have hss : ∀ W, (sizeOf e).run P W = .ok ek.n W := fun W => by simp [sizeOf, sInfo hi, hsz]
  obtain ⟨C', k1, k2, k3⟩ := fill_seq ek.n (parts.toList.map fun x => (x.1, a.eval x.2)) 0 ((Array.range (n * ek.n)).map fun x => (if n * ek.n = 0 then #[] else z.cells)[x % (if n * ek.n = 0 then #[] else z.cells).size]!) hps (by simp at hn; simp [hn])
  simp only [Nat.zero_mul, Nat.zero_add, Nat.zero_le, true_and, List.length_map, hn, Nat.sub_zero] at k2 k3
  have hC : C'.toList = Vs := by
    apply List.ext_getElem?
    intro k
    have := k3 k
    have hvl := hr.2.1
    rw [hbl, hbn] at hvl
    simp only [Array.getElem?_toList]
    rw [this]
    by_cases hk : k < n * ek.n
    · rw [if_pos hk, hv]
    · rw [if_neg hk, List.getElem?_eq_none (by omega)]
      simp [hk]
  refine Sim.newRow R hf (cs := C') (t := e) (cap := n) hr ?_ (fun f v h => by rw [← hC] at h; simpa using h) (by omega) (by have := congrArg List.length hC; rw [hr.2.1, hbl, hbn] at this; simp at this; rw [hbn]; omega)
  have hp : (parts.map fun x => (x.1, a.eval x.2)).toList = parts.toList.map fun x => (x.1, a.eval x.2) := by simp
  have hgt : ¬ n * ek.n > 2 ^ 24 := by omega
  simp only [execOp, ho, Instr.buildSlice, Sem.run_bind, run_underlying (elemT_spec he), Result.andThen_ok, hss, hgt, if_false, hbl]
  by_cases h0 : n * ek.n = 0
  · simp only [h0, if_true] at k1 ⊢
    simp only [Sem.run_bind, Sem.run_pure, Result.andThen_ok, hp, k1, Go.newRow, run_newObj]
    simp
  · simp only [h0, if_false] at k1 ⊢
    simp only [Sem.run_bind, zeroValue, sInfo hi, hz, Sem.run_pure, Result.andThen_ok, hp, k1, Go.newRow, run_newObj]
    simp
theorem ok_buildSlice (R : Rel A w0 F γ s a w) {nid : Nat} (hf : ∀ q, nid ≤ q → q < nid + 64 → ¬ F q) {o : Oper} {out : Out} {t : TypeId} {n : Nat} {parts : Array (Nat × Operand)} (ho : o.op = .buildSlice t n parts) (h : (exBuildSlice P s.ev s.mem nid t n parts).den = some out) : Sim P A w0 F γ nid s o out a w := by
  unfold exBuildSlice at h
  split at h
  · rename_i hc
    obtain ⟨hn, hn'⟩ := hc
    rw [len_eq] at hn
    split at h
    · rename_i e he
      split at h
      · rename_i k hek
        split at h
        · rename_i r hr
          simp only [T.den, Option.some.injEq] at h
          subst h
          obtain ⟨i1, i2, i3⟩ := rowL_spec R k _ 0 r hr
          exact buildSlice_run R hf ho he hek hn (by simp [EK.n]; omega) (cellsOf_row _ _ _ _ k r) rfl (by simp [Blk.len]; omega) (by simpa [EK.n] using i1) i3
        · exact (den_fail h).elim
      · rename_i ks hek
        split at h
        · rename_i r hr hd
          have hd : n * len ks ≤ 16777216 := of_decide_eq_true hd
          simp only [T.den, Option.some.injEq] at h
          subst h
          obtain ⟨i1, i2, i3⟩ := recL_spec R ks _ 0 r hr
          exact buildSlice_run R hf ho he hek hn hd (cellsOf_recs _ _ _ _ ks r) rfl (by simp [Blk.len]; omega) (by simpa [EK.n, len_eq] using i1) i3
        · exact (den_fail h).elim
      · rename_i l hek
        split at h
        · rename_i r hr hd
          have hd : n * len l ≤ 16777216 := of_decide_eq_true hd
          simp only [T.den, Option.some.injEq] at h
          subst h
          obtain ⟨F', r1, r2, r3⟩ := R.frz (growFr l s.ev parts.toList)
          obtain ⟨i1, i2, i3⟩ := growL_spec r3 l _ 0 r hr
          refine Sim.frozen r1 (buildSlice_run (Vs := (parts.toList.map fun x => (x.1, a.eval x.2)).flatMap fun x => x.2.cells.toList) r3 (fun q h1 h2 => by rw [r1]; exact hf q h1 h2) ho he hek hn hd i3 rfl (by simp [Blk.len]; omega) (by simpa [EK.n, len_eq] using i1) rfl)
        · exact (den_fail h).elim
      · exact (den_fail h).elim
    · exact (den_fail h).elim
  · exact (den_fail h).elim
theorem bound_int (R : Rel A w0 F γ s a w) {d l : Int} {x : Option Operand} (h : boundV s.ev d x = some l) : (x = none ∧ l = d) ∨ ∃ y k, x = some y ∧ a.eval y = .int k l := by
  cases x with
  | none => simp only [boundV, Option.some.injEq] at h; exact .inl ⟨rfl, h.symm⟩
  | some y =>
    right
    simp only [boundV] at h
    split at h
    · rename_i k v hy
      obtain rfl := Option.some.inj h
      exact ⟨y, k, rfl, ev_int R hy⟩
    · cases h
theorem bounds_run (R : Rel A w0 F γ s a w) {b : Bool} {n cap : Nat} {lo hi : Option Operand} {l h : Int} (hl : boundV s.ev 0 lo = some l) (hh : boundV s.ev (n : Int) hi = some h) (h0 : 0 ≤ l) (h1 : l ≤ h) (h2 : h ≤ (n : Int)) (hc : n ≤ cap) (W : World) :
    (Instr.sliceBounds b n cap (lo.map a.eval) (hi.map a.eval) none).run P W = .ok (l.toNat, h.toNat, cap) W := by
  unfold Instr.sliceBounds
  rcases bound_int R hl with ⟨rfl, rfl⟩ | ⟨y, k, rfl, hy⟩ <;> rcases bound_int R hh with ⟨rfl, rfl⟩ | ⟨y', k', rfl, hy'⟩
  · simp
  · simp [Instr.sliceBound, asIntOf, hy', show (0 : Int) ≤ h by omega, show h ≤ (cap : Int) by omega]
  · simp [Instr.sliceBound, asIntOf, hy, h0, h1]
  · have e : l ≤ (h.toNat : Int) := by omega
    simp [Instr.sliceBound, asIntOf, hy, hy', h0, e, show (0 : Int) ≤ h by omega, show h ≤ (cap : Int) by omega]
    intro c; omega
theorem slc_sub {b off l n : Nat} {V : Value} {W : World} {x y : Nat} (h : slcOk γ W b off l n V) (hxy : x ≤ y) (hy : y ≤ l) : ∃ a0 cap, V = .slice a0 l cap ∧ l ≤ cap ∧ slcOk γ W b (off + x) (y - x) n (.slice (if cap = x then a0 else a0.map (·.add (x * n))) (y - x) (cap - x)) := by
  rcases h with ⟨rfl, a0, rfl⟩ | ⟨g, base, cap, h1, rfl, h3, cs, t, h4, h5⟩
  · obtain rfl : y = 0 := by omega
    obtain rfl : x = 0 := by omega
    exact ⟨a0, 0, rfl, Nat.le_refl _, .inl ⟨rfl, a0, by simp⟩⟩
  · refine ⟨_, cap, rfl, h3, ?_⟩
    by_cases hc : cap = x
    · subst hc
      exact .inl ⟨by omega, some ⟨g, base + off * n, none⟩, by rw [if_pos rfl, show y - cap = 0 by omega, Nat.sub_self]⟩
    · refine .inr ⟨g, base, cap - x, h1, ?_, by omega, cs, t, h4, ?_⟩
      · simp [hc, addr_add, Nat.add_mul, Nat.add_assoc]
      · rw [show off + x + (cap - x) = off + cap by omega]; exact h5
theorem bounds_run' (R : Rel A w0 F γ s a w) {b : Bool} {n cap : Nat} {lo hi : Option Operand} {l h : Int} (hl : boundV s.ev 0 lo = some l) (hh : boundV s.ev (n : Int) hi = some h) (h0 : 0 ≤ l) (h1 : l ≤ h) (h2 : h ≤ (cap : Int)) (W : World) :
    (Instr.sliceBounds b n cap (lo.map a.eval) (hi.map a.eval) none).run P W = .ok (l.toNat, h.toNat, cap) W := by
  unfold Instr.sliceBounds
  rcases bound_int R hl with ⟨rfl, rfl⟩ | ⟨y, k, rfl, hy⟩ <;> rcases bound_int R hh with ⟨rfl, rfl⟩ | ⟨y', k', rfl, hy'⟩
  · simp
  · simp [Instr.sliceBound, asIntOf, hy', show (0 : Int) ≤ h by omega, h2]
  · simp [Instr.sliceBound, asIntOf, hy, h0, h1]
  · have e : l ≤ (h.toNat : Int) := by omega
    simp [Instr.sliceBound, asIntOf, hy, hy', h0, e, show (0 : Int) ≤ h by omega, h2]
    intro c; omega
theorem slc_sub' {b off l n N : Nat} {V : Value} {W : World} {x y : Nat} (h : slcOk γ W b off l n V) (hc : N ≤ off + capV V) (hxy : x ≤ y) (hy : off + y ≤ N) : ∃ a0 cap, V = .slice a0 l cap ∧ y ≤ cap ∧ slcOk γ W b (off + x) (y - x) n (.slice (if cap = x then a0 else a0.map (·.add (x * n))) (y - x) (cap - x)) ∧ N ≤ off + x + (cap - x) := by
  rcases h with ⟨rfl, a0, rfl⟩ | ⟨g, base, cap, h1, rfl, h3, cs, t, h4, h5⟩
  · have hc : N ≤ off + 0 := hc
    obtain rfl : y = 0 := by omega
    obtain rfl : x = 0 := by omega
    exact ⟨a0, 0, rfl, Nat.le_refl _, .inl ⟨rfl, a0, by simp⟩, by omega⟩
  · have hc : N ≤ off + cap := hc
    refine ⟨_, cap, rfl, by omega, ?_, by omega⟩
    by_cases hc : cap = x
    · subst hc
      exact .inl ⟨by omega, some ⟨g, base + off * n, none⟩, by rw [if_pos rfl, show y - cap = 0 by omega, Nat.sub_self]⟩
    · refine .inr ⟨g, base, cap - x, h1, ?_, by omega, cs, t, h4, ?_⟩
      · simp [hc, addr_add, Nat.add_mul, Nat.add_assoc]
      · rw [show off + x + (cap - x) = off + cap by omega]; exact h5
theorem Deep.sub {z : Nat → Prop} {l : List Sh} {xs : List (List D)} {V : Value} {x y : Nat} (h : Deep z w (.sl l) (.l xs) V) (hxy : x ≤ y) (hy : y ≤ xs.length) :
    ∃ a0 cap, V = .slice a0 xs.length cap ∧ xs.length ≤ cap ∧ Deep z w (.sl l) (.l ((xs.drop x).take (y - x))) (.slice (if cap = x then a0 else a0.map (·.add (x * l.length))) (y - x) (cap - x)) := by
  cases h with
  | nil l a c =>
    obtain rfl : y = 0 := by simp at hy; omega
    obtain rfl : x = 0 := by omega
    exact ⟨a, c, rfl, by simp, by simpa using Deep.nil l _ _⟩
  | sl l xs g base cap cs t h1 h2 h3 h4 h5 =>
    refine ⟨_, cap, rfl, h3, ?_⟩
    by_cases h0 : y - x = 0
    · rw [h0, List.take_zero]; exact .nil _ _ _
    · have hc : ¬ cap = x := by omega
      have hlen : ((xs.drop x).take (y - x)).length = y - x := by simp; omega
      have hfit : base + x * l.length + (y - x) * l.length ≤ cs.size := by
        have : (x + (y - x)) * l.length ≤ xs.length * l.length := Nat.mul_le_mul_right _ (by omega)
        rw [Nat.add_mul] at this; omega
      have := Deep.sl (z := z) (w := w) l ((xs.drop x).take (y - x)) g (base + x * l.length) (cap - x) cs t h1 h2 (by omega) (by rw [hlen]; exact hfit) fun i j r sh V hr hs hV => by
        have hi : i < y - x := by have := (List.getElem?_eq_some_iff.1 hr).1; omega
        rw [List.getElem?_take, if_pos hi, List.getElem?_drop] at hr
        exact h5 (x + i) j r sh V hr hs (by rw [← hV]; congr 1; rw [Nat.add_mul]; omega)
      rw [hlen] at this
      simpa [hc, addr_add] using this
theorem ok_slice (R : Rel A w0 F γ s a w) {nid : Nat} {o : Oper} {out : Out} {t : TypeId} {x : Operand} {lo hi mx : Option Operand} (ho : o.op = .slice t x lo hi mx) (h : (exSlice P s.ev s.mem t (s.ev x) lo hi mx).den = some out) : Sim P A w0 F γ nid s o out a w := by
  have hx := R.ev x
  unfold exSlice at h
  split at h
  · rename_i S hp hu
    rw [hp] at hx
    have hx : a.eval x = .string S := hx
    split at h
    · rename_i l hh hl' hh'
      obtain ⟨hq, h⟩ := den_req h
      obtain ⟨hq, q3⟩ := req_and hq
      obtain ⟨q1, q2⟩ := req_and hq
      have q1 := of_decide_eq_true q1
      have q2 := of_decide_eq_true q2
      have q3 := of_decide_eq_true q3
      obtain rfl := den_ret1 h
      have hb := fun W => bounds_run (P := P) R (b := false) (cap := S.size) hl' hh' q1 q2 q3 (Nat.le_refl _) W
      refine Sim.look R (V := .string (S.extract l.toNat hh.toNat)) ?_ rfl
      simp [execOp, ho, hx, Instr.sliceAt, Instr.slice, run_underlying hu, hb]
    · exact (den_fail h).elim
  · rename_i b e hp hu
    rw [hp] at hx
    obtain ⟨x1, ⟨a0, l0, c0, x2⟩, x3⟩ := hx
    split at h
    · rename_i ent sz he hsz
      split at h
      · rename_i hn
        split at h
        · rename_i l hh hl' hh'
          obtain ⟨hq, h⟩ := den_req h
          obtain ⟨hq, q3⟩ := req_and hq
          obtain ⟨q1, q2⟩ := req_and hq
          have q1 := of_decide_eq_true q1
          have q2 := of_decide_eq_true q2
          have q3 := of_decide_eq_true q3
          obtain rfl := den_ret1 h
          obtain ⟨a1, cap, y1, y2, y3⟩ := slc_sub (x := l.toNat) (y := hh.toNat) (x3 ent he) (by omega) (by omega)
          have hb := fun W => bounds_run (P := P) R (b := true) (cap := cap) hl' hh' q1 q2 q3 y2 W
          refine Sim.look R (V := .slice (if cap = l.toNat then a1 else a1.map (·.add (l.toNat * sz))) (hh.toNat - l.toNat) (cap - l.toNat)) ?_ ⟨x1, ⟨_, _, _, rfl⟩, fun e' he' => ?_⟩
          · simp [execOp, ho, y1, Instr.sliceAt, Instr.slice, run_underlying hu, hb, sSize hsz]
          · rw [he] at he'; obtain rfl := Option.some.inj he'
            refine ⟨by omega, ?_, show _ ≤ l.toNat + (cap - l.toNat) by omega⟩
            rw [Nat.zero_add, hn] at y3
            rw [hn]; exact y3
        · exact (den_fail h).elim
      · exact (den_fail h).elim
    · exact (den_fail h).elim
  · rename_i b off n0 e hp hu
    rw [hp] at hx
    obtain ⟨x1, ⟨a0, l0, c0, x2⟩, x3⟩ := hx
    split at h
    · rename_i ent sz he hsz
      split at h
      · rename_i hn
        split at h
        · rename_i l hh hl' hh'
          obtain ⟨hq, h⟩ := den_req h
          obtain ⟨hq, q3⟩ := req_and hq
          obtain ⟨q1, q2⟩ := req_and hq
          have q1 := of_decide_eq_true q1
          have q2 := of_decide_eq_true q2
          have q3 := of_decide_eq_true q3
          obtain rfl := den_ret1 h
          obtain ⟨x4, x5, x6⟩ := x3 ent he
          obtain ⟨a1, cap, y1, y2, y3, y4⟩ := slc_sub' (x := l.toNat) (y := hh.toNat) x5 x6 (by omega) (by omega)
          have hb := fun W => bounds_run' (P := P) R (b := true) (cap := cap) hl' hh' q1 q2 (by omega) W
          refine Sim.look R (V := .slice (if cap = l.toNat then a1 else a1.map (·.add (l.toNat * sz))) (hh.toNat - l.toNat) (cap - l.toNat)) ?_ ⟨x1, ⟨_, _, _, rfl⟩, fun e' he' => ?_⟩
          · simp [execOp, ho, y1, Instr.sliceAt, Instr.slice, run_underlying hu, hb, sSize hsz]
          · rw [he] at he'; obtain rfl := Option.some.inj he'
            refine ⟨by omega, ?_, y4⟩
            rw [hn] at y3
            rw [hn]; exact y3
        · exact (den_fail h).elim
      · exact (den_fail h).elim
    · exact (den_fail h).elim
  · rename_i h0 xs e hp hu
    rw [hp] at hx
    split at h
    · rename_i sz hsz
      split at h
      · rename_i hn
        rw [len_eq] at hn
        split at h
        · rename_i l hh hl' hh'
          obtain ⟨hq, h⟩ := den_req h
          obtain ⟨hq, q3⟩ := req_and hq
          obtain ⟨q1, q2⟩ := req_and hq
          have q1 := of_decide_eq_true q1
          have q2 := of_decide_eq_true q2
          have q3 := of_decide_eq_true q3
          obtain rfl := den_ret1 h
          obtain ⟨a1, cap, y1, y2, y3⟩ := Deep.sub (x := l.toNat) (y := hh.toNat) hx (by omega) (by omega)
          have hb := fun W => bounds_run (P := P) R (b := true) (cap := cap) hl' hh' q1 q2 q3 y2 W
          refine Sim.look R (V := .slice (if cap = l.toNat then a1 else a1.map (·.add (l.toNat * sz))) (hh.toNat - l.toNat) (cap - l.toNat)) ?_ (by rw [← hn]; exact y3)
          simp [execOp, ho, y1, Instr.sliceAt, Instr.slice, run_underlying hu, hb, sSize hsz]
        · exact (den_fail h).elim
      · exact (den_fail h).elim
    · exact (den_fail h).elim
  · exact (den_fail h).elim
theorem slc_len {b off l n : Nat} {V : Value} {W : World} (h : slcOk γ W b off l n V) : ∃ a0 cap, V = .slice a0 l cap := by
  rcases h with ⟨rfl, a0, rfl⟩ | ⟨g, base, cap, h1, rfl, _⟩
  · exact ⟨a0, 0, rfl⟩
  · exact ⟨_, cap, rfl⟩
theorem ok_len (R : Rel A w0 F γ s a w) {nid : Nat} {o : Oper} {out : Out} {t : TypeId} {x : Operand} (ho : o.op = .call { callee := .builtin .len, args := ⟨[x]⟩, argTypes := ⟨[t]⟩ }) (h : (exLen P s.ev s.mem o t (s.ev x)).den = some out) : Sim P A w0 F γ nid s o out a w := by
  have hs : ∀ cs b, o.op ≠ .select cs b := fun cs b e => by rw [ho] at e; cases e
  have hx := R.ev x
  unfold exLen at h
  split at h
  · rename_i b e hp hu
    rw [hp] at hx
    split at h
    · rename_i ent he
      obtain rfl := den_int1 h
      obtain ⟨a0, cap, hv⟩ := slc_len (hx.2.2 ent he)
      refine Sim.look R (V := .int .i64 (ent.blk.len : Int)) ?_ rfl
      simp [execOp, ho, hv, resolve, invoke, builtin, Builtin.len_, run_underlying hu, goInt]
    · exact (den_fail h).elim
  · rename_i b off l e hp hu
    rw [hp] at hx
    split at h
    · rename_i ent he
      obtain rfl := den_int1 h
      obtain ⟨a0, cap, hv⟩ := slc_len (hx.2.2 ent he).2.1
      refine Sim.look R (V := .int .i64 (l : Int)) ?_ rfl
      simp [execOp, ho, hv, resolve, invoke, builtin, Builtin.len_, run_underlying hu, goInt]
    · exact (den_fail h).elim
  · rename_i h0 xs e hp hu
    rw [hp] at hx
    obtain rfl := den_int1 h
    obtain ⟨a0, cap, hv⟩ : ∃ a0 cap, a.eval x = .slice a0 xs.length cap := by
      have hx : Deep F.z w (.sl h0) (.l xs) (a.eval x) := hx
      generalize a.eval x = X at hx
      cases hx with
      | nil l a c => exact ⟨_, _, rfl⟩
      | sl l xs g base cap cs t h1 h2 h3 h4 h5 => exact ⟨_, _, rfl⟩
    refine Sim.look R (V := .int .i64 (xs.length : Int)) ?_ rfl
    simp [execOp, ho, hv, resolve, invoke, builtin, Builtin.len_, run_underlying hu, goInt]
  · exact ok_pure R hs h
end
end Go.Proofs.Ytmmaechogibodaa.Vm
