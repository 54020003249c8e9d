/- Each operation of the abstract interpreter is what the model does: slices made, cut, measured, grown. Conditions: none here. -/
import Derived.Test.YtoibhkhgpahdjaaVmF
set_option linter.unusedVariables false
set_option linter.unusedSimpArgs false
namespace Go.Proofs.Ytoibhkhgpahdjaa.Vm
open Go Go.RowKit

section
variable {P : Program} {A : Nat → Prop} {w0 : World} {F : Nat → Prop} {γ : GM} {s : St} {a : Act} {w : World}
theorem elemT_spec {t e : TypeId} (h : elemT P t = some e) : P.underlying t = some (.slice e) := by
  unfold elemT at h
  split at h
  · rename_i e' hu; obtain rfl := Option.some.inj h; exact hu
  · cases h
def zerosE : EK → List Value
  | .one k => [.int k 0]
  | .recs ks => ks.map (.int · 0)
theorem zerosE_len (ek : EK) : (zerosE ek).length = ek.n := by cases ek <;> simp [zerosE, EK.n, len_eq]
theorem kinds0_spec : ∀ (l : List Value) (ks : List IntKind), kinds0 l = some ks → l = ks.map (.int · 0)
  | [], ks, h => by simp only [kinds0, Option.some.injEq] at h; subst h; rfl
  | v :: l, ks, h => by
    cases v with
    | int k z =>
      simp only [kinds0] at h
      split at h
      · rename_i e; subst e
        split at h
        · rename_i r hr
          obtain rfl := Option.some.inj h
          simp [kinds0_spec l r hr]
        · cases h
      · cases h
    | _ => simp [kinds0] at h
/-- A type of numbers, or of structs of numbers. -/
theorem elemK_spec {e : TypeId} {ek : EK} (h : elemK P e = some ek) : ∃ i z, P.info? e = some i ∧ i.zero = some z ∧ z.cells.toList = zerosE ek ∧ i.size = ek.n ∧ i.bytes ≤ 16 ∧ i.bytes ≠ 0 ∧ 0 < ek.n := by
  unfold elemK at h
  split at h
  · rename_i i hi
    split at h
    · rename_i hb
      split at h
      · rename_i k z hz
        split at h
        · rename_i hc
          obtain ⟨rfl, h1⟩ := hc
          obtain rfl := Option.some.inj h
          exact ⟨i, _, hi, hz, rfl, h1, hb.1, hb.2, Nat.one_pos⟩
        · cases h
      · rename_i cs hz
        split at h
        · rename_i ks hk
          split at h
          · rename_i hc
            obtain rfl := Option.some.inj h
            exact ⟨i, _, hi, hz, kinds0_spec _ _ hk, hc.1, hb.1, hb.2, Nat.pos_of_ne_zero hc.2⟩
          · cases h
        · cases h
      · cases h
    · cases h
  · cases h
theorem zeroB_row (n : Nat) (ek : EK) : (zeroB n ek).isRow = true ∧ (zeroB n ek).len = n ∧ (zeroB n ek).n = ek.n := by
  cases ek <;> simp [zeroB, Blk.isRow, Blk.len, Blk.n, EK.n, len_eq]
theorem valsI_zero (ks : List IntKind) : ∀ (n j : Nat), valsI ks (List.replicate n 0) j = ks.map (.int · 0) := by
  induction ks with
  | nil => intros; rfl
  | cons k ks ih =>
    intro n j
    simp only [valsI, ih, List.map_cons, nth_eq]
    congr 2
    simp only [List.getD_eq_getElem?_getD, List.getElem?_replicate]
    split <;> rfl
theorem zeroB_vals (n : Nat) (ek : EK) (f : Nat) (v : Value) (h : (vals (zeroB n ek))[f]? = some v) : f < n * ek.n ∧ (zerosE ek)[f % ek.n]? = some v := by
  have hl := (List.getElem?_eq_some_iff.1 h).1
  rw [vals_len (zeroB_row n ek).1, (zeroB_row n ek).2.1, (zeroB_row n ek).2.2] at hl
  refine ⟨hl, ?_⟩
  cases ek with
  | one k =>
    simp only [zeroB, vals, List.map_replicate, List.getElem?_replicate] at h
    split at h
    · obtain rfl := Option.some.inj h; simp [zerosE, EK.n, Nat.mod_one]
    · cases h
  | recs ks =>
    simp only [EK.n, len_eq] at hl ⊢
    have hpos : 0 < ks.length := by
      rcases Nat.eq_zero_or_pos ks.length with h0 | h0
      · rw [h0] at hl; omega
      · exact h0
    have hi : f / ks.length < n := Nat.div_lt_of_lt_mul (by rw [Nat.mul_comm]; exact hl)
    simp only [zeroB, vals] at h
    rw [show f = f / ks.length * ks.length + f % ks.length by rw [Nat.div_add_mod' f ks.length], flat_get _ ks.length (fun r => valsI_len ks r 0) _ _ _ (Nat.mod_lt f hpos)] at h
    simp only [List.getElem?_replicate, hi, if_true, Option.bind_some, valsI_zero] at h
    exact h
theorem zerosCells (z : Array Value) (N : Nat) (hz : 0 < z.size) (f : Nat) : ((Array.range N).map (fun x => z[x % z.size]!))[f]? = if f < N then z[f % z.size]? else none := by
  have hm := Nat.mod_lt f hz
  simp only [Array.getElem?_map, Array.getElem?_range]
  by_cases h : f < N
  · simp [h, getElem!_pos, hm, Array.getElem?_eq_getElem]
  · simp [h]
theorem wrap64_in {x : Int} (h0 : 0 ≤ x) (h1 : x ≤ 8796093022208) : IntKind.i64.wrap x = x := by
  simp only [IntKind.wrap, IntKind.bits]
  simp
  split <;> omega
/-- A new block, told as a slice that is all of it. -/
theorem Sim.newRow (R : Rel A w0 F γ s a w) {nid : Nat} (hf : ∀ q, nid ≤ q → q < nid + 64 → ¬ F q) {o : Oper} {blk : Blk} {cs : Array Value} {t : TypeId} {cap : Nat} (hr : blk.isRow = true)
    (h : (execOp a.eval o).run P w = .ok (.value (.slice (some ⟨w.heap.size, 0, none⟩) blk.len cap)) (w.alloc (.cells cs t))) (hv : ∀ (f : Nat) (v : Value), (vals blk)[f]? = some v → cs[f]? = some v) (hc : blk.len ≤ cap) (hs : cap * blk.n ≤ cs.size) :
    Sim P A w0 F nid s o ⟨.pv (.one (.slf nid)), [(nid, some ⟨true, blk⟩)]⟩ a w := by
  have hne : ∀ b, F b → b ≠ nid := fun b hb e => hf nid (Nat.le_refl _) (by omega) (e ▸ hb)
  refine Sim.value h (R.new hne o.dst (relB_flat hr fun f v hfv => ⟨w.heap.size, 0, cs, (t, (0, 0)), by simp [addG], heap_alloc_new w _, by simpa using hv f v hfv⟩) ?_) addN_bd
  refine ⟨.inr rfl, ⟨_, _, _, rfl⟩, fun e he => ?_⟩
  rw [updM_one, if_pos rfl] at he
  obtain rfl := Option.some.inj he
  exact .inr ⟨w.heap.size, 0, cap, by simp [addG], by simp, hc, cs, (t, (0, 0)), heap_alloc_new w _, by simpa using hs⟩
theorem ok_makeSlice (R : Rel A w0 F γ s a w) {nid : Nat} (hf : ∀ q, nid ≤ q → q < nid + 64 → ¬ F q) {o : Oper} {out : Out} {t : TypeId} {x y : Operand} (ho : o.op = .makeSlice t x y) (h : (exMakeSlice P nid t (s.ev x) (s.ev y)).den = some out) : Sim P A w0 F nid s o out a w := by
  unfold exMakeSlice at h
  split at h
  · rename_i k p k' q e hx hy he
    have hxv := ev_int R hx
    have hyv := ev_int R hy
    split at h
    · rename_i ek hek
      obtain ⟨hq, h⟩ := den_req h
      obtain ⟨hq, q3⟩ := req_and hq
      obtain ⟨q1, q2⟩ := req_and hq
      have q1 : 0 ≤ p := by simpa using q1
      have q2 : p ≤ q := by simpa using q2
      have q3 : q ≤ 8796093022208 := of_decide_eq_true q3
      simp only [T.den, Option.some.injEq] at h
      subst h
      obtain ⟨i, z, hi, hz, hzc, hsz, hb, hb0, hn⟩ := elemK_spec hek
      obtain ⟨r1, r2, r3⟩ := zeroB_row p.toNat ek
      have hzs : z.cells.size = ek.n := by have := congrArg List.length hzc; rw [zerosE_len] at this; simpa using this
      refine Sim.newRow R hf (cs := (Array.range (q.toNat * ek.n)).map fun x => z.cells[x % z.cells.size]!) (t := e) (cap := q.toNat) r1 ?_ ?_ (by rw [r2]; omega) (by rw [r3]; simp)
      · have hbq : ∀ c : Int, 0 ≤ c → c ≤ 8796093022208 → ¬ ((i.bytes : Int) * c > 2 ^ 48) := by
          intro c hc0 hc
          have h1 : (i.bytes : Int) * c ≤ 16 * c := Int.mul_le_mul_of_nonneg_right (by omega) hc0
          omega
        have e1 := wrap64_in q1 (by omega)
        have e2 := wrap64_in (Int.le_trans q1 q2) q3
        have e3 := hbq q (by omega) q3
        have hcond : (decide (q < 0) || decide ((i.bytes : Int) * q > 2 ^ 48) || decide (p < 0) || decide (p > q)) = false := by
          simp only [Bool.or_eq_false_iff, decide_eq_false_iff_not]; refine ⟨⟨⟨by omega, e3⟩, by omega⟩, by omega⟩
        have hcond' : ¬ (((q < 0 ∨ (i.bytes : Int) * q > 2 ^ 48) ∨ p < 0) ∨ p > q) := by
          rintro (((c | c) | c) | c)
          · omega
          · exact e3 c
          · omega
          · omega
        have hss : ∀ W, (sizeOf e).run P W = .ok ek.n W := fun W => by simp [sizeOf, sInfo hi, hsz]
        have hr0 : ∀ f : Nat → Value, (Array.range 0).map f = #[] := fun f => by apply Array.ext'; simp [Array.toList_range]
        rw [r2]
        by_cases hz0 : q.toNat = 0
        · have : q = 0 := by omega
          subst this
          have : p = 0 := by omega
          subst this
          simp [execOp, ho, hxv, hyv, Instr.makeSlice, run_underlying (elemT_spec he), asInt, asIntOf, sInfo hi, e1, Go.newRow, zeroValue, hss, hr0]
        · have hne : ¬ q.toNat * ek.n = 0 := by
            intro h0
            rcases Nat.mul_eq_zero.1 h0 with h1 | h1 <;> omega
          simp only [execOp, ho, hxv, hyv, Instr.makeSlice, Sem.run_bind, run_underlying (elemT_spec he), asInt, asIntOf, Sem.run_pure, Result.andThen_ok, sInfo hi, e1, e2]
          simp only [hcond, Bool.false_eq_true, if_false, Sem.run_bind, run_askRoom, Result.andThen_ok, hss, hne, zeroValue, sInfo hi, hz, Sem.run_pure, Go.newRow, run_newObj]
          simp
      · intro f v hfv
        obtain ⟨f1, f2⟩ := zeroB_vals _ _ _ _ hfv
        rw [zerosCells z.cells _ (by omega), if_pos, hzs]
        · rw [← hzc] at f2; simpa using f2
        · have : p.toNat * ek.n ≤ q.toNat * ek.n := Nat.mul_le_mul_right _ (by omega)
          omega
    · exact (den_fail h).elim
  · exact (den_fail h).elim
end
end Go.Proofs.Ytoibhkhgpahdjaa.Vm
