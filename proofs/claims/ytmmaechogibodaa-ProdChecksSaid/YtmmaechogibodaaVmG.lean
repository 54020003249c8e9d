/- Each operation of the abstract interpreter is what the model does: slices made, cut, measured, grown. Conditions: none here. -/
import Derived.Test.YtmmaechogibodaaVmF
set_option linter.unusedVariables false
set_option linter.unusedSimpArgs false
namespace Go.Proofs.Ytmmaechogibodaa.Vm
open Go Go.RowKit

section
variable {P : Program} {A : Ctx} {w0 : World} {F : NS} {γ : GM} {s : St} {a : Act} {w : World}
theorem elemT_spec {t e : TypeId} (h : elemT P t = some e) : P.underlying t = some (.slice e) := by
  unfold elemT at h
  split at h
  · rename_i e' hu; obtain rfl := Option.some.inj h; exact hu
  · cases h
def zeroV : Sh → Value
  | .int k => .int k 0
  | .bool => .bool false
  | .str => .string ⟨#[]⟩
  | .sl _ => .slice none 0 0
def zerosE : EK → List Value
  | .one k => [.int k 0]
  | .recs ks => ks.map (.int · 0)
  | .grow l => l.map zeroV
theorem zerosE_len (ek : EK) : (zerosE ek).length = ek.n := by cases ek <;> simp [zerosE, EK.n, len_eq]
theorem isZero_spec {h : Sh} {v : Value} (hz : isZero h v = true) : v = zeroV h := by
  unfold isZero at hz
  split at hz
  · split at hz
    · rename_i e; obtain ⟨rfl, rfl⟩ := e; rfl
    · cases hz
  · rfl
  · rfl
  · rfl
  · cases hz
theorem allZero_spec : ∀ {l : List Sh} {vs : List Value}, allEq2 isZero l vs = true → vs = l.map zeroV
  | [], [], _ => rfl
  | h :: l, v :: vs, hz => by
    simp only [allEq2] at hz
    split at hz
    · rename_i h1; rw [isZero_spec h1, allZero_spec hz]; rfl
    · cases hz
  | [], _ :: _, h => by simp [allEq2] at h
  | _ :: _, [], h => by simp [allEq2] at h
theorem zeroDs_get : ∀ (l : List Sh) (j : Nat) (h : Sh), l[j]? = some h → nth d0 (zeroDs l) j = zeroD h
  | [], j, h, hj => by simp at hj
  | x :: l, 0, h, hj => by simp at hj; subst hj; rfl
  | x :: l, j + 1, h, hj => by simp only [zeroDs, nth]; exact zeroDs_get l j h (by simpa using hj)
theorem zeroD_deep (z : Nat → Prop) (w : World) (h : Sh) : Deep z w h (zeroD h) (zeroV h) := by
  cases h with
  | int k => exact .int k 0
  | bool => exact .bool false
  | str => exact .str _
  | sl l => exact .nil _ _ _
theorem kinds0_spec : ∀ (l : List Value) (ks : List IntKind), kinds0 l = some ks → l = ks.map (.int · 0)
  | [], ks, h => by simp only [kinds0, Option.some.injEq] at h; subst h; rfl
  | v :: l, ks, h => by
    cases v with
    | int k z =>
      simp only [kinds0] at h
      split at h
      · rename_i e; subst e
        split at h
        · rename_i r hr
          obtain rfl := Option.some.inj h
          simp [kinds0_spec l r hr]
        · cases h
      · cases h
    | _ => simp [kinds0] at h
theorem growK_spec {e : TypeId} {size : Nat} {cs : List Value} {ek : EK} (h : growK P e size cs = some ek) : cs = zerosE ek ∧ size = ek.n ∧ 0 < ek.n := by
  unfold growK at h
  split at h
  · split at h
    · rename_i hz
      split at h
      · rename_i hc
        obtain rfl := Option.some.inj h
        exact ⟨allZero_spec hz, hc.1, Nat.pos_of_ne_zero hc.2⟩
      · cases h
    · cases h
  · cases h
theorem room_le {b n : Nat} (hb : b ≠ 0) (h : n ≤ room b) : b * n ≤ 140737488355328 := by
  unfold room at h
  split at h
  · rename_i h8
    subst h8
    omega
  split at h
  · rename_i h16
    have : b * n ≤ 16 * 8796093022208 := Nat.mul_le_mul h16 h
    omega
  · have h1 : b * n ≤ b * (140737488355328 / b) := Nat.mul_le_mul_left _ h
    have h2 := Nat.mul_div_le 140737488355328 b
    omega
/-- A type of numbers, of structs of numbers, or of what is told by its data. -/
theorem elemK_spec {e : TypeId} {ek : EK} (h : elemK P e = some ek) : ∃ i z, P.info? e = some i ∧ i.zero = some z ∧ z.cells.toList = zerosE ek ∧ i.size = ek.n ∧ i.bytes ≤ 128 ∧ i.bytes ≠ 0 ∧ 0 < ek.n ∧ roomT P e = room i.bytes := by
  unfold elemK at h
  split at h
  · rename_i i hi
    have hrm : roomT P e = room i.bytes := by unfold roomT; rw [hi]
    split at h
    · rename_i hb
      split at h
      · rename_i k z hz
        split at h
        · rename_i hc
          obtain ⟨rfl, h1⟩ := hc
          obtain rfl := Option.some.inj h
          exact ⟨i, _, hi, hz, rfl, h1, hb.1, hb.2, Nat.one_pos, hrm⟩
        · cases h
      · rename_i cs hz
        split at h
        · rename_i ks hk
          split at h
          · rename_i hc
            obtain rfl := Option.some.inj h
            exact ⟨i, _, hi, hz, kinds0_spec _ _ hk, hc.1, hb.1, hb.2, Nat.pos_of_ne_zero hc.2, hrm⟩
          · cases h
        · obtain ⟨k1, k2, k3⟩ := growK_spec h
          exact ⟨i, _, hi, hz, k1, k2, hb.1, hb.2, k3, hrm⟩
      · rename_i b hz
        obtain ⟨k1, k2, k3⟩ := growK_spec h
        exact ⟨i, _, hi, hz, k1, k2, hb.1, hb.2, k3, hrm⟩
      · rename_i b hz
        obtain ⟨k1, k2, k3⟩ := growK_spec h
        exact ⟨i, _, hi, hz, k1, k2, hb.1, hb.2, k3, hrm⟩
      · rename_i a' x y hz
        obtain ⟨k1, k2, k3⟩ := growK_spec h
        exact ⟨i, _, hi, hz, k1, k2, hb.1, hb.2, k3, hrm⟩
      · cases h
    · cases h
  · cases h
theorem zeroB_row (n : Nat) (ek : EK) : (zeroB n ek).isRows = true ∧ (zeroB n ek).len = n ∧ (zeroB n ek).n = ek.n := by
  cases ek <;> simp [zeroB, Blk.isRows, Blk.len, Blk.n, EK.n, len_eq]
theorem nth_rep0 (n i : Nat) : nth 0 (List.replicate n (0 : Int)) i = 0 := by
  rw [nth_eq, List.getD_eq_getElem?_getD, List.getElem?_replicate]
  split <;> rfl
theorem zeroB_at {m : MM} {n : Nat} {ek : EK} {i j : Nat} {c : CV} (h : (zeroB n ek).at i j = some c) : i < n ∧ ∃ v, (zerosE ek)[j]? = some v ∧ RelC F γ m w c v := by
  obtain ⟨r1, r2, r3⟩ := zeroB_row n ek
  obtain ⟨h1, h2, _⟩ := (at_rows r1).1 i j c h
  rw [r2] at h2
  refine ⟨h2, ?_⟩
  cases ek with
  | one k =>
    simp only [zeroB, Blk.at] at h
    split at h
    · rename_i hj
      obtain ⟨rfl, _⟩ := hj
      obtain rfl := Option.some.inj h
      exact ⟨.int k 0, rfl, by rw [nth_rep0]; exact rfl⟩
    · cases h
  | recs ks =>
    simp only [zeroB, Blk.at, List.length_replicate, if_pos h2] at h
    have hn : nth [] (List.replicate n (List.replicate (len ks) (0 : Int))) i = List.replicate (len ks) 0 := by rw [nth_eq, List.getD_eq_getElem?_getD, List.getElem?_replicate, if_pos h2]; rfl
    rw [hn, intsV_get, nth_rep0] at h
    cases hk : ks[j]? with
    | none => rw [hk] at h; cases h
    | some q => rw [hk] at h; obtain rfl := Option.some.inj h; exact ⟨.int q 0, by simp [zerosE, hk], rfl⟩
  | grow l =>
    simp only [zeroB, Blk.at, List.length_replicate, if_pos h2] at h
    have hn : nth [] (List.replicate n (zeroDs l)) i = zeroDs l := by rw [nth_eq, List.getD_eq_getElem?_getD, List.getElem?_replicate, if_pos h2]; rfl
    rw [hn, dtsL_get, Nat.zero_add] at h
    cases hk : l[j]? with
    | none => rw [hk] at h; cases h
    | some q =>
      rw [hk] at h
      obtain rfl := Option.some.inj h
      refine ⟨zeroV q, by simp [zerosE, hk], ?_⟩
      rw [zeroDs_get l j q hk]
      exact zeroD_deep F.z w q
theorem zerosCells (z : Array Value) (N : Nat) (hz : 0 < z.size) (f : Nat) : ((Array.range N).map (fun x => z[x % z.size]!))[f]? = if f < N then z[f % z.size]? else none := by
  have hm := Nat.mod_lt f hz
  simp only [Array.getElem?_map, Array.getElem?_range]
  by_cases h : f < N
  · simp [h, getElem!_pos, hm, Array.getElem?_eq_getElem]
  · simp [h]
theorem wrap64_in {x : Int} (h0 : 0 ≤ x) (h1 : x ≤ 140737488355328) : IntKind.i64.wrap x = x := by
  simp only [IntKind.wrap, IntKind.bits]
  simp
  split <;> omega
/-- A new block, told as a slice that is all of it. -/
theorem rows_nomap {blk : Blk} (h : blk.isRows = true) : ∀ kk vk es, blk ≠ .map kk vk es := fun kk vk es e => by subst e; cases h
theorem Sim.newRow (R : Rel A w0 F γ s a w) {nid : Nat} (hf : ∀ q, nid ≤ q → q < nid + 64 → ¬ F q) {o : Oper} {blk : Blk} {cs : Array Value} {t : TypeId} {cap : Nat} {Vs : List Value} (hr : CellsOf F γ s.mem w blk Vs)
    (h : (execOp a.eval o).run P w = .ok (.value (.slice (some ⟨w.heap.size, 0, none⟩) blk.len cap)) (w.alloc (.cells cs t))) (hv : ∀ (f : Nat) (v : Value), Vs[f]? = some v → cs[f]? = some v) (hc : blk.len ≤ cap) (hs : cap * blk.n ≤ cs.size) :
    Sim P A w0 F γ nid s o ⟨.pv (.one (.slf nid)), [(nid, some ⟨true, blk⟩)]⟩ a w := by
  have hne : ∀ b, F b → b ≠ nid := fun b hb e => hf nid (Nat.le_refl _) (by omega) (e ▸ hb)
  have ms := R.mnew hne (some ⟨true, blk⟩) (.cells cs t)
  refine Sim.value h (R.new hne (rows_nomap hr.1) o.dst (relB_cells (hr.step ms.zle ms.zsame) fun f v hfv => ⟨w.heap.size, 0, cs, (t, (0, 0)), by simp [addG], heap_alloc_new w _, by simpa using hv f v hfv⟩) ?_) addN_bd (addN_ext hne _ _)
  refine ⟨.inr rfl, ⟨_, _, _, rfl⟩, fun e he => ?_⟩
  rw [updM_one, if_pos rfl] at he
  obtain rfl := Option.some.inj he
  exact .inr ⟨w.heap.size, 0, cap, by simp [addG], by simp, hc, cs, (t, (0, 0)), heap_alloc_new w _, by simpa using hs⟩
theorem ok_makeSlice (R : Rel A w0 F γ s a w) {nid : Nat} (hf : ∀ q, nid ≤ q → q < nid + 64 → ¬ F q) {o : Oper} {out : Out} {t : TypeId} {x y : Operand} (ho : o.op = .makeSlice t x y) (h : (exMakeSlice P nid t (s.ev x) (s.ev y)).den = some out) : Sim P A w0 F γ nid s o out a w := by
  unfold exMakeSlice at h
  split at h
  · rename_i k p k' q e hx hy he
    have hxv := ev_int R hx
    have hyv := ev_int R hy
    split at h
    · rename_i ek hek
      obtain ⟨hq, h⟩ := den_req h
      obtain ⟨hq, q3⟩ := req_and hq
      obtain ⟨q1, q2⟩ := req_and hq
      have q1 : 0 ≤ p := by simpa using q1
      have q2 : p ≤ q := by simpa using q2
      have q3 : q ≤ (roomT P e : Int) := of_decide_eq_true q3
      simp only [T.den, Option.some.injEq] at h
      subst h
      obtain ⟨i, z, hi, hz, hzc, hsz, hb, hb0, hn, hrm⟩ := elemK_spec hek
      rw [hrm] at q3
      have hroom : i.bytes * q.toNat ≤ 140737488355328 := room_le hb0 (by omega)
      have q4 : q ≤ 140737488355328 := by
        have : 1 * q.toNat ≤ i.bytes * q.toNat := Nat.mul_le_mul_right _ (by omega)
        omega
      obtain ⟨r1, r2, r3⟩ := zeroB_row p.toNat ek
      have hzs : z.cells.size = ek.n := by have := congrArg List.length hzc; rw [zerosE_len] at this; simpa using this
      obtain ⟨cs, hcs⟩ : ∃ cs : Array Value, cs = (Array.range (q.toNat * ek.n)).map fun x => z.cells[x % z.cells.size]! := ⟨_, rfl⟩
      have hcsz : cs.size = q.toNat * ek.n := by rw [hcs]; simp
      have hpq : p.toNat * ek.n ≤ q.toNat * ek.n := Nat.mul_le_mul_right _ (by omega)
      have hcell : ∀ f, f < q.toNat * ek.n → cs[f]? = (zerosE ek)[f % ek.n]? := fun f hf => by
        rw [hcs, zerosCells z.cells _ (by omega), if_pos hf, hzs, ← hzc]; simp
      have hcells : CellsOf F γ s.mem w (zeroB p.toNat ek) (cs.toList.take (p.toNat * ek.n)) := by
        refine ⟨r1, by rw [r2, r3]; simp; omega, fun i' j' c hc => ?_⟩
        obtain ⟨hj', hi', _⟩ := (at_rows r1).1 i' j' c hc
        obtain ⟨_, v, hv1, hv2⟩ := zeroB_at (F := F) (γ := γ) (m := s.mem) (w := w) hc
        rw [r3] at hj'
        rw [r2] at hi'
        have hlt : i' * ek.n + j' < p.toNat * ek.n := by
          have : i' * ek.n + ek.n ≤ p.toNat * ek.n := by rw [← Nat.succ_mul]; exact Nat.mul_le_mul_right _ hi'
          omega
        refine ⟨v, ?_, hv2⟩
        rw [r3, List.getElem?_take, if_pos hlt, Array.getElem?_toList, hcell _ (by omega), Nat.mul_comm, Nat.mul_add_mod, Nat.mod_eq_of_lt hj']
        exact hv1
      refine Sim.newRow R hf (cs := cs) (t := e) (cap := q.toNat) hcells ?_ (fun f v hfv => ?_) (by rw [r2]; omega) (by rw [r3, hcsz]; exact Nat.le_refl _)
      · rw [hcs]
        have e1 := wrap64_in q1 (by omega)
        have e2 := wrap64_in (Int.le_trans q1 q2) q4
        have e3 : ¬ ((i.bytes : Int) * q > 2 ^ 48) := by
          have : (i.bytes : Int) * q = ((i.bytes * q.toNat : Nat) : Int) := by rw [Int.natCast_mul, Int.toNat_of_nonneg (by omega)]
          rw [this]; omega
        have hcond : (decide (q < 0) || decide ((i.bytes : Int) * q > 2 ^ 48) || decide (p < 0) || decide (p > q)) = false := by
          simp only [Bool.or_eq_false_iff, decide_eq_false_iff_not]; refine ⟨⟨⟨by omega, e3⟩, by omega⟩, by omega⟩
        have hcond' : ¬ (((q < 0 ∨ (i.bytes : Int) * q > 2 ^ 48) ∨ p < 0) ∨ p > q) := by
          rintro (((c | c) | c) | c)
          · omega
          · exact e3 c
          · omega
          · omega
        have hss : ∀ W, (sizeOf e).run P W = .ok ek.n W := fun W => by simp [sizeOf, sInfo hi, hsz]
        have hr0 : ∀ f : Nat → Value, (Array.range 0).map f = #[] := fun f => by apply Array.ext'; simp [Array.toList_range]
        rw [r2]
        by_cases hz0 : q.toNat = 0
        · have : q = 0 := by omega
          subst this
          have : p = 0 := by omega
          subst this
          simp [execOp, ho, hxv, hyv, Instr.makeSlice, run_underlying (elemT_spec he), asInt, asIntOf, sInfo hi, e1, Go.newRow, zeroValue, hss, hr0]
        · have hne : ¬ q.toNat * ek.n = 0 := by
            intro h0
            rcases Nat.mul_eq_zero.1 h0 with h1 | h1 <;> omega
          simp only [execOp, ho, hxv, hyv, Instr.makeSlice, Sem.run_bind, run_underlying (elemT_spec he), asInt, asIntOf, Sem.run_pure, Result.andThen_ok, sInfo hi, e1, e2]
          simp only [hcond, Bool.false_eq_true, if_false, Sem.run_bind, run_askRoom, Result.andThen_ok, hss, hne, zeroValue, sInfo hi, hz, Sem.run_pure, Go.newRow, run_newObj]
          simp
      · rw [List.getElem?_take] at hfv
        split at hfv
        · simpa using hfv
        · cases hfv
    · exact (den_fail h).elim
  · exact (den_fail h).elim
end
end Go.Proofs.Ytmmaechogibodaa.Vm
