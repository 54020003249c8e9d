/- The abstract interpreter's append is the model's. Conditions: none here. -/
import Derived.Test.YtoibhkhgpahdjaaVmI
set_option linter.unusedVariables false
set_option linter.unusedSimpArgs false
namespace Go.Proofs.Ytoibhkhgpahdjaa.Vm
open Go Go.RowKit

section
variable {P : Program} {A : Nat → Prop} {w0 : World} {F : Nat → Prop} {γ : GM} {s : St} {a : Act} {w : World}
theorem valsI_one (ks : List IntKind) : ∀ (r : List Int) (j : Nat), ∀ v ∈ valsI ks r j, v.oneCell' = true := by
  induction ks with
  | nil => intro r j v hv; simp [valsI] at hv
  | cons k ks ih =>
    intro r j v hv
    simp only [valsI, List.mem_cons] at hv
    rcases hv with rfl | hv
    · rfl
    · exact ih r _ v hv
theorem vals_one (b : Blk) : ∀ v ∈ vals b, v.oneCell' = true := by
  cases b with
  | cells l => intro v hv; simp [vals] at hv
  | row k xs => intro v hv; simp only [vals, List.mem_map] at hv; obtain ⟨x, _, rfl⟩ := hv; rfl
  | recs ks xs => intro v hv; simp only [vals, List.mem_flatMap] at hv; obtain ⟨x, _, hx⟩ := hv; exact valsI_one ks x 0 v hx
theorem Rel.forget (R : Rel A w0 F γ s a w) (b : Nat) : Rel A w0 F γ { s with mem := updM s.mem [(b, none)] } a w := by
  have hm : ∀ x e, updM s.mem [(b, none)] x = some e → x ≠ b ∧ s.mem x = some e := by
    intro x e h
    rw [updM_one] at h
    by_cases hx : x = b
    · rw [if_pos hx] at h; cases h
    · rw [if_neg hx] at h; exact ⟨hx, h⟩
  have ms : MStep F γ s.mem w F γ (updM s.mem [(b, none)]) w := ⟨fun _ h => h, fun _ _ => rfl, fun x e _ h => ⟨e, (hm x e h).2, rfl, rfl, fun _ _ h => h⟩, WStep.refl w⟩
  exact ⟨R.below, R.defers, R.size, fun t => (R.slots t).step ms, fun x e h => ⟨(R.memr x e (hm x e h).2).1, fun i j c hc => let ⟨g, base, cs, t, V, v1, v2, v3, v4⟩ := (R.memr x e (hm x e h).2).2 i j c hc; ⟨g, base, cs, t, V, v1, v2, v3, v4.step ms⟩⟩,
    fun x e g base h ho hg => let ⟨k1, k2⟩ := R.own x e g base (hm x e h).2 ho hg; ⟨k1, fun x' e' g' base' hne h' hg' => k2 x' e' g' base' hne (hm x' e' h').2 hg'⟩,
    fun x e g base h ho hg => R.shr x e g base (hm x e h).2 ho hg, fun x e g base h hg => R.bnd x e g base (hm x e h).2 hg⟩
/-- A block that isn't there yet: an empty slice. -/
theorem Rel.phantom (R : Rel A w0 F γ s a w) {q : Nat} (hf : ∀ x, F x → x ≠ q) {bc : Blk} (hr : bc.isRow = true) (h0 : bc.len = 0) {a0 : Option Addr} (dst : Option Tmp) :
    Rel A w0 (addN F q) (fun x => if x = q then none else γ x) (s.app dst ⟨.pv (.one (.slf q)), [(q, some ⟨true, bc⟩)]⟩) (a.put dst (.slice a0 0 0)) w := by
  have hv0 : vals bc = [] := List.eq_nil_of_length_eq_zero (by rw [vals_len hr, h0, Nat.zero_mul])
  have hm : ∀ x e, updM s.mem [(q, some ⟨true, bc⟩)] x = some e → (x = q ∧ e = ⟨true, bc⟩) ∨ (x ≠ q ∧ s.mem x = some e) := by
    intro x e hx
    rw [updM_one] at hx
    by_cases h : x = q
    · rw [if_pos h] at hx; exact .inl ⟨h, (Option.some.inj hx).symm⟩
    · rw [if_neg h] at hx; exact .inr ⟨h, hx⟩
  have ms : MStep F γ s.mem w (addN F q) (fun x => if x = q then none else γ x) (updM s.mem [(q, some ⟨true, bc⟩)]) w :=
    ⟨fun x h => .inl h, fun x h => by simp [hf x h], fun x e hx h => by
      rcases hm x e h with ⟨rfl, _⟩ | ⟨_, h3⟩
      · exact absurd rfl (hf x hx)
      · exact ⟨e, h3, rfl, rfl, fun _ _ h => h⟩, WStep.refl w⟩
  refine R.put (o := ⟨.pv (.one (.slf q)), [(q, some ⟨true, bc⟩)]⟩) R.below ms ⟨.inr rfl, ⟨_, _, _, rfl⟩, fun e he => ?_⟩ (fun x e hx => ?_) (fun x e g base hx ho hg => ?_) (fun x e g base hx ho hg => ?_) (fun x e g base hx hg => ?_)
  · rw [updM_one, if_pos rfl] at he
    obtain rfl := Option.some.inj he
    exact .inl ⟨h0, _, rfl⟩
  · rcases hm x e hx with ⟨rfl, rfl⟩ | ⟨h1, h3⟩
    · exact ⟨.inr rfl, relB_flat hr fun f v hf => by rw [hv0] at hf; simp at hf⟩
    · obtain ⟨k1, k2⟩ := R.memr x e h3
      refine ⟨.inl k1, fun i j c hc => ?_⟩
      obtain ⟨g, base, cs, t, V', v1, v2, v3, v4⟩ := k2 i j c hc
      exact ⟨g, base, cs, t, V', by simp [h1, v1], v2, v3, v4.step ms⟩
  · rcases hm x e hx with ⟨rfl, rfl⟩ | ⟨h1, h3⟩
    · simp at hg
    · simp only [if_neg h1] at hg
      obtain ⟨k1, k2⟩ := R.own x e g base h3 ho hg
      refine ⟨k1, fun x' e' g' base' hne hx' hg' => ?_⟩
      rcases hm x' e' hx' with ⟨rfl, rfl⟩ | ⟨h1', h3'⟩
      · simp at hg'
      · simp only [if_neg h1'] at hg'
        exact k2 x' e' g' base' hne h3' hg'
  · rcases hm x e hx with ⟨rfl, rfl⟩ | ⟨h1, h3⟩
    · cases ho
    · simp only [if_neg h1] at hg
      exact R.shr x e g base h3 ho hg
  · rcases hm x e hx with ⟨rfl, rfl⟩ | ⟨h1, h3⟩
    · simp at hg
    · simp only [if_neg h1] at hg
      exact R.bnd x e g base h3 hg
theorem grown_get (us vs : List Value) (rest : Array Value) (f : Nat) (v : Value) (h : (us ++ vs)[f]? = some v) : (us.toArray ++ vs.toArray ++ rest)[f]? = some v := by
  have hl := (List.getElem?_eq_some_iff.1 h).1
  rw [Array.getElem?_append_left (by simpa using hl)]
  simpa using h
theorem sliceT_spec {t : TypeId} (h : isSliceT P t = true) : ∃ e, P.underlying t = some (.slice e) := by
  unfold isSliceT at h
  split at h
  · rename_i e hu; exact ⟨e, hu⟩
  · cases h
theorem ok_append (R : Rel A w0 F γ s a w) {nid : Nat} (hf : ∀ q, nid ≤ q → q < nid + 64 → ¬ F q) {o : Oper} {out : Out} {t t2 : TypeId} {x y : Operand} (ho : o.op = .call { callee := .builtin .append, args := ⟨[x, y]⟩, argTypes := ⟨[t, t2]⟩ })
    (h : (exAppend P s.mem nid t t2 (s.ev x) (s.ev y)).den = some out) : Sim P A w0 F nid s o out a w := by
  have hx := R.ev x
  have hy := R.ev y
  have hne : ∀ b, F b → b ≠ nid := fun b hb e => hf nid (Nat.le_refl _) (by omega) (e ▸ hb)
  unfold exAppend at h
  split at h
  case h_2 => exact (den_fail h).elim
  rename_i e he hs2
  obtain ⟨e2, hu2⟩ := sliceT_spec hs2
  have hu := elemT_spec he
  split at h
  case h_2 => exact (den_fail h).elim
  rename_i ek hek
  obtain ⟨i, z, hi, hz, hzc, hsz, hb, hb0, hpos⟩ := elemK_spec hek
  have hss : ∀ W, (sizeOf e).run P W = .ok ek.n W := fun W => by simp [sizeOf, sInfo hi, hsz]
  have hzs : z.cells.size = ek.n := by have := congrArg List.length hzc; rw [zerosE_len] at this; simpa using this
  have hexec : ∀ V w', (Builtin.append_ #[t, t2] o.type #[a.eval x, a.eval y]).run P w = .ok V w' → (execOp a.eval o).run P w = .ok (.value V) w' := by
    intro V w' hr
    have : #[t, t2] = (⟨[t, t2]⟩ : Array TypeId) := rfl
    simp only [execOp, ho, resolve, invoke, builtin, Sem.run_bind, Sem.run_pure, Result.andThen_ok, List.map_toArray, List.map_cons, List.map_nil]
    rw [hr]; rfl
  split at h
  case h_3 => exact (den_fail h).elim
  · rename_i b c hp hq
    rw [hp] at hx; rw [hq] at hy
    split at h
    case h_2 => exact (den_fail h).elim
    rename_i bs bx hbs hbx
    split at h
    case h_2 => exact (den_fail h).elim
    rename_i bc hk hc
    obtain ⟨hqN, h⟩ := den_req h
    have hqN : bs.len + bx.len ≤ 8796093022208 := of_decide_eq_true hqN
    simp only [T.den, Option.some.injEq] at h
    subst h
    obtain ⟨r1, r2⟩ := isEK_spec hk
    obtain ⟨d1, d2, d3, d4, d5, d6⟩ := catB_spec hc
    obtain ⟨a2, c2, hX, hread⟩ := row_read R hy hbx d2
    have hS : RelC F γ s.mem w (.slf b) (a.eval x) := hx
    obtain ⟨a1, c1, hS1, hreadS⟩ := row_read R hS (bx := bs) (by simp [rowOf, hbs]) r1
    have hslc := hS.2.2 _ hbs
    have grow : ¬ bs.len + bx.len ≤ c1 → Sim P A w0 F nid s o ⟨.pv (.one (.slf nid)), [(b, none), (nid, some ⟨true, bc⟩)]⟩ a w := by
      intro hfit
      obtain ⟨cap, rest, g1, g2, g3⟩ := append_grows (ty := o.type) (w := w) hu hu2 hss hi hz hb hb0 hX hfit hqN (by rw [← r2, ← d5]; exact hread w.drew fun _ => rfl) (us := vals bs) (base := a1) (by rw [← hS1, ← r2]; exact hreadS w.drew fun _ => rfl)
      refine Sim.value (γ' := addG γ nid w.heap.size 0) (hexec _ _ (by rw [hS1]; exact g3)) ?_ addN_bd
      have R' := R.drew.forget b
      have := R'.new (q := nid) hne (blk := bc) (cs := (vals bs).toArray ++ (vals bx).toArray ++ rest) (t := e) (v := .pv (.one (.slf nid))) (V := .slice (some ⟨w.heap.size, 0, none⟩) (bs.len + bx.len) cap) o.dst
        (relB_flat d1 fun f v hfv => ⟨w.heap.size, 0, _, (e, (0, 0)), by simp [addG], heap_alloc_new w.drew _, by rw [Nat.zero_add]; exact grown_get _ _ _ _ _ (by rw [← d6]; exact hfv)⟩)
        ⟨.inr rfl, ⟨_, _, _, rfl⟩, fun e' he' => by
          rw [updM_one, if_pos rfl] at he'
          obtain rfl := Option.some.inj he'
          refine .inr ⟨w.heap.size, 0, cap, by simp [addG], by simp [d3], by simp [d3]; exact g1, _, (e, (0, 0)), heap_alloc_new w.drew _, ?_⟩
          have l1 := vals_len r1
          have l2 := vals_len d2
          simp only [Array.size_append, List.size_toArray, l1, l2, d5, d4, g2, hzs, r2]
          have : (0 + cap) * ek.n = (bs.len * ek.n + bx.len * ek.n) + (cap - (bs.len + bx.len)) * ek.n := by rw [← Nat.add_mul, ← Nat.add_mul]; congr 1; omega
          omega⟩
      exact this
    rcases hslc with ⟨h0, a0, hV⟩ | ⟨g, base, cap, h1, hV, h3, cs, t0, h4, h5⟩
    · rw [hS1] at hV
      obtain ⟨rfl, hl0, rfl⟩ : a1 = a0 ∧ bs.len = 0 ∧ c1 = 0 := by simpa using hV
      by_cases hfit : bs.len + bx.len ≤ 0
      · have hvx : vals bx = [] := List.eq_nil_of_length_eq_zero (by rw [vals_len d2, show bx.len = 0 by omega, Nat.zero_mul])
        have hvc : vals bc = [] := List.eq_nil_of_length_eq_zero (by rw [vals_len d1, d3, show bs.len + bx.len = 0 by omega, Nat.zero_mul])
        have hrun := append_fits (ty := o.type) (w := w) (w' := w) hu hu2 hss (base := a1) (sLen := bs.len) (sCap := 0) hX hfit (vs := vals bx) (by rw [← r2, ← d5]; exact hread w fun _ => rfl) (by rw [hvx]; cases a1 <;> simp [storeCells])
        refine Sim.value (hexec _ _ (by rw [hS1]; exact hrun)) (R.move (v := .pv (.one (.slf nid))) (V := .slice a1 (bs.len + bx.len) 0) hbs hne (.inl rfl) (relB_flat d1 fun f v hfv => by rw [hvc] at hfv; simp at hfv) ⟨.inr rfl, ⟨_, _, _, rfl⟩, fun e' he' => ?_⟩ o.dst) addN_bd
        rw [updM_two, if_pos rfl] at he'
        obtain rfl := Option.some.inj he'
        exact .inl ⟨by simp [d3]; omega, a1, by rw [show bs.len + bx.len = 0 by omega]⟩
      · exact grow (by omega)
    · rw [hS1] at hV
      obtain ⟨ha1, rfl⟩ : a1 = some ⟨g, base + 0 * bs.n, none⟩ ∧ c1 = cap := by simpa using hV
      by_cases hfit : bs.len + bx.len ≤ c1
      · have l1 := vals_len r1
        have l2 := vals_len d2
        have hsp : base + bs.len * ek.n + bx.len * ek.n ≤ cs.size := by
          have : (bs.len + bx.len) * ek.n ≤ (0 + c1) * ek.n := Nat.mul_le_mul_right _ (by omega)
          rw [Nat.add_mul] at this
          simp only [r2] at h5
          omega
        have h4z : w.heap[g]? = some (.cells cs t0.1 (0, 0)) := by rw [h4, R.below.fresh g cs t0.1 t0.2 (R.own b _ g base hbs rfl h1).1 h4]
        have hst := run_storeCells_at P g (base + bs.len * ek.n) t0.1 (vals bx) 0 cs w h4z (by rw [l2, d5, r2]; omega) (vals_one bx)
        have hrun := append_fits (ty := o.type) (w := w) hu hu2 hss (base := a1) (sLen := bs.len) (sCap := c1) hX hfit (vs := vals bx) (by rw [← r2, ← d5]; exact hread w fun _ => rfl) (by rw [ha1]; simp only [addr_add, Nat.zero_mul, Nat.add_zero]; exact hst)
        have hseg := fun k => seg_get cs (base + bs.len * ek.n) (vals bx) (by rw [l2, d5, r2]; omega) k
        refine Sim.value (hexec _ _ (by rw [hS1]; exact hrun)) (R.move (v := .pv (.one (.slf nid))) (V := .slice a1 (bs.len + bx.len) c1) hbs hne (.inr ⟨g, base, cs, _, t0, h1, h4, ?_, rfl⟩) (relB_flat d1 fun f v hfv => ⟨g, base, _, t0, by simp [h1], setRow_heap w g cs _ t0.1 t0.2 h4, ?_⟩) ⟨.inr rfl, ⟨_, _, _, rfl⟩, fun e' he' => ?_⟩ o.dst) addN_bd
        · simp; rw [l2, d5, r2]; omega
        · rw [hseg, l2, d5, r2]
          rw [d6] at hfv
          by_cases hlt : f < bs.len * ek.n
          · rw [if_neg (by omega)]
            rw [List.getElem?_append_left (by rw [l1, r2]; exact hlt)] at hfv
            obtain ⟨g', base', cs', t', k1, k2, k3⟩ := flat_relB r1 (R.memr b _ hbs).2 f v hfv
            rw [h1] at k1
            obtain ⟨rfl, rfl⟩ : g = g' ∧ base = base' := by simpa using k1
            rw [h4] at k2
            obtain ⟨rfl, rfl⟩ : cs = cs' ∧ t0 = t' := by simpa [Prod.ext_iff] using k2
            exact k3
          · rw [List.getElem?_append_right (by rw [l1, r2]; omega), l1, r2] at hfv
            have hl := (List.getElem?_eq_some_iff.1 hfv).1
            rw [l2, d5, r2] at hl
            rw [if_pos (by omega), show base + f - (base + bs.len * ek.n) = f - bs.len * ek.n by omega]
            exact hfv
        · rw [updM_two, if_pos rfl] at he'
          obtain rfl := Option.some.inj he'
          refine .inr ⟨g, base, c1, by simp [h1], by rw [ha1]; simp [d3], by simp [d3]; exact hfit, _, t0, setRow_heap w g cs _ t0.1 t0.2 h4, ?_⟩
          simp [d4]
          rw [l2, d5, r2]
          simp only [r2] at h5
          simp at h5
          omega
      · exact grow hfit
  · rename_i c hp hq
    rw [hp] at hx; rw [hq] at hy
    have hS : a.eval x = .slice none 0 0 := hx
    split at h
    case h_2 => exact (den_fail h).elim
    rename_i bx hbx
    split at h
    case h_2 => exact (den_fail h).elim
    rename_i hk
    obtain ⟨hqN, h⟩ := den_req h
    have hqN : bx.len ≤ 8796093022208 := of_decide_eq_true hqN
    simp only [T.den, Option.some.injEq] at h
    subst h
    obtain ⟨r1, r2⟩ := isEK_spec hk
    obtain ⟨a2, c2, hX, hread⟩ := row_read R hy hbx r1
    by_cases hfit : 0 + bx.len ≤ 0
    · have h0 : bx.len = 0 := by omega
      have hvx : vals bx = [] := List.eq_nil_of_length_eq_zero (by rw [vals_len r1, h0, Nat.zero_mul])
      have hrun := append_fits (ty := o.type) (w := w) (w' := w) hu hu2 hss (base := none) (sLen := 0) (sCap := 0) hX hfit (vs := vals bx) (by rw [← r2]; exact hread w fun _ => rfl) (by simp)
      rw [h0] at hrun
      exact Sim.value (hexec _ _ (by rw [hS]; exact hrun)) (R.phantom hne r1 h0 o.dst) addN_bd
    · obtain ⟨cap, rest, g1, g2, g3⟩ := append_grows (ty := o.type) (w := w) hu hu2 hss hi hz hb hb0 hX hfit (by omega) (by rw [← r2]; exact hread w.drew fun _ => rfl) (us := []) (base := none) (by simp [Builtin.firstCells])
      refine Sim.value (γ' := addG γ nid w.heap.size 0) (hexec _ _ (by rw [hS]; exact g3)) ?_ addN_bd
      have := R.drew.new (q := nid) hne (blk := bx) (cs := ([] : List Value).toArray ++ (vals bx).toArray ++ rest) (t := e) (v := .pv (.one (.slf nid))) (V := .slice (some ⟨w.heap.size, 0, none⟩) (0 + bx.len) cap) o.dst
        (relB_flat r1 fun f v hfv => ⟨w.heap.size, 0, _, (e, (0, 0)), by simp [addG], heap_alloc_new w.drew _, by rw [Nat.zero_add]; exact grown_get [] _ _ _ _ hfv⟩)
        ⟨.inr rfl, ⟨_, _, _, rfl⟩, fun e' he' => by
          rw [updM_one, if_pos rfl] at he'
          obtain rfl := Option.some.inj he'
          refine .inr ⟨w.heap.size, 0, cap, by simp [addG], by simp, by simp at g1 ⊢; omega, _, (e, (0, 0)), heap_alloc_new w.drew _, ?_⟩
          have l2 := vals_len r1
          simp only [Array.size_append, List.size_toArray, l2, g2, hzs, r2, List.length_nil]
          have : (0 + cap) * ek.n = bx.len * ek.n + (cap - (0 + bx.len)) * ek.n := by rw [← Nat.add_mul]; congr 1; omega
          omega⟩
      exact this
theorem strOf_push (s : ByteArray) (x : Int) (xs : List Int) : (⟨(s.push (UInt8.ofNat x.toNat)).data ++ (strOf xs).data⟩ : ByteArray) = ⟨s.data ++ (strOf (x :: xs)).data⟩ := by
  congr 1
  apply Array.ext'
  simp [strOf, ByteArray.push]
theorem forIn_bytes (f : Value → ByteArray → Sem (ForInStep ByteArray)) (hf : ∀ (x : Int) (s : ByteArray) (W : World), (f (.int .u8 x) s).run P W = .ok (.yield (s.push (UInt8.ofNat x.toNat))) W) : ∀ (xs : List Int) (s : ByteArray) (W : World), (forIn (xs.map fun n => Value.int .u8 n) s f).run P W = .ok ⟨s.data ++ (strOf xs).data⟩ W
  | [], s, W => by simp [strOf]
  | x :: xs, s, W => by
    simp only [List.map_cons, List.forIn_cons, Sem.run_bind, hf, Result.andThen_ok]
    rw [forIn_bytes f hf xs, strOf_push]
theorem bytesToString_run {W : World} {X : Value} {a : Option Addr} {l c : Nat} {xs : List Int} (hX : X = .slice a l c) (hr : (Builtin.firstCells 1 l X).run P W = .ok (xs.map fun n => Value.int .u8 n).toArray W) : (Conv.bytesToString X).run P W = .ok (.string (strOf xs)) W := by
  subst hX
  cases a with
  | none =>
    have : xs = [] := by
      simp [Builtin.firstCells] at hr
      cases xs with
      | nil => rfl
      | cons x xs => simp at hr
    subst this
    rfl
  | some a =>
    simp only [Builtin.firstCells, Nat.mul_one] at hr
    unfold Conv.bytesToString
    simp only [Sem.run_bind, hr, Result.andThen_ok]
    rw [List.forIn_toArray, forIn_bytes]
    · simp only [Result.andThen_ok, Sem.run_pure]
      congr 2
      simp [ByteArray.empty, ByteArray.emptyWithCapacity, strOf]
      rfl
    · intro x s W; rfl
theorem isBytesT_spec {src dst : TypeId} (h : isBytesT P src dst = true) : P.underlying dst = some .string ∧ ∃ e, P.underlying src = some (.slice e) ∧ P.underlying e = some (.int .u8) := by
  unfold isBytesT at h
  split at h
  · rename_i e h1 h2
    split at h
    · rename_i h3; exact ⟨h1, e, h2, h3⟩
    · cases h
  · cases h
theorem ok_conv (R : Rel A w0 F γ s a w) {nid : Nat} {o : Oper} {out : Out} {src dst : TypeId} {x : Operand} (ho : o.op = .convert src dst x) (h : (exConv P s.ev s.mem o src dst (s.ev x)).den = some out) : Sim P A w0 F nid s o out a w := by
  unfold exConv at h
  have pure := fun h => ok_pure (P := P) (A := A) (w0 := w0) (F := F) (γ := γ) (s := s) (a := a) (w := w) R (nid := nid) (o := o) (out := out) (fun cs b e => by rw [ho] at e; cases e) h
  split at h
  · rename_i c hx
    split at h
    · rename_i xs hrow
      split at h
      · rename_i hstr
        obtain rfl := den_ret1 h
        obtain ⟨u1, e, u2, u3⟩ := isBytesT_spec hstr
        have hX := R.ev x
        rw [hx] at hX
        obtain ⟨a2, c2, hV, hr⟩ := row_read (P := P) R hX hrow rfl
        have hb := bytesToString_run (P := P) (W := w) (xs := xs) hV (hr w fun _ => rfl)
        refine Sim.look R (V := .string (strOf xs)) ?_ rfl
        rw [hV] at hb
        have hc : (convert src dst (a.eval x)).run P w = .ok (.string (strOf xs)) w := by
          rw [hV]
          simp only [convert, Sem.run_bind, run_underlying u1, run_underlying u2, run_underlying u3, Result.andThen_ok]
          exact hb
        simp only [execOp, ho, Sem.run_bind, hc, Result.andThen_ok, Sem.run_pure]
      · exact (den_fail h).elim
    · exact pure h
  · exact pure h
end
end Go.Proofs.Ytoibhkhgpahdjaa.Vm
