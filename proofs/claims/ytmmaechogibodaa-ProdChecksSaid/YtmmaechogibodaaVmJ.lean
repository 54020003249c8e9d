/- The abstract interpreter's append is the model's. Conditions: none here. -/
import Derived.Test.YtmmaechogibodaaVmI
set_option linter.unusedVariables false
set_option linter.unusedSimpArgs false
namespace Go.Proofs.Ytmmaechogibodaa.Vm
open Go Go.RowKit

section
variable {P : Program} {A : Ctx} {w0 : World} {F : NS} {γ : GM} {s : St} {a : Act} {w : World}
/-- Fewer blocks are known. -/
theorem Mem.fewer {m m' : MM} {rt : List Nat} (M : Mem A w0 F γ m rt w) (hm : ∀ x e, m' x = some e → m x = some e) : MStep F γ m w F γ m' w ∧ Mem A w0 F γ m' rt w := by
  have ms : MStep F γ m w F γ m' w := ⟨fun _ h => h, fun _ _ => rfl, fun x e _ h => ⟨e, hm x e h, rfl, rfl, rfl, fun _ _ h => h⟩, WStep.refl w, fun _ h => h, fun _ _ => rfl⟩
  exact ⟨ms, M.below, fun x e h => ⟨(M.memr x e (hm x e h)).1, (M.memr x e (hm x e h)).2.step ms rfl fun _ _ _ => rfl⟩,
    fun x e g base h ho hg => let ⟨k1, k2⟩ := M.own x e g base (hm x e h) ho hg; ⟨k1, fun x' e' g' base' hne h' hg' => k2 x' e' g' base' hne (hm x' e' h') hg'⟩,
    fun x e g base h ho hg => M.nofr x e g base (hm x e h) ho hg, fun x e g base h ho hg => M.shr x e g base (hm x e h) ho hg, fun x e g base h hg => M.bnd x e g base (hm x e h) hg,
    fun x o kk vk es g base h hg => M.maps x o kk vk es g base (hm x _ h) hg,
    fun g hz => ⟨(M.zok g hz).1, (M.zok g hz).2.1, fun x e base h ho hg => (M.zok g hz).2.2 x e base (hm x e h) ho hg⟩, M.rts⟩
theorem updM_none (m : MM) (b : Nat) : ∀ x e, updM m [(b, none)] x = some e → m x = some e := fun x e h => by
  rw [updM_one] at h
  by_cases hx : x = b
  · rw [if_pos hx] at h; cases h
  · rw [if_neg hx] at h; exact h
theorem Rel.forget (R : Rel A w0 F γ s a w) (b : Nat) : Rel A w0 F γ { s with mem := updM s.mem [(b, none)] } a w :=
  { (R.toMem.fewer (updM_none s.mem b)).2 with defers := R.defers, size := R.size, slots := fun t => (R.slots t).step (R.toMem.fewer (updM_none s.mem b)).1 }
/-- A block that isn't there yet: an empty slice. -/
theorem Rel.phantom (R : Rel A w0 F γ s a w) {q : Nat} (hf : ∀ x, F x → x ≠ q) {bc : Blk} (hr : bc.isRows = true) (h0 : bc.len = 0) {a0 : Option Addr} (dst : Option Tmp) :
    Rel A w0 (addN F q) (fun x => if x = q then none else γ x) (s.app dst ⟨.pv (.one (.slf q)), [(q, some ⟨true, bc⟩)]⟩) (a.put dst (.slice a0 0 0)) w := by
  have hm : ∀ x e, updM s.mem [(q, some ⟨true, bc⟩)] x = some e → (x = q ∧ e = ⟨true, bc⟩) ∨ (x ≠ q ∧ s.mem x = some e) := by
    intro x e hx
    rw [updM_one] at hx
    by_cases h : x = q
    · rw [if_pos h] at hx; exact .inl ⟨h, (Option.some.inj hx).symm⟩
    · rw [if_neg h] at hx; exact .inr ⟨h, hx⟩
  have gq : ∀ {g base}, (fun x => if x = q then none else γ x) q ≠ some (g, base) := fun h => by simp at h
  have go : ∀ {x}, x ≠ q → (fun x => if x = q then none else γ x) x = γ x := fun h => by simp only [if_neg h]
  have ms : MStep F γ s.mem w (addN F q) (fun x => if x = q then none else γ x) (updM s.mem [(q, some ⟨true, bc⟩)]) w :=
    ⟨fun x h => .inl h, fun x h => by simp [hf x h], fun x e hx h => by
      rcases hm x e h with ⟨rfl, _⟩ | ⟨_, h3⟩
      · exact absurd rfl (hf x hx)
      · exact ⟨e, h3, rfl, rfl, rfl, fun _ _ h => h⟩, WStep.refl w, fun _ h => h, fun _ _ => rfl⟩
  refine R.put (o := ⟨.pv (.one (.slf q)), [(q, some ⟨true, bc⟩)]⟩) ms ⟨.inr rfl, ⟨_, _, _, rfl⟩, fun e he => ?_⟩ ⟨R.below, fun x e hx => ?_, fun x e g base hx ho hg => ?_, fun x e g base hx ho hg => ?_, fun x e g base hx ho hg => ?_, fun x e g base hx hg => ?_, fun x o kk vk es g base hx hg => ?_, fun g hz => ⟨(R.zok g hz).1, (R.zok g hz).2.1, fun x e base hx ho hg => ?_⟩, fun x hx => .inl (R.rts x hx)⟩
  · rw [updM_one, if_pos rfl] at he
    obtain rfl := Option.some.inj he
    exact .inl ⟨h0, _, rfl⟩
  · rcases hm x e hx with ⟨rfl, rfl⟩ | ⟨h1, h3⟩
    · refine ⟨.inr rfl, fun i j c hc => ?_⟩
      have := ((at_rows hr).1 i j c hc).2.1
      omega
    · obtain ⟨k1, k2⟩ := R.memr x e h3
      exact ⟨.inl k1, k2.step ms (go h1) fun _ _ _ => rfl⟩
  · rcases hm x e hx with ⟨rfl, rfl⟩ | ⟨h1, h3⟩
    · exact absurd hg gq
    · have hg : γ x = some (g, base) := by simpa only [if_neg h1] using hg
      obtain ⟨k1, k2⟩ := R.own x e g base h3 ho hg
      refine ⟨k1, fun x' e' g' base' hne hx' hg' => ?_⟩
      rcases hm x' e' hx' with ⟨rfl, rfl⟩ | ⟨h1', h3'⟩
      · exact absurd hg' gq
      · have hg' : γ x' = some (g', base') := by simpa only [if_neg h1'] using hg'
        exact k2 x' e' g' base' hne h3' hg'
  · rcases hm x e hx with ⟨rfl, rfl⟩ | ⟨h1, h3⟩
    · exact absurd hg gq
    · exact R.nofr x e g base h3 ho (by simpa only [if_neg h1] using hg)
  · rcases hm x e hx with ⟨rfl, rfl⟩ | ⟨h1, h3⟩
    · cases ho
    · exact R.shr x e g base h3 ho (by simpa only [if_neg h1] using hg)
  · rcases hm x e hx with ⟨rfl, rfl⟩ | ⟨h1, h3⟩
    · exact absurd hg gq
    · exact R.bnd x e g base h3 (by simpa only [if_neg h1] using hg)
  · rcases hm x _ hx with ⟨rfl, h0⟩ | ⟨h1, h3⟩
    · exact absurd hg gq
    · exact R.maps x o kk vk es g base h3 (by simpa only [if_neg h1] using hg)
  · rcases hm x e hx with ⟨rfl, rfl⟩ | ⟨h1, h3⟩
    · exact absurd hg gq
    · exact (R.zok g hz).2.2 x e base h3 ho (by simpa only [if_neg h1] using hg)
theorem phantom_ext {q : Nat} (hf : ∀ x, F x → x ≠ q) : Ext F γ (addN F q) (fun x => if x = q then none else γ x) := ⟨fun x h => .inl h, fun x h => by simp [hf x h]⟩
theorem move_ext {b q : Nat} (hf : ∀ x, F x → x ≠ q) : Ext F γ (addN F q) (fun x => if x = q then γ b else γ x) := ⟨fun x h => .inl h, fun x h => by simp [hf x h]⟩
theorem grown_get (us vs : List Value) (rest : Array Value) (f : Nat) (v : Value) (h : (us ++ vs)[f]? = some v) : (us.toArray ++ vs.toArray ++ rest)[f]? = some v := by
  have hl := (List.getElem?_eq_some_iff.1 h).1
  rw [Array.getElem?_append_left (by simpa using hl)]
  simpa using h
theorem sliceT_spec {t : TypeId} (h : isSliceT P t = true) : ∃ e, P.underlying t = some (.slice e) := by
  unfold isSliceT at h
  split at h
  · rename_i e hu; exact ⟨e, hu⟩
  · cases h
theorem ok_append (R : Rel A w0 F γ s a w) {nid : Nat} (hf : ∀ q, nid ≤ q → q < nid + 64 → ¬ F q) {o : Oper} {out : Out} {t t2 : TypeId} {x y : Operand} (ho : o.op = .call { callee := .builtin .append, args := ⟨[x, y]⟩, argTypes := ⟨[t, t2]⟩ })
    (h : (exAppend P s.mem nid t t2 (s.ev x) (s.ev y)).den = some out) : Sim P A w0 F γ nid s o out a w := by
  have hx := R.ev x
  have hy := R.ev y
  have hne : ∀ b, F b → b ≠ nid := fun b hb e => hf nid (Nat.le_refl _) (by omega) (e ▸ hb)
  unfold exAppend at h
  split at h
  case h_2 => exact (den_fail h).elim
  rename_i e he hs2
  obtain ⟨e2, hu2⟩ := sliceT_spec hs2
  have hu := elemT_spec he
  split at h
  case h_2 => exact (den_fail h).elim
  rename_i ek hek
  obtain ⟨i, z, hi, hz, hzc, hsz, hb, hb0, hpos, hrm⟩ := elemK_spec hek
  have hss : ∀ W, (sizeOf e).run P W = .ok ek.n W := fun W => by simp [sizeOf, sInfo hi, hsz]
  have hzs : z.cells.size = ek.n := by have := congrArg List.length hzc; rw [zerosE_len] at this; simpa using this
  have hexec : ∀ V w', (Builtin.append_ #[t, t2] o.type #[a.eval x, a.eval y]).run P w = .ok V w' → (execOp a.eval o).run P w = .ok (.value V) w' := by
    intro V w' hr
    have : #[t, t2] = (⟨[t, t2]⟩ : Array TypeId) := rfl
    simp only [execOp, ho, resolve, invoke, builtin, Sem.run_bind, Sem.run_pure, Result.andThen_ok, List.map_toArray, List.map_cons, List.map_nil]
    rw [hr]; rfl
  -- what is read
  have rd : ∀ {c : CV} {by0 bx : Blk}, RelC F γ s.mem w c (a.eval y) → rowOf s.mem c = some by0 → asEK ek by0 = some bx → ∃ a2 c2 vs, a.eval y = .slice a2 bx.len c2 ∧ CellsOf F γ s.mem w bx vs ∧ bx.n = ek.n ∧ ∀ W : World, (∀ a, W.cell? a = w.cell? a) → (Builtin.firstCells ek.n bx.len (a.eval y)).run P W = .ok vs.toArray W := by
    intro c by0 bx hc hrow has
    have hr0 : by0.isRows = true := asEK_rows has
    obtain ⟨a2, c2, vs, k1, k2, k3⟩ := row_read R hc hrow hr0
    obtain ⟨_, j1, j2, j3, j4⟩ := asEK_spec has fun _ => k2
    exact ⟨a2, c2, vs, by rw [j2]; exact k1, j1, j4, fun W hW => by rw [j2, ← j4, j3]; exact k3 W hW⟩
  split at h
  case h_3 => exact (den_fail h).elim
  · rename_i b c hp hq
    rw [hp] at hx; rw [hq] at hy
    split at h
    case h_2 => exact (den_fail h).elim
    rename_i bs by0 hbs hbx0
    split at h
    case h_2 => exact (den_fail h).elim
    rename_i bx hk has
    split at h
    case h_2 => exact (den_fail h).elim
    rename_i bc hc
    obtain ⟨hqN, h⟩ := den_req h
    have hqN : bs.len + bx.len ≤ roomT P e := of_decide_eq_true hqN
    rw [hrm] at hqN
    have hqN := room_le hb0 hqN
    simp only [T.den, Option.some.injEq] at h
    subst h
    obtain ⟨r1, r2⟩ := isEK_spec hk
    obtain ⟨a2, c2, vs, hX, hcv, hxn, hread⟩ := rd hy hbx0 has
    have hS : RelC F γ s.mem w (.slf b) (a.eval x) := hx
    obtain ⟨us, hcu, huc⟩ := cells_relB r1 (R.memr b _ hbs).2
    obtain ⟨a1, c1, us', hS1, hcu', hreadS⟩ := row_read R hS (bx := bs) (by simp [rowOf, hbs]) r1
    have hslc := hS.2.2 _ hbs
    simp only at hslc hcu huc
    have grow : ¬ bs.len + bx.len ≤ c1 → Sim P A w0 F γ nid s o ⟨.pv (.one (.slf nid)), [(b, none), (nid, some ⟨true, bc⟩)]⟩ a w := by
      intro hfit
      obtain ⟨d1, d3, d4, d5, d6⟩ := catB_spec hc hcu' hcv
      obtain ⟨cap, rest, g1, g2, g3⟩ := append_grows (ty := o.type) (w := w) hu hu2 hss hi hz hb hb0 hX hfit hqN (hread w.drew fun _ => rfl) (us := us') (base := a1) (by rw [← hS1, ← r2]; exact hreadS w.drew fun _ => rfl)
      refine Sim.value (γ' := addG γ nid w.heap.size 0) (hexec _ _ (by rw [hS1]; exact g3)) ?_ addN_bd (addN_ext hne _ _)
      have R' := R.drew.forget b
      have ms := R'.mnew hne (some ⟨true, bc⟩) (.cells (us'.toArray ++ vs.toArray ++ rest) e)
      have := R'.new (q := nid) hne (rows_nomap d1) (blk := bc) (cs := us'.toArray ++ vs.toArray ++ rest) (t := e) (v := .pv (.one (.slf nid))) (V := .slice (some ⟨w.heap.size, 0, none⟩) (bs.len + bx.len) cap) o.dst
        (relB_cells ((d6.step (w := w) (F := F) (F' := F) (γ' := γ) (m' := s.mem) (w' := w.drew) (fun _ h => h) fun _ _ => rfl).step ms.zle ms.zsame) fun f v hfv => ⟨w.heap.size, 0, _, (e, (0, 0)), by simp [addG], heap_alloc_new w.drew _, by rw [Nat.zero_add]; exact grown_get _ _ _ _ _ hfv⟩)
        ⟨.inr rfl, ⟨_, _, _, rfl⟩, fun e' he' => by
          rw [updM_one, if_pos rfl] at he'
          obtain rfl := Option.some.inj he'
          refine .inr ⟨w.heap.size, 0, cap, by simp [addG], by simp [d3], by simp [d3]; exact g1, _, (e, (0, 0)), heap_alloc_new w.drew _, ?_⟩
          have l1 := hcu'.2.1
          have l2 := hcv.2.1
          simp only [Array.size_append, List.size_toArray, l1, l2, hxn, d4, g2, hzs, r2]
          have : (0 + cap) * ek.n = (bs.len * ek.n + bx.len * ek.n) + (cap - (bs.len + bx.len)) * ek.n := by rw [← Nat.add_mul, ← Nat.add_mul]; congr 1; omega
          omega⟩
      exact this
    rcases hslc with ⟨h0, a0, hV⟩ | ⟨g, base, cap, h1, hV, h3, cs, t0, h4, h5⟩
    · rw [hS1] at hV
      obtain ⟨rfl, hl0, rfl⟩ : a1 = a0 ∧ bs.len = 0 ∧ c1 = 0 := by simpa using hV
      by_cases hfit : bs.len + bx.len ≤ 0
      · obtain ⟨d1, d3, d4, d5, d6⟩ := catB_spec hc hcu' hcv
        have hvx : vs = [] := List.eq_nil_of_length_eq_zero (by rw [hcv.2.1, show bx.len = 0 by omega, Nat.zero_mul])
        have hrun := append_fits (ty := o.type) (w := w) (w' := w) hu hu2 hss (base := a1) (sLen := bs.len) (sCap := 0) hX hfit (vs := vs) (hread w fun _ => rfl) (by rw [hvx]; cases a1 <;> simp [storeCells])
        refine Sim.value (hexec _ _ (by rw [hS1]; exact hrun)) (R.move (v := .pv (.one (.slf nid))) (V := .slice a1 (bs.len + bx.len) 0) hbs hne d1 (.inl rfl) (fun _ i j c hc => by have := ((at_rows d1).1 i j c hc).2.1; omega) ⟨.inr rfl, ⟨_, _, _, rfl⟩, fun e' he' => ?_⟩ o.dst) addN_bd (move_ext hne)
        rw [updM_two, if_pos rfl] at he'
        obtain rfl := Option.some.inj he'
        exact .inl ⟨by simp [d3]; omega, a1, by rw [show bs.len + bx.len = 0 by omega]⟩
      · exact grow (by omega)
    · rw [hS1] at hV
      obtain ⟨ha1, rfl⟩ : a1 = some ⟨g, base + 0 * bs.n, none⟩ ∧ c1 = cap := by simpa using hV
      by_cases hfit : bs.len + bx.len ≤ c1
      · obtain ⟨d1, d3, d4, d5, d6⟩ := catB_spec hc hcu hcv
        have l1 := hcu.2.1
        have l2 := hcv.2.1
        have hsp : base + bs.len * ek.n + bx.len * ek.n ≤ cs.size := by
          have : (bs.len + bx.len) * ek.n ≤ (0 + c1) * ek.n := Nat.mul_le_mul_right _ (by omega)
          rw [Nat.add_mul] at this
          simp only [r2] at h5
          omega
        have hst := run_storeCells_nofr P g (base + bs.len * ek.n) t0 vs 0 cs w h4 (R.nofr b _ g base hbs rfl h1) (by rw [l2, hxn]; omega) hcv.one
        have hrun := append_fits (ty := o.type) (w := w) hu hu2 hss (base := a1) (sLen := bs.len) (sCap := c1) hX hfit (vs := vs) (hread w fun _ => rfl) (by rw [ha1]; simp only [addr_add, Nat.zero_mul, Nat.add_zero]; exact hst)
        have hseg := fun k => seg_get cs (base + bs.len * ek.n) vs (by rw [l2, hxn]; omega) k
        refine Sim.value (hexec _ _ (by rw [hS1]; exact hrun)) (R.move (v := .pv (.one (.slf nid))) (V := .slice a1 (bs.len + bx.len) c1) hbs hne d1 (.inr ⟨g, base, cs, _, t0, h1, h4, ?_, rfl⟩) (fun hzs => relB_cells (d6.step (F := F) (F' := addN F nid) (fun _ h => h) hzs) fun f v hfv => ⟨g, base, _, t0, by simp [h1], setRow_heap w g cs _ t0.1 t0.2 h4, ?_⟩) ⟨.inr rfl, ⟨_, _, _, rfl⟩, fun e' he' => ?_⟩ o.dst) addN_bd (move_ext hne)
        · simp; rw [l2, hxn]; omega
        · rw [hseg, l2, hxn]
          by_cases hlt : f < bs.len * ek.n
          · rw [if_neg (by omega)]
            rw [List.getElem?_append_left (by rw [l1, r2]; exact hlt)] at hfv
            obtain ⟨g', base', cs', t', k1, k2, k3⟩ := huc f v hfv
            rw [h1] at k1
            obtain ⟨rfl, rfl⟩ : g = g' ∧ base = base' := by simpa using k1
            rw [h4] at k2
            obtain ⟨rfl, rfl⟩ : cs = cs' ∧ t0 = t' := by simpa [Prod.ext_iff] using k2
            exact k3
          · rw [List.getElem?_append_right (by rw [l1, r2]; omega), l1, r2] at hfv
            have hl := (List.getElem?_eq_some_iff.1 hfv).1
            rw [l2, hxn] at hl
            rw [if_pos (by omega), show base + f - (base + bs.len * ek.n) = f - bs.len * ek.n by omega]
            exact hfv
        · rw [updM_two, if_pos rfl] at he'
          obtain rfl := Option.some.inj he'
          refine .inr ⟨g, base, c1, by simp [h1], by rw [ha1]; simp [d3], by simp [d3]; exact hfit, _, t0, setRow_heap w g cs _ t0.1 t0.2 h4, ?_⟩
          simp [d4, r2]
          rw [l2, hxn]
          rw [r2] at h5
          simp at h5
          omega
      · exact grow hfit
  · rename_i c hp hq
    rw [hp] at hx; rw [hq] at hy
    have hS : a.eval x = .slice none 0 0 := hx
    split at h
    case h_2 => exact (den_fail h).elim
    rename_i by0 hbx0
    split at h
    case h_2 => exact (den_fail h).elim
    rename_i bx has
    obtain ⟨hqN, h⟩ := den_req h
    have hqN : bx.len ≤ roomT P e := of_decide_eq_true hqN
    rw [hrm] at hqN
    have hqN := room_le hb0 hqN
    simp only [T.den, Option.some.injEq] at h
    subst h
    obtain ⟨a2, c2, vs, hX, hcv, hxn, hread⟩ := rd hy hbx0 has
    have r1 := hcv.1
    by_cases hfit : 0 + bx.len ≤ 0
    · have h0 : bx.len = 0 := by omega
      have hvx : vs = [] := List.eq_nil_of_length_eq_zero (by rw [hcv.2.1, h0, Nat.zero_mul])
      have hrun := append_fits (ty := o.type) (w := w) (w' := w) hu hu2 hss (base := none) (sLen := 0) (sCap := 0) hX hfit (vs := vs) (hread w fun _ => rfl) (by simp)
      rw [h0] at hrun
      exact Sim.value (hexec _ _ (by rw [hS]; exact hrun)) (R.phantom hne r1 h0 o.dst) addN_bd (phantom_ext hne)
    · obtain ⟨cap, rest, g1, g2, g3⟩ := append_grows (ty := o.type) (w := w) hu hu2 hss hi hz hb hb0 hX hfit (by rw [Nat.zero_add]; exact hqN) (hread w.drew fun _ => rfl) (us := []) (base := none) (by simp [Builtin.firstCells])
      refine Sim.value (γ' := addG γ nid w.heap.size 0) (hexec _ _ (by rw [hS]; exact g3)) ?_ addN_bd (addN_ext hne _ _)
      have ms := R.drew.mnew hne (some ⟨true, bx⟩) (.cells (([] : List Value).toArray ++ vs.toArray ++ rest) e)
      have := R.drew.new (q := nid) hne (rows_nomap r1) (blk := bx) (cs := ([] : List Value).toArray ++ vs.toArray ++ rest) (t := e) (v := .pv (.one (.slf nid))) (V := .slice (some ⟨w.heap.size, 0, none⟩) (0 + bx.len) cap) o.dst
        (relB_cells ((hcv.step (w := w) (F := F) (F' := F) (γ' := γ) (m' := s.mem) (w' := w.drew) (fun _ h => h) fun _ _ => rfl).step ms.zle ms.zsame) fun f v hfv => ⟨w.heap.size, 0, _, (e, (0, 0)), by simp [addG], heap_alloc_new w.drew _, by rw [Nat.zero_add]; exact grown_get [] _ _ _ _ hfv⟩)
        ⟨.inr rfl, ⟨_, _, _, rfl⟩, fun e' he' => by
          rw [updM_one, if_pos rfl] at he'
          obtain rfl := Option.some.inj he'
          refine .inr ⟨w.heap.size, 0, cap, by simp [addG], by simp, by simp at g1 ⊢; omega, _, (e, (0, 0)), heap_alloc_new w.drew _, ?_⟩
          have l2 := hcv.2.1
          simp only [Array.size_append, List.size_toArray, l2, g2, hzs, hxn, List.length_nil]
          have : (0 + cap) * ek.n = bx.len * ek.n + (cap - (0 + bx.len)) * ek.n := by rw [← Nat.add_mul]; congr 1; omega
          omega⟩
      exact this
theorem strOf_push (s : ByteArray) (x : Int) (xs : List Int) : (⟨(s.push (UInt8.ofNat x.toNat)).data ++ (strOf xs).data⟩ : ByteArray) = ⟨s.data ++ (strOf (x :: xs)).data⟩ := by
  congr 1
  apply Array.ext'
  simp [strOf, ByteArray.push]
theorem forIn_bytes (f : Value → ByteArray → Sem (ForInStep ByteArray)) (hf : ∀ (x : Int) (s : ByteArray) (W : World), (f (.int .u8 x) s).run P W = .ok (.yield (s.push (UInt8.ofNat x.toNat))) W) : ∀ (xs : List Int) (s : ByteArray) (W : World), (forIn (xs.map fun n => Value.int .u8 n) s f).run P W = .ok ⟨s.data ++ (strOf xs).data⟩ W
  | [], s, W => by simp [strOf]
  | x :: xs, s, W => by
    simp only [List.map_cons, List.forIn_cons, Sem.run_bind, hf, Result.andThen_ok]
    rw [forIn_bytes f hf xs, strOf_push]
theorem bytesToString_run {W : World} {X : Value} {a : Option Addr} {l c : Nat} {xs : List Int} (hX : X = .slice a l c) (hr : (Builtin.firstCells 1 l X).run P W = .ok (xs.map fun n => Value.int .u8 n).toArray W) : (Conv.bytesToString X).run P W = .ok (.string (strOf xs)) W := by
  subst hX
  cases a with
  | none =>
    have : xs = [] := by
      simp [Builtin.firstCells] at hr
      cases xs with
      | nil => rfl
      | cons x xs => simp at hr
    subst this
    rfl
  | some a =>
    simp only [Builtin.firstCells, Nat.mul_one] at hr
    unfold Conv.bytesToString
    simp only [Sem.run_bind, hr, Result.andThen_ok]
    rw [List.forIn_toArray, forIn_bytes]
    · simp only [Result.andThen_ok, Sem.run_pure]
      congr 2
      simp [ByteArray.empty, ByteArray.emptyWithCapacity, strOf]
      rfl
    · intro x s W; rfl
theorem isBytesT_spec {src dst : TypeId} (h : isBytesT P src dst = true) : P.underlying dst = some .string ∧ ∃ e, P.underlying src = some (.slice e) ∧ P.underlying e = some (.int .u8) := by
  unfold isBytesT at h
  split at h
  · rename_i e h1 h2
    split at h
    · rename_i h3; exact ⟨h1, e, h2, h3⟩
    · cases h
  · cases h
theorem toBytesT_spec {src dst : TypeId} (h : toBytesT P src dst = true) : P.underlying src = some .string ∧ ∃ e, P.underlying dst = some (.slice e) ∧ P.underlying e = some (.int .u8) := by
  unfold toBytesT at h
  split at h
  · rename_i e h1 h2
    split at h
    · rename_i h3; exact ⟨h1, e, h2, h3⟩
    · cases h
  · cases h
theorem freeze_new (w : World) (cs : Array Value) (e : TypeId) (cap : Nat) : (w.alloc (.cells cs e)).freeze { block := w.heap.size, off := cap } 1 = w.alloc (.cells cs e (cap, cap + 1)) := by
  unfold World.freeze
  rw [if_neg (by decide)]
  simp only [World.alloc]
  congr 1
  apply Array.ext
  · simp
  · intro i h1 h2
    rw [Array.getElem_modify]
    by_cases hi : i = w.heap.size
    · subst hi; simp
    · have hlt : i < w.heap.size := by simp at h2; omega
      rw [if_neg (Ne.symm hi), Array.getElem_push_lt hlt, Array.getElem_push_lt hlt]
/-- Bytes of their own, out of a text. -/
theorem stringToBytes_run (e : TypeId) (S : ByteArray) (w : World) : ∃ (cap : Nat) (cs : Array Value) (n : Nat), S.size ≤ cap ∧ cs.size = cap ∧ n = cap ∧ (∀ (f : Nat) (v : Value), ((bytesI S).map (Value.int .u8))[f]? = some v → cs[f]? = some v) ∧
    (Conv.stringToBytes e S).run P w = .ok (.slice (some ⟨w.heap.size, 0, none⟩) S.size cap) (w.drew.alloc (.cells cs e (n, n + 1))) := by
  obtain ⟨cap, hcap⟩ : ∃ cap, cap = (Question.appendCap S.size 0 e).cut (w.tape w.drawn (.appendCap S.size 0 e)) := ⟨_, rfl⟩
  have h1 : S.size ≤ cap := by rw [hcap]; simp only [Question.cut]; omega
  obtain ⟨cs, hcs⟩ : ∃ cs : Array Value, cs = (S.data.map fun b => Value.int .u8 b.toNat) ++ Array.replicate (cap - S.size) (.int .u8 0) := ⟨_, rfl⟩
  have hsz : cs.size = cap := by
    have : S.data.size = S.size := rfl
    rw [hcs]; simp [this]; omega
  refine ⟨cap, cs, cap, h1, hsz, rfl, fun f v hf => ?_, ?_⟩
  · rw [hcs, Array.getElem?_append_left]
    · simp only [bytesI, List.map_map, List.getElem?_map, Array.getElem?_toList, Option.map_eq_some_iff, Function.comp_apply] at hf
      obtain ⟨b, hb, rfl⟩ := hf
      simp [hb]
    · have := (List.getElem?_eq_some_iff.1 hf).1
      simpa [bytesI] using this
  · have hd : ({ w with drawn := w.drawn + 1 } : World) = w.drew := rfl
    have hnew : (w.drew.alloc (.cells cs e)).heap[w.heap.size]? = some (.cells cs e) := heap_alloc_new w.drew _
    have hfz : (w.drew.alloc (.cells cs e)).freeze { block := w.heap.size, off := cap } 1 = w.drew.alloc (.cells cs e (cap, cap + 1)) := freeze_new w.drew cs e cap
    simp only [Conv.stringToBytes, Sem.run_bind, run_choose, Question.forced, Bool.false_eq_true, if_false, hd, Result.andThen_ok, ← hcap, Go.newRow, run_newObj, Sem.run_pure, markStringish]
    rw [← hcs]
    have hshape : (shape w.heap.size).run P (w.drew.alloc (.cells cs e)) = .ok (some (e, cs.size)) (w.drew.alloc (.cells cs e)) := by
      simp only [shape, Sem.run, World.shape?, hnew]
    have hal : ({ heap := w.drew.heap.push (.cells cs e), tape := w.drew.tape, drawn := w.drew.drawn, os := w.drew.os, output := w.drew.output } : World) = w.drew.alloc (.cells cs e) := rfl
    have hds : w.drew.heap.size = w.heap.size := rfl
    rw [hds, hal, hshape]
    simp only [Result.andThen_ok, hsz]
    simp only [freeze, Sem.run, hfz, Result.andThen_ok]
theorem sameBytesT_spec {src dst : TypeId} (h : sameBytesT P src dst = true) : src = dst ∧ ∃ e, P.underlying src = some (.slice e) ∧ P.underlying e = some (.int .u8) := by
  unfold sameBytesT at h
  split at h
  · rename_i e hsd hu
    split at h
    · rename_i he; exact ⟨by simpa using hsd, e, hu, he⟩
    · cases h
  · cases h
theorem ok_same (R : Rel A w0 F γ s a w) {nid : Nat} {o : Oper} {out : Out} {src dst : TypeId} {x : Operand} {c : CV} (ho : o.op = .convert src dst x) (hx : s.ev x = .pv (.one c)) (h : (exSame P s.mem src dst c).den = some out) : Sim P A w0 F γ nid s o out a w := by
  unfold exSame at h
  split at h
  case h_2 => exact (den_fail h).elim
  rename_i b
  split at h
  case h_2 => exact (den_fail h).elim
  rename_i y ys he
  split at h
  case h_2 => exact (den_fail h).elim
  rename_i hst
  simp only [T.den, Option.some.injEq] at h
  subst h
  obtain ⟨rfl, e, hu, hue⟩ := sameBytesT_spec hst
  have hX := R.ev x
  rw [hx] at hX
  have hX0 := hX
  obtain ⟨h1, h2, h3⟩ := hX
  rcases h3 _ he with ⟨h4, _⟩ | ⟨g, base, cap, g1, g2, g3, cs, t, g4, g5⟩
  · simp [Blk.len] at h4
  obtain ⟨fr, hfr⟩ : ∃ fr : Nat × Nat, fr = if t.2.1 == t.2.2 then (cs.size, cs.size + 1) else (min t.2.1 cs.size, max t.2.2 (cs.size + 1)) := ⟨_, rfl⟩
  have hno := R.nofr b _ g base he rfl g1 cs t g4
  have hgl : g < w.heap.size := R.bnd b _ g base he g1
  have hw : WSet g w (w.freeze ⟨g, cs.size, none⟩ 1) := by
    unfold World.freeze
    rw [if_neg (by decide)]
    refine ⟨rfl, rfl, rfl, by simp, fun k hk => ?_⟩
    simp only [Array.getElem?_modify]
    rw [if_neg (fun e => hk e.symm)]
  have hg' : (w.freeze ⟨g, cs.size, none⟩ 1).heap[g]? = some (.cells cs t.1 fr) := by
    unfold World.freeze
    rw [if_neg (by decide)]
    simp only [Array.getElem?_modify, g4, if_true, Option.map_some]
    rw [hfr]
  have hws : WStep w (w.freeze ⟨g, cs.size, none⟩ 1) := fun k c' t' hk => by
    by_cases e : k = g
    · subst e
      rw [g4] at hk
      simp only [Option.some.injEq, Obj.cells.injEq] at hk
      exact ⟨cs, (t.1, fr), hg', by rw [← hk.1]; exact Nat.le_refl _⟩
    · exact ⟨c', t', (hw.other k e).trans hk, Nat.le_refl _⟩
  have hrows : (Blk.row .u8 (y :: ys)).isRows = true := rfl
  obtain ⟨ms, M⟩ := R.toMem.write (blk' := .row .u8 (y :: ys)) he rfl g1 hw hws rfl rfl rfl (fun _ _ h => h) (fun c' t' hk => by
    rw [hg'] at hk
    simp only [Option.some.injEq, Obj.cells.injEq] at hk
    obtain ⟨rfl, _, hk3⟩ := hk
    rw [← hk3, hfr]
    right
    split
    · exact Nat.le_refl _
    · rename_i hne
      have hne : t.2.1 ≠ t.2.2 := by simpa using hne
      simp only
      omega) (fun _ _ _ h => by cases h) fun ms i j c hc => by
    obtain ⟨g', base', cs', t', V, k1, k2, k3, k4⟩ := (R.memr b _ he).2 i j c hc
    rw [g1] at k1
    obtain ⟨rfl, rfl⟩ : g = g' ∧ base = base' := by simpa using k1
    rw [g4] at k2
    simp only [Option.some.injEq, Obj.cells.injEq] at k2
    obtain ⟨rfl, _, _⟩ := k2
    exact ⟨g, base, cs, (t.1, fr), V, g1, hg', k3, k4.step ms⟩
  refine Sim.value (V := a.eval x) (w' := w.freeze ⟨g, cs.size, none⟩ 1) ?_ (R.put (o := ⟨.pv (.one (.slf b)), [(b, some ⟨true, .row .u8 (y :: ys)⟩)]⟩) ms (RelV.step (c := .pv (.one (.slf b))) ms hX0) M) (fun b hb => .inl hb) (Ext.refl F γ)
  have hsh : w.shape? g = some (t.1, cs.size) := by unfold World.shape?; rw [g4]
  simp [execOp, ho, convert, run_underlying hu, run_underlying hue, markStringish, g2, hsh]
theorem ok_conv (R : Rel A w0 F γ s a w) {nid : Nat} (hf : ∀ q, nid ≤ q → q < nid + 64 → ¬ F q) {o : Oper} {out : Out} {src dst : TypeId} {x : Operand} (ho : o.op = .convert src dst x) (h : (exConv P s.ev s.mem nid o src dst (s.ev x)).den = some out) : Sim P A w0 F γ nid s o out a w := by
  unfold exConv at h
  have hpure := fun h => ok_pure (P := P) (A := A) (w0 := w0) (F := F) (γ := γ) (s := s) (a := a) (w := w) R (nid := nid) (o := o) (out := out) (fun cs b e => by rw [ho] at e; cases e) h
  have hX := R.ev x
  split at h
  · rename_i S hx
    split at h
    · rename_i hstr
      rw [hx] at hX
      have hX : a.eval x = .string S := hX
      simp only [T.den, Option.some.injEq] at h
      subst h
      obtain ⟨u1, e, u2, u3⟩ := toBytesT_spec hstr
      obtain ⟨cap, cs, n, k1, k2, k3, k4, k5⟩ := stringToBytes_run (P := P) e S w
      have hne : ∀ b, F b → b ≠ nid := fun b hb e => hf nid (Nat.le_refl _) (by omega) (e ▸ hb)
      have hc : (convert src dst (a.eval x)).run P w = .ok (.slice (some ⟨w.heap.size, 0, none⟩) S.size cap) (w.drew.alloc (.cells cs e (n, n + 1))) := by
        rw [hX]
        simp only [convert, Sem.run_bind, run_underlying u1, run_underlying u2, run_underlying u3, Result.andThen_ok]
        exact k5
      have hrows : CellsOf F γ s.mem w.drew (.row .u8 (bytesI S)) ((bytesI S).map (Value.int .u8)) := cellsOf_row _ _ _ _ _ _
      have hlen : (bytesI S).length = S.size := by simp [bytesI]
      have ms := R.drew.mnew hne (some ⟨true, .row .u8 (bytesI S)⟩) (.cells cs e (n, n + 1))
      refine Sim.value (V := .slice (some ⟨w.heap.size, 0, none⟩) S.size cap) (by simp only [execOp, ho, Sem.run_bind, hc, Result.andThen_ok, Sem.run_pure]) (R.drew.put (o := ⟨.pv (.one (.slf nid)), [(nid, some ⟨true, .row .u8 (bytesI S)⟩)]⟩) ms ⟨.inr rfl, ⟨_, _, _, rfl⟩, fun e' he' => ?_⟩
        (R.drew.toMem.new hne (fun cs' t' h => ?_) (fun _ _ _ h => by cases h) (relB_cells (hrows.step ms.zle ms.zsame) fun f v hfv => ⟨w.heap.size, 0, cs, (e, n, n + 1), by simp [addG], heap_alloc_new w.drew _, by rw [Nat.zero_add]; exact k4 f v hfv⟩))) addN_bd (addN_ext hne _ _)
      · rw [updM_one, if_pos rfl] at he'
        obtain rfl := Option.some.inj he'
        exact .inr ⟨w.heap.size, 0, cap, by simp [addG], by simp [Blk.len, hlen], by simp only [Blk.len, hlen]; exact k1, cs, (e, n, n + 1), heap_alloc_new w.drew _, by simp [Blk.n, k2]⟩
      · simp only [Obj.cells.injEq] at h
        obtain ⟨h1, h2, h3⟩ := h
        rw [← h3, ← h1]
        simp only
        omega
    · exact hpure h
  · rename_i c _ hx
    split at h
    · rename_i xs hrow
      split at h
      · rename_i hstr
        obtain rfl := den_ret1 h
        obtain ⟨u1, e, u2, u3⟩ := isBytesT_spec hstr
        rw [hx] at hX
        obtain ⟨a2, c2, Vs, hV, hcv, hr⟩ := row_read (P := P) R hX hrow rfl
        have hvs : Vs = xs.map fun n => Value.int .u8 n := by
          apply List.ext_getElem?
          intro f
          obtain ⟨_, c2, c3⟩ := hcv
          simp only [Blk.len, Blk.n, Nat.mul_one] at c2
          by_cases hlt : f < xs.length
          · obtain ⟨V, v1, v2⟩ := c3 f 0 (.val (.int .u8 (nth 0 xs f))) (by simp [Blk.at, hlt])
            simp only [Blk.n, Nat.mul_one, Nat.add_zero] at v1
            rw [v1, List.getElem?_map, List.getElem?_eq_getElem hlt]
            have v2 : V = .int .u8 (nth 0 xs f) := v2
            rw [v2, nth_eq, List.getD_eq_getElem?_getD, List.getElem?_eq_getElem hlt]; rfl
          · rw [List.getElem?_eq_none (by omega), List.getElem?_eq_none (by simp; omega)]
        have hb := bytesToString_run (P := P) (W := w) (xs := xs) hV (by have := hr w fun _ => rfl; rw [hvs] at this; exact this)
        refine Sim.look R (V := .string (strOf xs)) ?_ rfl
        rw [hV] at hb
        have hc : (convert src dst (a.eval x)).run P w = .ok (.string (strOf xs)) w := by
          rw [hV]
          simp only [convert, Sem.run_bind, run_underlying u1, run_underlying u2, run_underlying u3, Result.andThen_ok]
          exact hb
        simp only [execOp, ho, Sem.run_bind, hc, Result.andThen_ok, Sem.run_pure]
      · exact ok_same R ho hx h
    · exact hpure h
  · exact hpure h
end
end Go.Proofs.Ytmmaechogibodaa.Vm
