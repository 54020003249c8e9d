/- The abstract interpreter's append is the model's. Conditions: none here. -/
import Derived.Test.YtoibhkhgpahdjaaVmH
set_option linter.unusedVariables false
set_option linter.unusedSimpArgs false
namespace Go.Proofs.Ytoibhkhgpahdjaa.Vm
open Go Go.RowKit

section
variable {P : Program} {A : Nat → Prop} {w0 : World} {F : Nat → Prop} {γ : GM} {s : St} {a : Act} {w : World}
theorem growBy_le (newLen : Nat) : ∀ (r c : Nat), c < newLen → Builtin.growBy newLen r c ≤ newLen + (newLen + 768) / 4
  | 0, c, h => by simp [Builtin.growBy]; omega
  | r + 1, c, h => by
    simp only [Builtin.growBy]
    rw [if_neg (by omega)]
    by_cases h2 : c + (c + 768) / 4 < newLen
    · exact growBy_le newLen r _ h2
    · have : Builtin.growBy newLen r (c + (c + 768) / 4) = c + (c + 768) / 4 := by
        cases r with
        | zero => rfl
        | succ r => simp only [Builtin.growBy]; rw [if_pos (by omega)]
      rw [this]; omega
theorem nextcap_le {need cap : Nat} (h : cap < need) : Builtin.nextslicecap need cap ≤ need + need / 4 + 704 := by
  unfold Builtin.nextslicecap
  split
  · omega
  · split
    · omega
    · have := growBy_le need 4 cap h; omega
theorem append_fits {t t2 e e2 ty : TypeId} {n : Nat} (hu : P.underlying t = some (.slice e)) (hu2 : P.underlying t2 = some (.slice e2)) (hs : ∀ W, (sizeOf e).run P W = .ok n W)
    {base : Option Addr} {sLen sCap : Nat} {X : Value} {l2 : Nat} {a2 : Option Addr} {c2 : Nat} (hX : X = .slice a2 l2 c2) (hfit : sLen + l2 ≤ sCap) {vs : List Value} {w' : World}
    (hfc : (Builtin.firstCells n l2 X).run P w = .ok vs.toArray w) (hst : (match base with | some a => storeCells (a.add (sLen * n)) vs | none => pure ()).run P w = .ok () w') :
    (Builtin.append_ #[t, t2] ty #[.slice base sLen sCap, X]).run P w = .ok (.slice base (sLen + l2) sCap) w' := by
  subst hX
  cases base with
  | none =>
    have hst : w = w' := by simpa using hst
    subst hst
    simp [Builtin.append_, run_underlying hu, run_underlying hu2, hs, Builtin.lenOf, hfit, hfc]
  | some b =>
    simp only at hst
    simp [Builtin.append_, run_underlying hu, run_underlying hu2, hs, Builtin.lenOf, hfit, hfc, hst]
theorem append_grows {t t2 e e2 ty : TypeId} {n : Nat} {i : TypeInfo} {z : Value} (hu : P.underlying t = some (.slice e)) (hu2 : P.underlying t2 = some (.slice e2)) (hs : ∀ W, (sizeOf e).run P W = .ok n W)
    (hi : P.info? e = some i) (hz : i.zero = some z) (hb : i.bytes ≤ 16) (hb0 : i.bytes ≠ 0)
    {base : Option Addr} {sLen sCap : Nat} {X : Value} {l2 : Nat} {a2 : Option Addr} {c2 : Nat} (hX : X = .slice a2 l2 c2) (hfit : ¬ sLen + l2 ≤ sCap) (hN : sLen + l2 ≤ 8796093022208) {vs us : List Value}
    (hfc : (Builtin.firstCells n l2 X).run P w.drew = .ok vs.toArray w.drew) (hfs : (Builtin.firstCells n sLen (.slice base sLen sCap)).run P w.drew = .ok us.toArray w.drew) :
    ∃ cap rest, sLen + l2 ≤ cap ∧ rest.size = (cap - (sLen + l2)) * z.cells.size ∧ (Builtin.append_ #[t, t2] ty #[.slice base sLen sCap, X]).run P w = .ok (.slice (some ⟨w.heap.size, 0, none⟩) (sLen + l2) cap) (w.drew.alloc (.cells (us.toArray ++ vs.toArray ++ rest) e)) := by
  subst hX
  have hcap := nextcap_le (show sCap < sLen + l2 by omega)
  have h1 : ¬ (Builtin.nextslicecap (sLen + l2) sCap * i.bytes > 2 ^ 48) := by
    have : Builtin.nextslicecap (sLen + l2) sCap * i.bytes ≤ (sLen + l2 + (sLen + l2) / 4 + 704) * 16 := Nat.mul_le_mul hcap hb
    omega
  refine ⟨(Question.appendCap (sLen + l2) sCap e).cut (w.tape w.drawn (.appendCap (sLen + l2) sCap e)), Builtin.zeroCells z.cells ((Question.appendCap (sLen + l2) sCap e).cut (w.tape w.drawn (.appendCap (sLen + l2) sCap e)) - (sLen + l2)), ?_, by simp [Builtin.zeroCells], ?_⟩
  · simp only [Question.cut]; omega
  · have hd : ({ w with drawn := w.drawn + 1 } : World) = w.drew := rfl
    simp only [Builtin.append_, run_underlying hu, run_underlying hu2, Sem.run_bind, Result.andThen_ok, hs, Builtin.lenOf, Sem.run_pure, Sem.run_ite, hfit, if_false, sInfo hi, List.getElem?_toArray, List.getElem?_cons_zero, List.getElem?_cons_succ, Bool.false_eq_true, false_or, hb0, and_false, h1, run_choose, Question.forced, run_askRoom, hd, hfs, hfc, zeroValue, hz, Go.newRow, run_newObj, Bool.not_false, if_true]
    simp [hfc, hb0, h1, hd, hfs]
    rfl
theorem vals_trim {k : IntKind} {xs : List Int} {off l f : Nat} {v : Value} (h : (vals (.row k ((xs.drop off).take l)))[f]? = some v) : (vals (.row k xs))[off * 1 + f]? = some v := by
  simp only [vals, List.getElem?_map] at h ⊢
  rw [List.getElem?_take] at h
  split at h
  · rw [List.getElem?_drop] at h; simpa using h
  · cases h
theorem vals_trimR {ks : List IntKind} {xs : List (List Int)} {off l f : Nat} {v : Value} (h : (vals (.recs ks ((xs.drop off).take l)))[f]? = some v) : (vals (.recs ks xs))[off * len ks + f]? = some v := by
  obtain ⟨i, j, rfl, h2⟩ := vals_at (blk := .recs ks ((xs.drop off).take l)) rfl h
  have h3 : (Blk.recs ks xs).at (off + i) j = some (.val v) := by
    simp only [Blk.at] at h2 ⊢
    split at h2
    · rename_i hi
      have hi' : off + i < xs.length := by simp at hi; omega
      have hil : i < l := by simp at hi; omega
      rw [if_pos hi']
      rw [nth_eq, List.getD_eq_getElem?_getD, List.getElem?_take, if_pos hil, List.getElem?_drop] at h2
      rw [nth_eq, List.getD_eq_getElem?_getD]; exact h2
    · cases h2
  obtain ⟨_, _, v', e, h4⟩ := at_vals (blk := .recs ks xs) rfl h3
  cases e
  rw [show off * len ks + (i * (Blk.recs ks (List.take l (List.drop off xs))).n + j) = (off + i) * (Blk.recs ks xs).n + j by simp only [Blk.n]; rw [Nat.add_mul]; omega]
  exact h4
def blkOf : CV → Nat
  | .slf b => b
  | .slc b _ _ => b
  | _ => 0
/-- What is read of a slice. -/
theorem row_read (R : Rel A w0 F γ s a w) {c : CV} {X : Value} {bx : Blk} (h : RelC F γ s.mem w c X) (hb : rowOf s.mem c = some bx) (hr : bx.isRow = true) :
    ∃ a2 c2, X = .slice a2 bx.len c2 ∧ ∀ W : World, (∀ a, W.cell? a = w.cell? a) → (Builtin.firstCells bx.n bx.len X).run P W = .ok (vals bx).toArray W := by
  have key : ∀ {off l n : Nat}, slcOk γ w (blkOf c) off l n X → bx.len = l → bx.n = n →
      (∀ f v, (vals bx)[f]? = some v → ∃ (g base : Nat) (cs : Array Value) (t : TF), γ (blkOf c) = some (g, base) ∧ w.heap[g]? = some (.cells cs t.1 t.2) ∧ cs[base + off * n + f]? = some v) →
      ∃ a2 c2, X = .slice a2 bx.len c2 ∧ ∀ W : World, (∀ a, W.cell? a = w.cell? a) → (Builtin.firstCells bx.n bx.len X).run P W = .ok (vals bx).toArray W := by
    intro off l n hs hl hn hv
    have hvl := vals_len hr
    rcases hs with ⟨h0, a0, rfl⟩ | ⟨g, base, cap, h1, rfl, h3, cs, t, h4, h5⟩
    · have hl0 : bx.len = 0 := by omega
      have hv0 : vals bx = [] := List.eq_nil_of_length_eq_zero (by rw [hvl, hl0, Nat.zero_mul])
      refine ⟨a0, 0, by rw [hl0], fun W _ => ?_⟩
      rw [hv0, hl0]
      cases a0 <;> simp [Builtin.firstCells, loadCells, loadCellsFrom]
    · refine ⟨_, cap, by rw [hl], fun W hW => ?_⟩
      have := run_loadCells_list (P := P) W ⟨g, base + off * n, none⟩ (vals bx) (fun j v hj => by
        rw [addr_add, hW]
        obtain ⟨g', base', cs', t', k1, k2, k3⟩ := hv j v hj
        rw [h1] at k1
        obtain ⟨rfl, rfl⟩ : g = g' ∧ base = base' := by simpa using k1
        simp only [World.cell?, k2]
        simpa using k3)
      simp only [Builtin.firstCells]
      rw [show bx.len * bx.n = (vals bx).length by rw [hvl]]
      exact this
  cases c with
  | val v => simp [rowOf] at hb
  | any => simp [rowOf] at hb
  | ptr b i n j => simp [rowOf] at hb
  | slf b =>
    simp only [rowOf] at hb
    split at hb
    · rename_i e he
      obtain rfl := Option.some.inj hb
      have h1 := h.2.2 e he
      have h2 := (R.memr b e he).2
      refine key (off := 0) h1 rfl rfl fun f v hf => ?_
      obtain ⟨g, base, cs, t, k1, k2, k3⟩ := flat_relB hr h2 f v hf
      exact ⟨g, base, cs, t, k1, k2, by simpa using k3⟩
    · cases hb
  | slc b off l =>
    simp only [rowOf] at hb
    split at hb
    · rename_i o k xs he
      obtain rfl := Option.some.inj hb
      obtain ⟨h0, h1⟩ := h.2.2 _ he
      have h2 := (R.memr b _ he).2
      refine key (off := off) h1 (by simp [Blk.len] at h0 ⊢; omega) rfl fun f v hf => ?_
      obtain ⟨g, base, cs, t, k1, k2, k3⟩ := flat_relB (blk := .row k xs) rfl h2 _ v (vals_trim hf)
      exact ⟨g, base, cs, t, k1, k2, by rw [← k3]; simp [Blk.n, Nat.add_assoc]⟩
    · rename_i o k xs he
      obtain rfl := Option.some.inj hb
      obtain ⟨h0, h1⟩ := h.2.2 _ he
      have h2 := (R.memr b _ he).2
      refine key (off := off) h1 (by simp [Blk.len] at h0 ⊢; omega) rfl fun f v hf => ?_
      obtain ⟨g, base, cs, t, k1, k2, k3⟩ := flat_relB (blk := .recs k xs) rfl h2 _ v (vals_trimR hf)
      exact ⟨g, base, cs, t, k1, k2, by rw [← k3]; simp [Blk.n, Nat.add_assoc]⟩
    · cases hb
theorem isEK_spec {ek : EK} {b : Blk} (h : isEK ek b = true) : b.isRow = true ∧ b.n = ek.n := by
  cases ek <;> cases b <;> simp [isEK] at h <;> subst h <;> exact ⟨rfl, rfl⟩
theorem catB_spec {b c d : Blk} (h : catB b c = some d) : d.isRow = true ∧ c.isRow = true ∧ d.len = b.len + c.len ∧ d.n = b.n ∧ c.n = b.n ∧ vals d = vals b ++ vals c := by
  cases b with
  | cells l => simp [catB] at h
  | row k xs =>
    cases c with
    | row k' ys =>
      simp only [catB] at h
      split at h
      · rename_i e; subst e; obtain rfl := Option.some.inj h; exact ⟨rfl, rfl, by simp [Blk.len], rfl, rfl, by simp [vals]⟩
      · cases h
    | _ => simp [catB] at h
  | recs k xs =>
    cases c with
    | recs k' ys =>
      simp only [catB] at h
      split at h
      · rename_i e; subst e; obtain rfl := Option.some.inj h; exact ⟨rfl, rfl, by simp [Blk.len], rfl, rfl, by simp [vals]⟩
      · cases h
    | _ => simp [catB] at h
theorem updM_two (m : MM) (b q : Nat) (e e' : Option Ent) (x : Nat) : updM m [(b, e), (q, e')] x = if x = q then e' else if x = b then e else m x := by
  simp only [updM]
  by_cases h : x = q
  · simp [h]
  · by_cases h2 : x = b <;> simp [h, h2]
/-- A block goes over into another, of which more is known; what lies in it may be written. -/
theorem Rel.move (R : Rel A w0 F γ s a w) {b q : Nat} {bs bc : Blk} (he : s.mem b = some ⟨true, bs⟩) (hf : ∀ x, F x → x ≠ q) {w' : World} {v : SV} {V : Value}
    (hw : w' = w ∨ ∃ (g base : Nat) (cs cs' : Array Value) (t : TF), γ b = some (g, base) ∧ w.heap[g]? = some (.cells cs t.1 t.2) ∧ cs'.size = cs.size ∧ w' = w.setRow g cs')
    (hB : RelB (addN F q) (fun x => if x = q then γ b else γ x) (updM s.mem [(b, none), (q, some ⟨true, bc⟩)]) w' q bc)
    (hV : RelV (addN F q) (fun x => if x = q then γ b else γ x) (updM s.mem [(b, none), (q, some ⟨true, bc⟩)]) w' v V) (dst : Option Tmp) :
    Rel A w0 (addN F q) (fun x => if x = q then γ b else γ x) (s.app dst ⟨v, [(b, none), (q, some ⟨true, bc⟩)]⟩) (a.put dst V) w' := by
  have hbq : b ≠ q := hf b (R.memr b _ he).1
  have hm : ∀ x e, updM s.mem [(b, none), (q, some ⟨true, bc⟩)] x = some e → (x = q ∧ e = ⟨true, bc⟩) ∨ (x ≠ q ∧ x ≠ b ∧ s.mem x = some e) := by
    intro x e hx
    rw [updM_two] at hx
    by_cases h : x = q
    · rw [if_pos h] at hx; exact .inl ⟨h, (Option.some.inj hx).symm⟩
    · rw [if_neg h] at hx
      by_cases h2 : x = b
      · rw [if_pos h2] at hx; cases hx
      · rw [if_neg h2] at hx; exact .inr ⟨h, h2, hx⟩
  have hws : WStep w w' := by
    rcases hw with rfl | ⟨g, base, cs, cs', t, h1, h2, h3, rfl⟩
    · exact WStep.refl _
    · exact wstep_setRow h2 h3
  have hbel : Bel w0.heap.size w0 w' := by
    rcases hw with rfl | ⟨g, base, cs, cs', t, h1, h2, h3, rfl⟩
    · exact R.below
    · exact R.below.setRow (R.own b _ g base he rfl h1).1 h2 cs'
  have hsz : w'.heap.size = w.heap.size := by
    rcases hw with rfl | ⟨g, base, cs, cs', t, h1, h2, h3, rfl⟩
    · rfl
    · simp
  have hkeep : ∀ x e g base, x ≠ b → s.mem x = some e → γ x = some (g, base) → w'.heap[g]? = w.heap[g]? := by
    intro x e g base hxb hx hg
    rcases hw with rfl | ⟨g', base', cs, cs', t, h1, h2, h3, rfl⟩
    · rfl
    · exact setRow_other w g' g cs' ((R.own b _ g' base' he rfl h1).2 x e g base hxb hx hg)
  have ms : MStep F γ s.mem w (addN F q) (fun x => if x = q then γ b else γ x) (updM s.mem [(b, none), (q, some ⟨true, bc⟩)]) w' :=
    ⟨fun x h => .inl h, fun x h => by simp [hf x h], fun x e hx h => by
      rcases hm x e h with ⟨rfl, _⟩ | ⟨_, _, h3⟩
      · exact absurd rfl (hf x hx)
      · exact ⟨e, h3, rfl, rfl, fun _ _ h => h⟩, hws⟩
  refine R.put (o := ⟨v, [(b, none), (q, some ⟨true, bc⟩)]⟩) hbel ms hV (fun x e hx => ?_) (fun x e g base hx ho hg => ?_) (fun x e g base hx ho hg => ?_) (fun x e g base hx hg => ?_)
  · rcases hm x e hx with ⟨rfl, rfl⟩ | ⟨h1, h2, h3⟩
    · exact ⟨.inr rfl, hB⟩
    · obtain ⟨k1, k2⟩ := R.memr x e h3
      refine ⟨.inl k1, fun i j c hc => ?_⟩
      obtain ⟨g, base, cs, t, V', v1, v2, v3, v4⟩ := k2 i j c hc
      exact ⟨g, base, cs, t, V', by simp [h1, v1], (hkeep x e g base h2 h3 v1).trans v2, v3, v4.step ms⟩
  · rcases hm x e hx with ⟨rfl, rfl⟩ | ⟨h1, h2, h3⟩
    · simp only [if_true] at hg
      obtain ⟨k1, k2⟩ := R.own b _ g base he rfl hg
      refine ⟨k1, fun x' e' g' base' hne hx' hg' => ?_⟩
      rcases hm x' e' hx' with ⟨rfl, _⟩ | ⟨h1', h2', h3'⟩
      · exact absurd rfl hne
      · simp only [if_neg h1'] at hg'
        exact k2 x' e' g' base' h2' h3' hg'
    · simp only [if_neg h1] at hg
      obtain ⟨k1, k2⟩ := R.own x e g base h3 ho hg
      refine ⟨k1, fun x' e' g' base' hne hx' hg' => ?_⟩
      rcases hm x' e' hx' with ⟨rfl, rfl⟩ | ⟨h1', h2', h3'⟩
      · simp only [if_true] at hg'
        exact k2 b _ g' base' (Ne.symm h2) he hg'
      · simp only [if_neg h1'] at hg'
        exact k2 x' e' g' base' hne h3' hg'
  · rcases hm x e hx with ⟨rfl, rfl⟩ | ⟨h1, h2, h3⟩
    · cases ho
    · simp only [if_neg h1] at hg
      exact R.shr x e g base h3 ho hg
  · rw [hsz]
    rcases hm x e hx with ⟨rfl, rfl⟩ | ⟨h1, h2, h3⟩
    · simp only [if_true] at hg
      exact R.bnd b _ g base he hg
    · simp only [if_neg h1] at hg
      exact R.bnd x e g base h3 hg
/-- A draw is not seen. -/
theorem Rel.drew (R : Rel A w0 F γ s a w) : Rel A w0 F γ s a w.drew :=
  have ms : MStep F γ s.mem w F γ s.mem w.drew := ⟨fun _ h => h, fun _ _ => rfl, fun b e _ h => ⟨e, h, rfl, rfl, fun _ _ h => h⟩, fun g cs t h => ⟨cs, t, h, Nat.le_refl _⟩⟩
  ⟨R.below.drew, R.defers, R.size, fun t => (R.slots t).step ms, fun b e h => ⟨(R.memr b e h).1, fun i j c hc => let ⟨g, base, cs, t, V, v1, v2, v3, v4⟩ := (R.memr b e h).2 i j c hc; ⟨g, base, cs, t, V, v1, v2, v3, v4.step ms⟩⟩, R.own, R.shr, R.bnd⟩
end
end Go.Proofs.Ytoibhkhgpahdjaa.Vm
