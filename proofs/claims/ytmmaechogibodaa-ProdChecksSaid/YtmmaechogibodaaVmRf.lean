/- What stays, where a range over a function writes a few blocks. Conditions: none here. -/
import Derived.Test.YtmmaechogibodaaVmIn
set_option linter.unusedVariables false
set_option linter.unusedSimpArgs false
namespace Go.Proofs.Ytmmaechogibodaa.Vm
open Go Go.RowKit
section
variable {P : Program} {A : Ctx} {w0 : World} {F : NS} {γ : GM} {s : St} {a : Act} {w : World}
/-- Memory as it is seen from within. -/
theorem view_mem {W : World} {Z I : Nat → Prop} {m : MM} {γ : GM} {N : Nat} {d : List Deferred} (hm : ∀ b e, m b = some e → b < N ∧ RelB ⟨fun b => b < N, Z⟩ γ m W b e.blk)
    (hown : ∀ b e g base, m b = some e → e.own = true → γ b = some (g, base) → I g ∧ nofr W g ∧ ¬ Z g ∧ ∀ b' e' g' base', b' ≠ b → m b' = some e' → γ b' = some (g', base') → g' ≠ g)
    (hsh : ∀ b e g base, m b = some e → e.own = false → γ b = some (g, base) → Z g)
    (hb : ∀ b e g base, m b = some e → γ b = some (g, base) → g < W.heap.size)
    (hmap : ∀ b o kk vk es, m b ≠ some ⟨o, .map kk vk es⟩)
    (hZ : ∀ g, Z g → g < W.heap.size) : Mem ⟨Z, I, d⟩ W ⟨fun b => b < N, Z⟩ γ m [] W where
  below := Bel.refl I W
  memr b e h := hm b e h
  own b e g base h ho hg := ⟨.inr (hown b e g base h ho hg).1, (hown b e g base h ho hg).2.2.2⟩
  nofr b e g base h ho hg := (hown b e g base h ho hg).2.1
  shr b e g base h ho hg := hsh b e g base h ho hg
  bnd b e g base h hg := hb b e g base h hg
  maps b o kk vk es g base h := (hmap b o kk vk es h).elim
  zok g hz := ⟨hZ g hz, .inl hz, fun b e base h ho hg => (hown b e g base h ho hg).2.2.1 hz⟩
  rts b h := by simp at h
/-- A state behind code that turned some of its blocks, and gave new ones. -/
theorem Rel.turn {I X : Nat → Prop} {w' : World} {m' : MM} {F' : NS} {γ' : GM} {a' : Act} {nx' : Nat} (R : Rel A w0 F γ s a w) (hB : Bel I w.heap.size w w') (ha : a'.tmps = a.tmps)
    (hF : ∀ b, F b → F' b) (hz : F'.z = F.z) (hγ : ∀ b, F b → γ' b = γ b)
    (hI : ∀ g, I g → ∃ b e base, X b ∧ s.mem b = some e ∧ e.own = true ∧ γ b = some (g, base))
    (hkeep : ∀ b, ¬ X b → m' b = s.mem b)
    (hnew : ∀ b e, X b → m' b = some e → F' b ∧ RelB F' γ' m' w' b e.blk ∧ e.own = true ∧ (∀ kk vk es, e.blk ≠ .map kk vk es))
    (hold : ∀ b e, X b → F b → m' b = some e → ∃ e0, s.mem b = some e0 ∧ e0.own = true ∧ AsLong e0.blk e.blk)
    (hfr : ∀ b e g base, X b → m' b = some e → γ' b = some (g, base) → nofr w' g)
    (hfresh : ∀ b e g base, X b → ¬ F b → m' b = some e → γ' b = some (g, base) → w.heap.size ≤ g ∧ g < w'.heap.size ∧ ∀ b' e' g' base', X b' → ¬ F b' → b' ≠ b → m' b' = some e' → γ' b' = some (g', base') → g' ≠ g) :
    Rel { A with d := a'.defers } w0 F' γ' { s with mem := m', nx := nx' } a' w' := by
  have notI : ∀ b e g base, ¬ X b → s.mem b = some e → γ b = some (g, base) → ¬ I g := fun b e g base hX hb hg hi => by
    obtain ⟨b0, e0, base0, x0, m0, o0, g0⟩ := hI g hi
    exact (R.own b0 e0 g base0 m0 o0 g0).2 b e g base (fun e => hX (e ▸ x0)) hb hg rfl
  have zI : ∀ g, F.z g → ¬ I g := fun g hz hi => by
    obtain ⟨b0, e0, base0, x0, m0, o0, g0⟩ := hI g hi
    exact (R.zok g hz).2.2 b0 e0 base0 m0 o0 g0
  have same : ∀ b e g base, ¬ X b → s.mem b = some e → γ b = some (g, base) → w'.heap[g]? = w.heap[g]? := fun b e g base hX hb hg => hB.block g (R.bnd b e g base hb hg) (notI b e g base hX hb hg)
  have ms : MStep F γ s.mem w F' γ' m' w' := ⟨hF, hγ, fun b e' hFb he' => by
    by_cases hX : X b
    · obtain ⟨e0, h1, h2, h3⟩ := hold b e' hX hFb he'
      exact ⟨e0, h1, h3.1, h3.2.1, h3.2.2.1, h3.2.2.2⟩
    · rw [hkeep b hX] at he'; exact ⟨e', he', rfl, rfl, rfl, fun _ _ h => h⟩, hB.wst, fun g h => by rw [hz]; exact h, fun g h => hB.block g (R.zok g h).1 (zI g h)⟩
  have oldOr : ∀ b e g base, m' b = some e → γ' b = some (g, base) → (F b ∧ ∃ e0, s.mem b = some e0 ∧ γ b = some (g, base) ∧ (e.own = true → e0.own = true)) ∨ (X b ∧ ¬ F b) := fun b e g base hb hg => by
    by_cases hX : X b
    · by_cases hFb : F b
      · obtain ⟨e0, h1, h2, h3⟩ := hold b e hX hFb hb
        exact .inl ⟨hFb, e0, h1, (hγ b hFb).symm.trans hg, fun _ => h2⟩
      · exact .inr ⟨hX, hFb⟩
    · rw [hkeep b hX] at hb
      have hFb := (R.memr b e hb).1
      exact .inl ⟨hFb, e, hb, (hγ b hFb).symm.trans hg, id⟩
  refine { below := R.below.call hB R.below.size (fun g hi => ?_), memr := fun b e hb => ?_, own := fun b e g base hb ho hg => ?_, nofr := fun b e g base hb ho hg => ?_, shr := fun b e g base hb ho hg => ?_, bnd := fun b e g base hb hg => ?_, maps := fun b o kk vk es g base hb hg => ?_, zok := fun g hzg => ?_, rts := fun b hb => hF b (R.rts b hb), defers := rfl, size := by rw [ha]; exact R.size, slots := fun t => by rw [ha]; exact (R.slots t).step ms }
  · obtain ⟨b0, e0, base0, x0, m0, o0, g0⟩ := hI g hi
    exact (R.own b0 e0 g base0 m0 o0 g0).1
  · by_cases hX : X b
    · have := hnew b e hX hb; exact ⟨this.1, this.2.1⟩
    · have hb' : s.mem b = some e := by rw [← hkeep b hX]; exact hb
      obtain ⟨h1, h2⟩ := R.memr b e hb'
      exact ⟨hF b h1, h2.step ms (hγ b h1) fun g base hg => same b e g base hX hb' hg⟩
  · rcases oldOr b e g base hb hg with ⟨hFb, e0, h1, h2, h3⟩ | ⟨hX, hFb⟩
    · refine ⟨(R.own b e0 g base h1 (h3 ho) h2).1, fun b' e' g' base' hne hb' hg' => ?_⟩
      rcases oldOr b' e' g' base' hb' hg' with ⟨hFb', e0', k1, k2, k3⟩ | ⟨hX', hFb'⟩
      · exact (R.own b e0 g base h1 (h3 ho) h2).2 b' e0' g' base' hne k1 k2
      · have := (hfresh b' e' g' base' hX' hFb' hb' hg').1
        have := R.bnd b e0 g base h1 h2
        omega
    · obtain ⟨f1, f2, f3⟩ := hfresh b e g base hX hFb hb hg
      refine ⟨.inl (Nat.le_trans R.below.size f1), fun b' e' g' base' hne hb' hg' => ?_⟩
      rcases oldOr b' e' g' base' hb' hg' with ⟨hFb', e0', k1, k2, k3⟩ | ⟨hX', hFb'⟩
      · have := R.bnd b' e0' g' base' k1 k2
        omega
      · exact f3 b' e' g' base' hX' hFb' hne hb' hg'
  · by_cases hX : X b
    · exact hfr b e g base hX hb hg
    · have hb' : s.mem b = some e := by rw [← hkeep b hX]; exact hb
      have hg' := (hγ b (R.memr b e hb').1).symm.trans hg
      exact (R.nofr b e g base hb' ho hg').of (same b e g base hX hb' hg')
  · by_cases hX : X b
    · rw [(hnew b e hX hb).2.2.1] at ho; cases ho
    · have hb' : s.mem b = some e := by rw [← hkeep b hX]; exact hb
      rw [hz]; exact R.shr b e g base hb' ho ((hγ b (R.memr b e hb').1).symm.trans hg)
  · rcases oldOr b e g base hb hg with ⟨hFb, e0, h1, h2, h3⟩ | ⟨hX, hFb⟩
    · have := R.bnd b e0 g base h1 h2
      have := hB.size
      omega
    · exact (hfresh b e g base hX hFb hb hg).2.1
  · by_cases hX : X b
    · exact ((hnew b _ hX hb).2.2.2 kk vk es rfl).elim
    · have hb' : s.mem b = some ⟨o, .map kk vk es⟩ := by rw [← hkeep b hX]; exact hb
      have hg' := (hγ b (R.memr b _ hb').1).symm.trans hg
      obtain ⟨ents, clock, h1, h2⟩ := R.maps b o kk vk es g base hb' hg'
      exact ⟨ents, clock, (same b _ g base hX hb' hg').trans h1, h2⟩
  · rw [hz] at hzg
    refine ⟨Nat.lt_of_lt_of_le (R.zok g hzg).1 hB.size, (R.zok g hzg).2.1, fun b e base hb ho hg => ?_⟩
    rcases oldOr b e g base hb hg with ⟨hFb, e0, h1, h2, h3⟩ | ⟨hX, hFb⟩
    · exact (R.zok g hzg).2.2 b e0 base h1 (h3 ho) h2
    · have := (hfresh b e g base hX hFb hb hg).1
      have := (R.zok g hzg).1
      omega
/-- Values alone stand in a block: whatever else is known. -/
def vals : List CV → Bool
  | [] => true
  | .val _ :: l => vals l
  | _ => false
theorem vals_get : ∀ {l : List CV} {k : Nat} {c : CV}, vals l = true → l[k]? = some c → ∃ v, c = .val v
  | .val v :: l, 0, c, _, h => ⟨v, by simpa using h.symm⟩
  | .val v :: l, k + 1, c, hv, h => vals_get (l := l) (by simpa [vals] using hv) (by simpa using h)
  | [], _, _, _, h => by simp at h
theorem relB_vals {l : List CV} (hl : vals l = true) {m m' : MM} {F' : NS} {γ' : GM} {w' : World} {b b' : Nat} (hg : γ' b' = γ b) (hw : ∀ g base, γ b = some (g, base) → w'.heap[g]? = w.heap[g]?) (h : RelB F γ m w b (.cells l)) : RelB F' γ' m' w' b' (.cells l) := fun i j c hc => by
  obtain ⟨g, base, cs, t, V, h1, h2, h3, h4⟩ := h i j c hc
  simp only [Blk.at] at hc
  split at hc
  · obtain ⟨v, rfl⟩ := vals_get hl hc
    exact ⟨g, base, cs, t, V, hg.trans h1, (hw g base h1).trans h2, h3, h4⟩
  · cases hc
end
end Go.Proofs.Ytmmaechogibodaa.Vm
