/- A state looked at from within, and worlds that turn elsewhere. Conditions: none here. -/
import Derived.Test.YtmmaechogibodaaVmRf
import Derived.RangeFuncOwn
set_option linter.unusedVariables false
set_option linter.unusedSimpArgs false
namespace Go.Proofs.Ytmmaechogibodaa.Vm
open Go Go.RowKit
section
variable {P : Program} {A : Ctx} {w0 : World} {F : NS} {γ : GM} {s : St} {a : Act} {w : World}
theorem bel_put {B : Nat} {W : World} {l : Nat} {o : Obj} (o' : Obj) (hl : W.heap[l]? = some o) (ho : o.isCells = false) : Bel (fun g => g = l) B W (W.putObj l o') :=
  ⟨rfl, rfl, rfl, by simp, fun k _ hk => World.putObj_heap_other hk, fun g cs t hg => by
    have hne : g ≠ l := fun e => by rw [e, hl] at hg; obtain rfl := Option.some.inj hg; simp [Obj.isCells] at ho
    exact ⟨cs, t, (World.putObj_heap_other hne).trans hg, Nat.le_refl _⟩⟩
theorem Bel.mono {I J : Nat → Prop} {B B' : Nat} {w w' : World} (h : Bel I B w w') (hB : B' ≤ B) (hI : ∀ g, g < B' → I g → J g) : Bel J B' w w' :=
  ⟨h.os, h.tape, h.output, h.size, fun k hk hn => h.block k (by omega) fun hi => hn (hI k hk hi), h.wst⟩
/-- What a state speaks of. -/
def Tracked (F : NS) (γ : GM) (m : MM) (g : Nat) : Prop := F.z g ∨ ∃ b e base, m b = some e ∧ γ b = some (g, base)
def Owned (γ : GM) (m : MM) (g : Nat) : Prop := ∃ b e base, m b = some e ∧ e.own = true ∧ γ b = some (g, base)
theorem Rel.tracked (R : Rel A w0 F γ s a w) {g : Nat} (h : Tracked F γ s.mem g) : A.a g ∨ w0.heap.size ≤ g ∨ A.i g := by
  rcases h with h | ⟨b, e, base, h1, h2⟩
  · exact (R.zok g h).2.1
  · cases ho : e.own with
    | true => exact .inr (R.own b e g base h1 ho h2).1
    | false => exact (R.zok g (R.shr b e g base h1 ho h2)).2.1
theorem Rel.tracked_lt (R : Rel A w0 F γ s a w) {g : Nat} (h : Tracked F γ s.mem g) : g < w.heap.size := by
  rcases h with h | ⟨b, e, base, h1, h2⟩
  · exact (R.zok g h).1
  · exact R.bnd b e g base h1 h2
/-- From here on: whatever else has turned. -/
theorem Rel.reroot (R : Rel A w0 F γ s a w) {I : Nat → Prop} {w' : World} (hB : Bel I w.heap.size w w') (hI : ∀ g, Tracked F γ s.mem g → ¬ I g) : Rel ⟨F.z, Owned γ s.mem, a.defers⟩ w' F γ s a w' := by
  have same : ∀ g, Tracked F γ s.mem g → w'.heap[g]? = w.heap[g]? := fun g hg => hB.block g (R.tracked_lt hg) (hI g hg)
  have ms : MStep F γ s.mem w F γ s.mem w' := ⟨fun _ h => h, fun _ _ => rfl, fun b e' _ he' => ⟨e', he', rfl, rfl, rfl, fun _ _ h => h⟩, hB.wst, fun _ h => h, fun g h => same g (.inl h)⟩
  exact
  { below := Bel.refl _ w'
    memr := fun b e hb => ⟨(R.memr b e hb).1, (R.memr b e hb).2.step ms rfl fun g base hg => same g (.inr ⟨b, e, base, hb, hg⟩)⟩
    own := fun b e g base hb ho hg => ⟨.inr ⟨b, e, base, hb, ho, hg⟩, (R.own b e g base hb ho hg).2⟩
    nofr := fun b e g base hb ho hg => (R.nofr b e g base hb ho hg).of (same g (.inr ⟨b, e, base, hb, hg⟩))
    shr := R.shr
    bnd := fun b e g base hb hg => Nat.lt_of_lt_of_le (R.bnd b e g base hb hg) hB.size
    maps := fun b o kk vk es g base hb hg => by
      obtain ⟨ents, clock, h1, h2⟩ := R.maps b o kk vk es g base hb hg
      exact ⟨ents, clock, (same g (.inr ⟨b, _, base, hb, hg⟩)).trans h1, h2⟩
    zok := fun g hz => ⟨Nat.lt_of_lt_of_le (R.zok g hz).1 hB.size, .inl hz, (R.zok g hz).2.2⟩
    rts := R.rts
    defers := rfl
    size := R.size
    slots := fun t => (R.slots t).step ms }
end
end Go.Proofs.Ytmmaechogibodaa.Vm
