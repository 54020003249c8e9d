import Derived.Test.YtmmaechogibodaaVmY
import Derived.Test.YtmmaechogibodaaVmRc
import Derived.Test.YtmmaechogibodaaVmCl
import Derived.Test.YtmmaechogibodaaProg
import Derived.Test.YtmmaechogibodaaVmRg
import Derived.Test.YtmmaechogibodaaFA
import Derived.Test.YtmmaechogibodaaFB
import Derived.Test.YtmmaechogibodaaFV
import Derived.Test.YtmmaechogibodaaFC
import Derived.Test.YtmmaechogibodaaFD
import Derived.Test.YtmmaechogibodaaFE
import Derived.Test.YtmmaechogibodaaFG
import Derived.Test.YtmmaechogibodaaFH
import Derived.Test.YtmmaechogibodaaFI
import Derived.Test.YtmmaechogibodaaFJ
import Derived.Test.YtmmaechogibodaaFK
namespace Go.Proofs.Ytmmaechogibodaa.F
open Go Go.Proofs.Ytmmaechogibodaa.Vm
set_option maxRecDepth 1000000
set_option linter.unusedVariables false
set_option linter.unusedSimpArgs false
noncomputable section
namespace At
variable {F : NS} {γ : GM} {s : St} {a : Act} {ws : World} {A : Ctx} {w0 : World}
/-- From a later beginning back to the first. -/
theorem rel_back {w9 : World} {F' : NS} {γ' : GM} {s' : St} {a' : Act} {w' : World} {d : List Deferred} (R : Rel A w0 F γ s a w9) (R' : Rel ⟨F.z, Owned γ s.mem, d⟩ w9 F' γ' s' a' w') : Rel { A with d := d } w0 F' γ' s' a' w' where
  below := R.below.call R'.below R.below.size fun g ⟨b, e, base, h1, h2, h3⟩ => (R.own b e g base h1 h2 h3).1
  memr := R'.memr
  own b e g base hb ho hg := ⟨by
    rcases (R'.own b e g base hb ho hg).1 with h | ⟨b', e', base', h1, h2, h3⟩
    · exact .inl (Nat.le_trans R.below.size h)
    · exact (R.own b' e' g base' h1 h2 h3).1, (R'.own b e g base hb ho hg).2⟩
  nofr := R'.nofr
  shr := R'.shr
  bnd := R'.bnd
  maps := R'.maps
  zok g hz := ⟨(R'.zok g hz).1, by
    rcases (R'.zok g hz).2.1 with h | h | ⟨b', e', base', h1, h2, h3⟩
    · exact (R.zok g h).2.1
    · exact .inr (.inl (Nat.le_trans R.below.size h))
    · exact .inr (R.own b' e' g base' h1 h2 h3).1, (R'.zok g hz).2.2⟩
  rts := R'.rts
  defers := R'.defers
  size := R'.size
  slots := R'.slots
/-- Where something else has turned. -/
theorem rel_elsewhere {w w' : World} (R : Rel A w0 F γ s a w) {I : Nat → Prop} (hB : Bel I w.heap.size w w') (hI : ∀ g, Tracked F γ s.mem g → ¬ I g) (h0 : ∀ g, I g → w0.heap.size ≤ g ∨ A.i g) : Rel A w0 F γ s a w' :=
  have R2 := R.reroot hB hI
  { below := R.below.call hB R.below.size h0, memr := R2.memr, own := R.own, nofr := R2.nofr, shr := R.shr, bnd := R2.bnd, maps := R2.maps, zok := fun g hz => ⟨(R2.zok g hz).1, (R.zok g hz).2⟩, rts := R.rts, defers := R.defers, size := R.size, slots := R2.slots }
/-- What the function must come to. -/
def post (n : Nat) (ur : List U) (Z : Nat → Prop) (γe : GM) (es : List Ent) (w : World) : Exit → Act → World → Prop := bodyPostM Fence.wide n P Go.Proofs.Try.f19 fun e w' => ∃ V, e = .returned V ∧ AnsAt args res ur Z γe es w V w'
theorem leave_plain {n : Nat} {us ur : List U} {Z : Nat → Prop} {γe : GM} {w : World} {Vs : List Value} {ps : List PV} {es : List Ent} {r : RT} (hmk : mkPs 0 args us = some (ps, es, [])) (hA : All2 (RelP ⟨fun b => b < es.length, Z⟩ γe (memOf es) w) ps Vs) (hdec : ∀ u, dec u = some r → ur = u)
    {s1 : St} (h : (fin us s1).den = some r) {a' : Act} {w' : World} {F' : NS} {γ' : GM} (R' : Rel ⟨Z, ownedOf γe es, []⟩ w F' γ' s1 a' w') (hrt : s1.rt.map γ' = (rootIds 0 args).map γe) : post n ur Z γe es w .ret a' w' := by
  unfold fin at h
  rw [hmk] at h
  obtain ⟨v, h1, h2⟩ := answers hdec hmk hA h R' hrt
  have hd : a'.defers = [] := R'.defers
  show LeavesInM Fence.wide n P Go.Proofs.Try.f19 a'.tmps _ a'.defers .returning w'
  rw [hd]
  exact ⟨v, h1, h2⟩
theorem leave_mark {n : Nat} {us ur : List U} {Z : Nat → Prop} {γe : GM} {w : World} {Vs : List Value} {ps : List PV} {es : List Ent} {r : RT} (hmk : mkPs 0 args us = some (ps, es, [])) (hA : All2 (RelP ⟨fun b => b < es.length, Z⟩ γe (memOf es) w) ps Vs) (hdec : ∀ u, dec u = some r → ur = u)
    {s1 : St} (h : (fin us s1).den = some r) {a' : Act} {w' : World} {F' : NS} {γ' : GM} {D : Nat} (R' : Rel ⟨Z, ownedOf γe es, [{ target := .collected D, args := #[] }]⟩ w F' γ' s1 a' w') (hD : w'.heap[D]? = some (.deferred (some []))) (hDt : ∀ g, Tracked F' γ' s1.mem g → g ≠ D) (hD0 : w.heap.size ≤ D) (hrt : s1.rt.map γ' = (rootIds 0 args).map γe) : post n ur Z γe es w .ret a' w' := by
  unfold fin at h
  rw [hmk] at h
  have hd : a'.defers = [{ target := .collected D, args := #[] }] := R'.defers
  have R2 := rel_elsewhere R' (bel_put (.deferred none) hD rfl) hDt (fun g e => .inl (e ▸ hD0))
  obtain ⟨v, h1, h2⟩ := answers hdec hmk hA h R2 hrt
  show LeavesInM Fence.wide n P Go.Proofs.Try.f19 a'.tmps _ a'.defers .returning w'
  rw [hd]
  refine ⟨by simp, .inl ⟨D, _, rfl, run_takeDeferred hD, ?_⟩⟩
  exact ⟨v, h1, h2⟩
theorem see_spec {s : St} {v : Seen} (h : see s = some v) : nth undefS s.tmps 23 = .pv (.one (.slf v.bl)) ∧ nth undefS s.tmps 4 = .pv (.one (.ptr v.b4 0 0 0)) ∧ nth undefS s.tmps 5 = .pv (.one (.ptr v.b5 0 0 0)) ∧ nth undefS s.tmps 6 = .pv (.one (.ptr v.b6 0 0 0)) ∧ nth undefS s.tmps 7 = .pv (.one (.ptr v.b7 0 0 0)) ∧
    (∃ o, s.mem v.bl = some ⟨o, .grow Lp v.dd⟩) ∧ (∃ o, s.mem v.b4 = some ⟨o, .cells [.val (.int .i64 v.id)]⟩) ∧ (∃ o, s.mem v.b5 = some ⟨o, .cells [.val (.int .i64 v.day)]⟩) ∧ s.mem v.b6 = some ⟨true, .cells z6⟩ ∧ s.mem v.b7 = some ⟨true, .cells z7⟩ ∧
    v.b6 ≠ v.b4 ∧ v.b6 ≠ v.b5 ∧ v.b6 ≠ v.b7 ∧ v.b6 ≠ v.bl ∧ v.b7 ≠ v.b4 ∧ v.b7 ≠ v.b5 ∧ v.b7 ≠ v.bl ∧ s.tmps.length = 40 := by
  unfold see at h
  split at h
  · rename_i bl b4 b5 b6 b7 h23 h4 h5 h6 h7
    split at h
    · rename_i o0 L dd o4 c4 o5 c5 c6 c7 m0 m4 m5 m6 m7
      split at h
      · rename_i id day hid hday hb
        obtain rfl := Option.some.inj h
        simp only [Bool.and_eq_true] at hb
        obtain ⟨⟨⟨⟨⟨⟨⟨⟨⟨⟨x1, x2⟩, x3⟩, x4⟩, x5⟩, x6⟩, x7⟩, x8⟩, x9⟩, x10⟩, x11⟩ := hb
        exact ⟨h23, h4, h5, h6, h7, ⟨_, by rw [m0, shsEq_spec x1]⟩, ⟨_, by rw [m4, one64_spec hid]⟩, ⟨_, by rw [m5, one64_spec hday]⟩, by rw [m6, isZ_spec x2], by rw [m7, isZ1_spec x3], ne_spec x4, ne_spec x5, ne_spec x6, ne_spec x7, ne_spec x8, ne_spec x9, ne_spec x10, by rw [← len_eq]; simpa using x11⟩
      · cases h
    · cases h
  · cases h
/-- Where the range begins. -/
theorem cx_of {v : Seen} (R : Rel A w0 F γ s a ws) (hs : see s = some v) : ∃ c : Cx F γ s a ws v, (∀ g, c.I g → ∃ b e base, (b = v.b6 ∨ b = v.b7) ∧ s.mem b = some e ∧ e.own = true ∧ γ b = some (g, base)) ∧ ∀ g p, γ v.bl = some (g, p) → g < ws.heap.size ∧ g ≠ c.g6 ∧ g ≠ c.g7 := by
  obtain ⟨t23, t4, t5, t6, t7, ⟨ol, ml⟩, ⟨o4, m4⟩, ⟨o5, m5⟩, m6, m7, n1, n2, n3, n4, n5, n6, n7, hlen⟩ := see_spec hs
  have hsz : a.tmps.size = 40 := by rw [R.size, hlen]
  have p : ∀ q b, nth undefS s.tmps q = .pv (.one (.ptr b 0 0 0)) → ∃ g base, γ b = some (g, base) ∧ a.tmps.getD q undef = .pointer (some ⟨g, base + (0 * 0 + 0), none⟩) := fun q b h => by
    have := R.slots q; rw [h] at this
    exact this.2.1
  obtain ⟨g4, p4, c4, k4⟩ := p _ _ t4
  obtain ⟨g5, p5, c5, k5⟩ := p _ _ t5
  obtain ⟨g6, p6, c6, k6⟩ := p _ _ t6
  obtain ⟨g7, p7, c7, k7⟩ := p _ _ t7
  have d6 := (R.own v.b6 _ g6 p6 m6 rfl c6).2
  have d7 := (R.own v.b7 _ g7 p7 m7 rfl c7).2
  refine ⟨⟨g4, p4, g5, p5, g6, p6, g7, p7, c4, c5, c6, c7, k4, k5, k6, k7, hsz, R.bnd _ _ _ _ m4 c4, R.bnd _ _ _ _ m5 c5, R.bnd _ _ _ _ m6 c6, R.bnd _ _ _ _ m7 c7, fun e => d6 _ _ _ _ (Ne.symm n1) m4 c4 e.symm, fun e => d6 _ _ _ _ (Ne.symm n2) m5 c5 e.symm, fun e => d6 _ _ _ _ (Ne.symm n3) m7 c7 e.symm,
    fun e => d7 _ _ _ _ (Ne.symm n5) m4 c4 e.symm, fun e => d7 _ _ _ _ (Ne.symm n6) m5 c5 e.symm, (R.memr _ _ m4).2, (R.memr _ _ m5).2, (R.memr _ _ m6).2, (R.memr _ _ m7).2, R.nofr _ _ _ _ m6 rfl c6, R.nofr _ _ _ _ m7 rfl c7, fun g hg => ⟨(R.zok g hg).1, fun e => (R.zok g hg).2.2 _ _ _ m6 rfl (e ▸ c6), fun e => (R.zok g hg).2.2 _ _ _ m7 rfl (e ▸ c7)⟩⟩, fun g hg => ?_, fun g p hg => ⟨R.bnd _ _ _ _ ml hg, d6 _ _ _ _ (Ne.symm n4) ml hg, d7 _ _ _ _ (Ne.symm n7) ml hg⟩⟩
  rcases hg with rfl | rfl
  · exact ⟨v.b6, _, _, .inl rfl, m6, rfl, c6⟩
  · exact ⟨v.b7, _, _, .inr rfl, m7, rfl, c7⟩
end At
end
end Go.Proofs.Ytmmaechogibodaa.F
