import Derived.Test.YtmmaechogibodaaVmY
import Derived.Test.YtmmaechogibodaaVmRc
import Derived.Test.YtmmaechogibodaaVmCl
import Derived.Test.YtmmaechogibodaaProg
import Derived.Test.YtmmaechogibodaaVmRg
import Derived.Test.YtmmaechogibodaaFA
import Derived.Test.YtmmaechogibodaaFB
import Derived.Test.YtmmaechogibodaaFV
import Derived.Test.YtmmaechogibodaaFC
import Derived.Test.YtmmaechogibodaaFD
import Derived.Test.YtmmaechogibodaaFE
import Derived.Test.YtmmaechogibodaaFG
namespace Go.Proofs.Ytmmaechogibodaa.F
open Go Go.Proofs.Ytmmaechogibodaa.Vm
set_option maxRecDepth 1000000
set_option linter.unusedVariables false
set_option linter.unusedSimpArgs false
noncomputable section
namespace At
variable {F : NS} {γ : GM} {s : St} {a : Act} {ws : World} {A : Ctx} {w0 : World}
/-- The list that is gone through. -/
structure Lx {v : Seen} (c : Cx F γ s a ws v) where
  la : Option Addr
  cap : Nat
  bx : Nat
  ok : slcOk γ ws v.bl 0 v.dd.length 9 (.slice la v.dd.length cap)
  rl : RelB F γ s.mem ws v.bl (.grow Lp v.dd)
  nl : ∀ g p, γ v.bl = some (g, p) → g < ws.heap.size ∧ g ≠ c.g6 ∧ g ≠ c.g7
  hbx : ws.heap[bx]? = some (.cells #[.slice la v.dd.length cap] 51)
  nb6 : bx ≠ c.g6
  nb7 : bx ≠ c.g7
def gI {v : Seen} {c : Cx F γ s a ws v} (x : Lx c) : GM := fun b => match b with
  | 0 => some (x.bx, 0)
  | 1 => γ v.bl
  | _ => none
def fI {v : Seen} (c : Cx F γ s a ws v) (l D : Nat) (W : World) : NS := ⟨fun b => b < 2, zR c l D W⟩
def ptrI {v : Seen} {c : Cx F γ s a ws v} (x : Lx c) : Value := .pointer (some ⟨x.bx, 0 + (0 * 0 + 0), none⟩)
theorem it_mem {v : Seen} {c : Cx F γ s a ws v} (x : Lx c) {W : World} (h : J c W) {l D : Nat} (hlw : ws.heap.size ≤ l) (hDw : ws.heap.size ≤ D) (y : Value) (i : CV) : Mem ⟨zR c l D W, fun _ => False, []⟩ W (fI c l D W) (gI x) (sI y i v.dd).mem [] W := by
  have h1 := h.bel.size
  have bxl : x.bx < ws.heap.size := (Array.getElem?_eq_some_iff.1 x.hbx).1
  have ebx : W.heap[x.bx]? = ws.heap[x.bx]? := h.bel.block _ bxl (fun hh => hh.elim x.nb6 x.nb7)
  have egl : ∀ g p, γ v.bl = some (g, p) → W.heap[g]? = ws.heap[g]? := fun g p hg => h.bel.block _ (x.nl g p hg).1 (fun hh => hh.elim (x.nl g p hg).2.1 (x.nl g p hg).2.2)
  have hmem : ∀ b e, (sI y i v.dd).mem b = some e → (b = 0 ∧ e = ⟨false, .cells [.slf 1]⟩) ∨ (b = 1 ∧ e = ⟨false, .grow Lp v.dd⟩) := fun b e hb => by
    have hb : memOf [⟨false, .cells [.slf 1]⟩, ⟨false, .grow Lp v.dd⟩] b = some e := hb
    match b, hb with
    | 0, hb => exact .inl ⟨rfl, (Option.some.inj hb).symm⟩
    | 1, hb => exact .inr ⟨rfl, (Option.some.inj hb).symm⟩
    | b + 2, hb => simp [memOf] at hb
  have zz : ∀ g, F.z g → zR c l D W g := fun g hg => by
    have := c.zl g hg
    exact ⟨by omega, this.2.1, this.2.2, by omega, by omega⟩
  refine view_mem (N := 2) (fun b e hb => ?_) (fun b e g base hb ho hg => ?_) (fun b e g base hb ho hg => ?_) (fun b e g base hb hg => ?_) (fun b o kk vk es hb => ?_) (fun g hz => hz.1)
  · rcases hmem b e hb with ⟨rfl, rfl⟩ | ⟨rfl, rfl⟩
    · refine ⟨by decide, fun i j cv hc => ?_⟩
      simp only [Blk.at] at hc
      split at hc
      · rename_i hi
        subst hi
        cases j with
        | zero =>
          obtain rfl : CV.slf 1 = cv := by simpa using hc
          refine ⟨x.bx, 0, #[.slice x.la v.dd.length x.cap], (51, (0, 0)), .slice x.la v.dd.length x.cap, rfl, ebx.trans x.hbx, rfl, by show (1 : Nat) < 2; decide, ⟨_, _, _, rfl⟩, fun e he => ?_⟩
          obtain rfl : (⟨false, .grow Lp v.dd⟩ : Ent) = e := Option.some.inj he
          rcases x.ok with ⟨z, ad, hV⟩ | ⟨g, base, cap, g1, g2, g3, cs, t, g4, g5⟩
          · exact .inl ⟨z, ad, hV⟩
          · exact .inr ⟨g, base, cap, g1, g2, g3, cs, t, (egl g base g1).trans g4, g5⟩
        | succ j => simp at hc
      · cases hc
    · refine ⟨by decide, fun i j cv hc => ?_⟩
      obtain ⟨g, base, cs, t, V, k1, k2, k3, k4⟩ := x.rl i j cv hc
      refine ⟨g, base, cs, t, V, k1, (egl g base k1).trans k2, k3, k4.free (at_free (fun l e => by cases e) hc) zz fun g hg => ?_⟩
      have := c.zl g hg
      exact h.bel.block _ this.1 (fun hh => hh.elim this.2.1 this.2.2)
  · rcases hmem b e hb with ⟨rfl, rfl⟩ | ⟨rfl, rfl⟩ <;> cases ho
  · rcases hmem b e hb with ⟨rfl, rfl⟩ | ⟨rfl, rfl⟩
    · simp only [gI, Option.some.injEq, Prod.mk.injEq] at hg
      obtain ⟨rfl, _⟩ := hg
      exact ⟨by omega, x.nb6, x.nb7, by omega, by omega⟩
    · have := x.nl g base hg
      exact ⟨by omega, this.2.1, this.2.2, by omega, by omega⟩
  · rcases hmem b e hb with ⟨rfl, rfl⟩ | ⟨rfl, rfl⟩
    · simp only [gI, Option.some.injEq, Prod.mk.injEq] at hg
      obtain ⟨rfl, _⟩ := hg
      omega
    · have := x.nl g base hg
      omega
  · rcases hmem b _ hb with ⟨_, e⟩ | ⟨_, e⟩ <;> cases e
/-- What is known of the iterator's slots. -/
structure Ia {v : Seen} {c : Cx F γ s a ws v} (x : Lx c) (y : Value) (t : Act) : Prop where
  sz : t.tmps.size = 19
  df : t.defers = []
  t0 : t.tmps.getD 0 undef = y
  t1 : t.tmps.getD 1 undef = ptrI x
theorem it_rel {v : Seen} {c : Cx F γ s a ws v} (x : Lx c) {W : World} (h : J c W) {l D : Nat} (hlw : ws.heap.size ≤ l) (hDw : ws.heap.size ≤ D) {y : Value} {i : CV} {t : Act} (ha : Ia x y t)
    (hi : RelC (fI c l D W) (gI x) (sI y i v.dd).mem W i (t.tmps.getD 3 undef)) : Rel ⟨zR c l D W, fun _ => False, []⟩ W (fI c l D W) (gI x) (sI y i v.dd) t W := by
  refine { it_mem x h hlw hDw y i with defers := ha.df, size := by simp [sI, put_eq, ha.sz], slots := fun q => ?_ }
  by_cases q3 : q = 3
  · subst q3
    exact hi
  by_cases q1 : q = 1
  · subst q1
    rw [ha.t1]
    show RelV _ _ _ _ (.pv (.one (.ptr 0 0 0 0))) _
    exact ⟨by show (0 : Nat) < 2; decide, ⟨x.bx, 0, rfl, rfl⟩, fun e he => by obtain rfl := Option.some.inj he; exact ⟨rfl, rfl⟩⟩
  by_cases q0 : q = 0
  · subst q0
    rw [ha.t0]
    show RelV _ _ _ _ (.pv (.one (.val y))) _
    rfl
  have hn : nth undefS (sI y i v.dd).tmps q = nth undefS (List.replicate 19 anyS) q := by
    show nth undefS (put (put (put (List.replicate 19 anyS) 0 _) 1 _) 3 _) q = _
    rw [nth_put, if_neg (fun e => q3 e.1), nth_put, if_neg (fun e => q1 e.1), nth_put, if_neg (fun e => q0 e.1)]
  rw [hn, nth_eq, List.getD_eq_getElem?_getD, List.getElem?_replicate]
  split
  · exact trivial
  · rename_i ht
    have hs := ha.sz
    have : t.tmps.getD q undef = undef := by rw [Array.getD_eq_getD_getElem?, Array.getElem?_eq_none (by omega)]; rfl
    rw [this]; rfl
theorem slotV_spec {s : St} {t : Nat} {v : Value} (h : slotV s t = some v) : nth undefS s.tmps t = .pv (.one (.val v)) := by
  unfold slotV at h
  split at h
  · rename_i e; rw [e, Option.some.inj h]
  · cases h
theorem aggS_spec {s : St} {t : Nat} {l : List CV} (h : aggS s t = some l) : nth undefS s.tmps t = .pv (.agg l) := by
  unfold aggS at h
  split at h
  · rename_i e; rw [e, Option.some.inj h]
  · cases h
theorem isP_spec {x : SV} (h : isP x = true) : x = .pv (.one (.ptr 0 0 0 0)) := by
  unfold isP at h
  split at h
  · rfl
  · cases h
theorem kp_spec {s : St} {y v : Value} (h : kp s = some (y, v)) : nth undefS s.tmps 0 = .pv (.one (.val y)) ∧ nth undefS s.tmps 1 = .pv (.one (.ptr 0 0 0 0)) ∧ s.tmps.length = 19 ∧ nth undefS s.tmps 3 = .pv (.one (.val v)) := by
  unfold kp at h
  split at h
  · rename_i f v' h0 h1 h3
    simp only [Option.some.injEq, Prod.mk.injEq] at h
    obtain ⟨rfl, rfl⟩ := h
    simp only [Bool.and_eq_true, beq_iff_eq] at h1
    exact ⟨slotV_spec h0, isP_spec h1.1, by rw [← len_eq]; exact h1.2, slotV_spec h3⟩
  · cases h
/-- What the iterator's own steps leave. -/
theorem it_back {v : Seen} {c : Cx F γ s a ws v} (x : Lx c) {W W' : World} (h : J c W) {l D : Nat} {ρ : Loop} (hlw : ws.heap.size ≤ l) (hDw : ws.heap.size ≤ D) (hl : W.heap[l]? = some (.loop ρ)) (hD : W.heap[D]? = some (.deferred (some []))) {F' : NS} {γ' : GM} {s1 : St} {a1 : Act} {y w : Value}
    (R : Rel ⟨zR c l D W, fun _ => False, []⟩ W F' γ' s1 a1 W') (hx : Ext (fI c l D W) (gI x) F' γ') (hk : kp s1 = some (y, w)) :
    J c W' ∧ W'.heap[l]? = some (.loop ρ) ∧ W'.heap[D]? = some (.deferred (some [])) ∧ Ia x y a1 ∧ a1.tmps.getD 3 undef = w := by
  have B : Bel (fun _ => False) W.heap.size W W' := R.below
  obtain ⟨k0, k1, k2, k3⟩ := kp_spec hk
  refine ⟨h.later (B.mono (Nat.le_refl _) fun _ _ h => h.elim), (B.block l (Array.getElem?_eq_some_iff.1 hl).1 id).trans hl, (B.block D (Array.getElem?_eq_some_iff.1 hD).1 id).trans hD, ⟨?_, R.defers, ?_, ?_⟩, ?_⟩
  · rw [R.size, k2]
  · have := R.slots 0; rw [k0] at this; exact this
  · have := R.slots 1; rw [k1] at this
    obtain ⟨_, ⟨g, base, h1, h2⟩, _⟩ := this
    rw [hx.2 0 (by show (0 : Nat) < 2; decide)] at h1
    obtain ⟨rfl, rfl⟩ : x.bx = g ∧ 0 = base := by simpa [gI] using h1
    exact h2
  · have := R.slots 3; rw [k3] at this; exact this
theorem flat_Q0 : flatC Q0 = true := by kernel_rfl
theorem flat_Q1 : flatC Q1 = true := by kernel_rfl
theorem flat_Q2 : flatC Q2 = true := by kernel_rfl
theorem flat_Q3 : (opsQ.toList.take 6).all notDefer = true := by kernel_rfl
end At
end
end Go.Proofs.Ytmmaechogibodaa.F
