import Derived.Test.YtmmaechogibodaaVmY
import Derived.Test.YtmmaechogibodaaVmRc
import Derived.Test.YtmmaechogibodaaVmCl
import Derived.Test.YtmmaechogibodaaProg
import Derived.Test.YtmmaechogibodaaVmRg
import Derived.Test.YtmmaechogibodaaFA
import Derived.Test.YtmmaechogibodaaFB
import Derived.Test.YtmmaechogibodaaFV
import Derived.Test.YtmmaechogibodaaFC
import Derived.Test.YtmmaechogibodaaFD
namespace Go.Proofs.Ytmmaechogibodaa.F
open Go Go.Proofs.Ytmmaechogibodaa.Vm
set_option maxRecDepth 1000000
set_option linter.unusedVariables false
set_option linter.unusedSimpArgs false
noncomputable section
namespace At
variable {F : NS} {γ : GM} {s : St} {a : Act} {ws : World} {A : Ctx} {w0 : World}
/-- What is known where the range begins. -/
structure Cx (F : NS) (γ : GM) (s : St) (a : Act) (ws : World) (v : Seen) where
  g4 : Nat
  p4 : Nat
  g5 : Nat
  p5 : Nat
  g6 : Nat
  p6 : Nat
  g7 : Nat
  p7 : Nat
  c4 : γ v.b4 = some (g4, p4)
  c5 : γ v.b5 = some (g5, p5)
  c6 : γ v.b6 = some (g6, p6)
  c7 : γ v.b7 = some (g7, p7)
  t4 : a.tmps.getD 4 undef = .pointer (some ⟨g4, p4 + (0 * 0 + 0), none⟩)
  t5 : a.tmps.getD 5 undef = .pointer (some ⟨g5, p5 + (0 * 0 + 0), none⟩)
  t6 : a.tmps.getD 6 undef = .pointer (some ⟨g6, p6 + (0 * 0 + 0), none⟩)
  t7 : a.tmps.getD 7 undef = .pointer (some ⟨g7, p7 + (0 * 0 + 0), none⟩)
  sz : a.tmps.size = 40
  l4 : g4 < ws.heap.size
  l5 : g5 < ws.heap.size
  l6 : g6 < ws.heap.size
  l7 : g7 < ws.heap.size
  n64 : g6 ≠ g4
  n65 : g6 ≠ g5
  n67 : g6 ≠ g7
  n74 : g7 ≠ g4
  n75 : g7 ≠ g5
  r4 : RelB F γ s.mem ws v.b4 (.cells [.val (.int .i64 v.id)])
  r5 : RelB F γ s.mem ws v.b5 (.cells [.val (.int .i64 v.day)])
  r6 : RelB F γ s.mem ws v.b6 (.cells z6)
  r7 : RelB F γ s.mem ws v.b7 (.cells z7)
  f6 : nofr ws g6
  f7 : nofr ws g7
  zl : ∀ g, F.z g → g < ws.heap.size ∧ g ≠ g6 ∧ g ≠ g7
/-- The blocks that may be written. -/
def Cx.I {v : Seen} (c : Cx F γ s a ws v) (g : Nat) : Prop := g = c.g6 ∨ g = c.g7
structure J {v : Seen} (c : Cx F γ s a ws v) (W : World) : Prop where
  bel : Bel c.I ws.heap.size ws W
  r6 : RelB F γ s.mem W v.b6 (.cells z6)
  r7 : RelB F γ s.mem W v.b7 (.cells z7)
  f6 : nofr W c.g6
  f7 : nofr W c.g7
theorem J.start {v : Seen} (c : Cx F γ s a ws v) : J c ws := ⟨Bel.refl _ ws, c.r6, c.r7, c.f6, c.f7⟩
theorem J.later {v : Seen} {c : Cx F γ s a ws v} {W W' : World} (h : J c W) (hB : Bel (fun g => ws.heap.size ≤ g) W.heap.size W W') : J c W' := by
  have h1 := h.bel.size
  have s6 : W'.heap[c.g6]? = W.heap[c.g6]? := hB.block _ (by have := c.l6; omega) (by have := c.l6; omega)
  have s7 : W'.heap[c.g7]? = W.heap[c.g7]? := hB.block _ (by have := c.l7; omega) (by have := c.l7; omega)
  exact ⟨h.bel.call hB h1 fun g hg => .inl hg,
    relB_vals rfl rfl (fun g base hg => by rw [c.c6] at hg; cases hg; exact s6) h.r6,
    relB_vals rfl rfl (fun g base hg => by rw [c.c7] at hg; cases hg; exact s7) h.r7, h.f6.of s6, h.f7.of s7⟩
/-- The names within a round. -/
def gR {v : Seen} (c : Cx F γ s a ws v) : GM := fun b => match b with
  | 0 => some (c.g4, c.p4)
  | 1 => some (c.g5, c.p5)
  | 2 => some (c.g6, c.p6)
  | 3 => some (c.g7, c.p7)
  | _ => none
/-- Looked at and not written: all but two. -/
def zR {v : Seen} (c : Cx F γ s a ws v) (l D : Nat) (W : World) (g : Nat) : Prop := g < W.heap.size ∧ g ≠ c.g6 ∧ g ≠ c.g7 ∧ g ≠ l ∧ g ≠ D
def fR {v : Seen} (c : Cx F γ s a ws v) (l D : Nat) (W : World) : NS := ⟨fun b => b < 4, zR c l D W⟩
theorem round_mem {v : Seen} {c : Cx F γ s a ws v} {W : World} (h : J c W) {l D : Nat} (hlw : ws.heap.size ≤ l) (hDw : ws.heap.size ≤ D) (i : Int) (row : List Vm.D) : Mem ⟨zR c l D W, c.I, []⟩ W (fR c l D W) (gR c) (sR i row v.id v.day).mem [] W := by
  have h1 := h.bel.size
  have e4 : W.heap[c.g4]? = ws.heap[c.g4]? := h.bel.block _ c.l4 (fun hh => hh.elim (fun e => c.n64 e.symm) fun e => c.n74 e.symm)
  have e5 : W.heap[c.g5]? = ws.heap[c.g5]? := h.bel.block _ c.l5 (fun hh => hh.elim (fun e => c.n65 e.symm) fun e => c.n75 e.symm)
  have hmem : ∀ b e, (sR i row v.id v.day).mem b = some e → (b = 0 ∧ e = ⟨false, .cells [.val (.int .i64 v.id)]⟩) ∨ (b = 1 ∧ e = ⟨false, .cells [.val (.int .i64 v.day)]⟩) ∨ (b = 2 ∧ e = ⟨true, .cells z6⟩) ∨ (b = 3 ∧ e = ⟨true, .cells z7⟩) := fun b e hb => by
    have hb : memOf [⟨false, .cells [.val (.int .i64 v.id)]⟩, ⟨false, .cells [.val (.int .i64 v.day)]⟩, ⟨true, .cells z6⟩, ⟨true, .cells z7⟩] b = some e := hb
    match b, hb with
    | 0, hb => exact .inl ⟨rfl, (Option.some.inj hb).symm⟩
    | 1, hb => exact .inr (.inl ⟨rfl, (Option.some.inj hb).symm⟩)
    | 2, hb => exact .inr (.inr (.inl ⟨rfl, (Option.some.inj hb).symm⟩))
    | 3, hb => exact .inr (.inr (.inr ⟨rfl, (Option.some.inj hb).symm⟩))
    | b + 4, hb => simp [memOf] at hb
  have im : ∀ b e g base, (sR i row v.id v.day).mem b = some e → gR c b = some (g, base) → (b = 0 ∧ g = c.g4) ∨ (b = 1 ∧ g = c.g5) ∨ (b = 2 ∧ g = c.g6) ∨ (b = 3 ∧ g = c.g7) := fun b e g base hb hg => by
    rcases hmem b e hb with ⟨rfl, -⟩ | ⟨rfl, -⟩ | ⟨rfl, -⟩ | ⟨rfl, -⟩ <;> simp only [gR, Option.some.injEq, Prod.mk.injEq] at hg <;> simp [hg.1.symm]
  refine view_mem (N := 4) (fun b e hb => ?_) (fun b e g base hb ho hg => ?_) (fun b e g base hb ho hg => ?_) (fun b e g base hb hg => ?_) (fun b o kk vk es hb => ?_) (fun g hz => ?_)
  · rcases hmem b e hb with ⟨rfl, rfl⟩ | ⟨rfl, rfl⟩ | ⟨rfl, rfl⟩ | ⟨rfl, rfl⟩
    · exact ⟨by decide, relB_vals rfl c.c4.symm (fun g base hg => by rw [c.c4] at hg; cases hg; exact e4) c.r4⟩
    · exact ⟨by decide, relB_vals rfl c.c5.symm (fun g base hg => by rw [c.c5] at hg; cases hg; exact e5) c.r5⟩
    · exact ⟨by decide, relB_vals rfl c.c6.symm (fun g base hg => rfl) h.r6⟩
    · exact ⟨by decide, relB_vals rfl c.c7.symm (fun g base hg => rfl) h.r7⟩
  · have hb2 := hmem b e hb
    have n := c.n64; have n2 := c.n65; have n3 := c.n67; have n4 := c.n74; have n5 := c.n75
    rcases im b e g base hb hg with ⟨rfl, rfl⟩ | ⟨rfl, rfl⟩ | ⟨rfl, rfl⟩ | ⟨rfl, rfl⟩
    · rcases hb2 with ⟨_, rfl⟩ | ⟨k, _⟩ | ⟨k, _⟩ | ⟨k, _⟩
      · cases ho
      all_goals omega
    · rcases hb2 with ⟨k, _⟩ | ⟨_, rfl⟩ | ⟨k, _⟩ | ⟨k, _⟩
      · omega
      · cases ho
      all_goals omega
    · refine ⟨.inl rfl, h.f6, fun hz => hz.2.1 rfl, fun b' e' g' base' hne hb' hg' => ?_⟩
      rcases im b' e' g' base' hb' hg' with ⟨rfl, rfl⟩ | ⟨rfl, rfl⟩ | ⟨rfl, rfl⟩ | ⟨rfl, rfl⟩ <;> omega
    · refine ⟨.inr rfl, h.f7, fun hz => hz.2.2.1 rfl, fun b' e' g' base' hne hb' hg' => ?_⟩
      rcases im b' e' g' base' hb' hg' with ⟨rfl, rfl⟩ | ⟨rfl, rfl⟩ | ⟨rfl, rfl⟩ | ⟨rfl, rfl⟩ <;> omega
  · have hb2 := hmem b e hb
    have n := c.n64; have n2 := c.n65; have n3 := c.n67; have n4 := c.n74; have n5 := c.n75
    rcases im b e g base hb hg with ⟨rfl, rfl⟩ | ⟨rfl, rfl⟩ | ⟨rfl, rfl⟩ | ⟨rfl, rfl⟩
    · have := c.l4; exact ⟨by omega, by omega, by omega, by omega, by omega⟩
    · have := c.l5; exact ⟨by omega, by omega, by omega, by omega, by omega⟩
    · rcases hb2 with ⟨k, _⟩ | ⟨k, _⟩ | ⟨_, rfl⟩ | ⟨k, _⟩
      · omega
      · omega
      · cases ho
      · omega
    · rcases hb2 with ⟨k, _⟩ | ⟨k, _⟩ | ⟨k, _⟩ | ⟨_, rfl⟩
      · omega
      · omega
      · omega
      · cases ho
  · have q4 := c.l4; have q5 := c.l5; have q6 := c.l6; have q7 := c.l7
    rcases im b e g base hb hg with ⟨rfl, rfl⟩ | ⟨rfl, rfl⟩ | ⟨rfl, rfl⟩ | ⟨rfl, rfl⟩ <;> omega
  · rcases hmem b _ hb with ⟨_, e⟩ | ⟨_, e⟩ | ⟨_, e⟩ | ⟨_, e⟩ <;> cases e
  · exact hz.1
theorem getD_set (t : Array Value) (i j : Nat) (x d : Value) (h : i < t.size) : (t.setIfInBounds i x).getD j d = if i = j then x else t.getD j d := by
  rw [Array.getD_eq_getD_getElem?, Array.getD_eq_getD_getElem?, Array.getElem?_setIfInBounds]
  by_cases e : i = j
  · subst e; rw [if_pos rfl, if_pos rfl, if_pos h]; rfl
  · rw [if_neg e, if_neg e]
/-- The state within a round. -/
theorem round_rel {v : Seen} {c : Cx F γ s a ws v} {W : World} (h : J c W) {l D : Nat} (hlw : ws.heap.size ≤ l) (hDw : ws.heap.size ≤ D) {i : Int} {row : List Vm.D} {C : Array Value} (hC : All2 (RelC (fR c l D W) (gR c) (sR i row v.id v.day).mem W) (cvsL Lp row 0) C.toList) :
    Rel ⟨zR c l D W, c.I, []⟩ W (fR c l D W) (gR c) (sR i row v.id v.day) { tmps := (a.tmps.setIfInBounds 25 (.int .i64 i)).setIfInBounds 26 (.agg C), defers := [] } W := by
  have hs := c.sz
  refine { round_mem h hlw hDw i row with defers := rfl, size := by simp [sR, put_eq, hs], slots := fun t => ?_ }
  have hd : (({ tmps := (a.tmps.setIfInBounds 25 (.int .i64 i)).setIfInBounds 26 (.agg C), defers := [] } : Act).tmps.getD t undef) = if 26 = t then .agg C else if 25 = t then .int .i64 i else a.tmps.getD t undef := by
    show ((a.tmps.setIfInBounds 25 (.int .i64 i)).setIfInBounds 26 (.agg C)).getD t undef = _
    rw [getD_set _ _ _ _ _ (by simp [hs]), getD_set _ _ _ _ _ (by rw [hs]; decide)]
  rw [hd]
  by_cases t26 : t = 26
  · subst t26
    rw [if_pos rfl]
    show RelV _ _ _ _ (.pv (.agg (cvsL Lp row 0))) _
    exact ⟨C, rfl, hC⟩
  rw [if_neg (fun e => t26 e.symm)]
  by_cases t25 : t = 25
  · subst t25
    rw [if_pos rfl]
    show RelV _ _ _ _ (.pv (.one (.val (.int .i64 i)))) _
    rfl
  rw [if_neg (fun e => t25 e.symm)]
  by_cases t7 : t = 7
  · subst t7
    show RelV _ _ _ _ (.pv (.one (.ptr 3 0 0 0))) _
    exact ⟨by show (3 : Nat) < 4; decide, ⟨c.g7, c.p7, rfl, c.t7⟩, fun e he => by obtain rfl := Option.some.inj he; exact ⟨rfl, rfl⟩⟩
  by_cases t6 : t = 6
  · subst t6
    show RelV _ _ _ _ (.pv (.one (.ptr 2 0 0 0))) _
    exact ⟨by show (2 : Nat) < 4; decide, ⟨c.g6, c.p6, rfl, c.t6⟩, fun e he => by obtain rfl := Option.some.inj he; exact ⟨rfl, rfl⟩⟩
  by_cases t5 : t = 5
  · subst t5
    show RelV _ _ _ _ (.pv (.one (.ptr 1 0 0 0))) _
    exact ⟨by show (1 : Nat) < 4; decide, ⟨c.g5, c.p5, rfl, c.t5⟩, fun e he => by obtain rfl := Option.some.inj he; exact ⟨rfl, rfl⟩⟩
  by_cases t4 : t = 4
  · subst t4
    show RelV _ _ _ _ (.pv (.one (.ptr 0 0 0 0))) _
    exact ⟨by show (0 : Nat) < 4; decide, ⟨c.g4, c.p4, rfl, c.t4⟩, fun e he => by obtain rfl := Option.some.inj he; exact ⟨rfl, rfl⟩⟩
  have hn : nth undefS (sR i row v.id v.day).tmps t = nth undefS (List.replicate 40 anyS) t := by
    show nth undefS (put (put (put (put (put (put (List.replicate 40 anyS) 4 _) 5 _) 6 _) 7 _) 25 _) 26 _) t = _
    rw [nth_put, if_neg (fun e => t26 e.1), nth_put, if_neg (fun e => t25 e.1), nth_put, if_neg (fun e => t7 e.1), nth_put, if_neg (fun e => t6 e.1), nth_put, if_neg (fun e => t5 e.1), nth_put, if_neg (fun e => t4 e.1)]
  rw [hn, nth_eq, List.getD_eq_getElem?_getD, List.getElem?_replicate]
  split
  · exact trivial
  · rename_i ht
    have : a.tmps.getD t undef = undef := by rw [Array.getD_eq_getD_getElem?, Array.getElem?_eq_none (by omega)]; rfl
    rw [this]; rfl
end At
namespace At
variable {F : NS} {γ : GM} {s : St} {a : Act} {ws : World} {A : Ctx} {w0 : World}
/-- Behind a round that answers. -/
def Done {v : Seen} (c : Cx F γ s a ws v) (r : R9) (l D : Nat) (W : World) : Prop :=
  ∃ (A' : Ctx) (w' : World) (F' : NS) (γ' : GM) (s' : St) (a' : Act) (bn : Nat), Rel A' w' F' γ' s' a' W ∧ Bel c.I ws.heap.size ws W ∧ γ' 2 = some (c.g6, c.p6) ∧ γ' 3 = some (c.g7, c.p7) ∧
    s'.mem 2 = some ⟨true, .cells (r.1.map (fun x => .val (.int .i64 x)) ++ [.slf bn])⟩ ∧ s'.mem 3 = some ⟨true, .cells z7⟩ ∧ s'.mem bn = some ⟨true, .recs [.i64, .i64] r.2⟩ ∧ r.1.length = 8 ∧
    (∀ g, Tracked F' γ' s'.mem g → g ≠ l ∧ g ≠ D) ∧ ∀ g p, γ' bn = some (g, p) → ws.heap.size ≤ g
theorem Done.later {v : Seen} {c : Cx F γ s a ws v} {r : R9} {l D : Nat} {W W' : World} (h : Done c r l D W) (hl : ws.heap.size ≤ l) (hD : ws.heap.size ≤ D) (hB : Bel (fun g => g = l ∨ g = D) W.heap.size W W') : Done c r l D W' := by
  obtain ⟨A', w', F', γ', s', a', bn, R, h1, h2, h3, h4, h5, h6, h7, h8, h9⟩ := h
  refine ⟨_, _, F', γ', s', a', bn, R.reroot hB (fun g hg hi => ?_), h1.call hB h1.size (fun g hg => .inl ?_), h2, h3, h4, h5, h6, h7, h8, h9⟩
  · rcases hi with hi | hi
    · exact (h8 g hg).1 hi
    · exact (h8 g hg).2 hi
  · rcases hg with rfl | rfl <;> assumption
theorem ne_spec {a b : Nat} (h : ne a b = true) : a ≠ b := fun e => by subst e; simp [ne] at h
theorem got_spec {s : St} {bn : Nat} {r : R9} (h : got s = some (bn, r)) : s.mem 2 = some ⟨true, .cells (r.1.map (fun x => .val (.int .i64 x)) ++ [.slf bn])⟩ ∧ s.mem 3 = some ⟨true, .cells z7⟩ ∧ s.mem bn = some ⟨true, .recs [.i64, .i64] r.2⟩ ∧ r.1.length = 8 ∧ bn ≠ 2 ∧ bn ≠ 3 := by
  unfold got at h
  split at h
  · rename_i c d h2 h3
    split at h
    · rename_i xs b hi hz
      split at h
      · rename_i hn hm
        split at h
        · rename_i hk
          simp only [Option.some.injEq, Prod.mk.injEq] at h
          obtain ⟨rfl, rfl⟩ := h
          obtain ⟨i1, i2⟩ := ints_spec hi
          simp only [Bool.and_eq_true] at hn
          exact ⟨by rw [h2, i1], by rw [h3, isZ1_spec hz], by rw [hm, hk], i2, ne_spec hn.1, ne_spec hn.2⟩
        · cases h
      · cases h
    · cases h
  · cases h
theorem rest_spec {s : St} (h : rest_ s = true) : s.mem 2 = some ⟨true, .cells z6⟩ ∧ s.mem 3 = some ⟨true, .cells z7⟩ := by
  unfold rest_ at h
  split at h
  · rename_i c d h2 h3
    simp only [Bool.and_eq_true] at h
    exact ⟨by rw [h2, isZ_spec h.1], by rw [h3, isZ1_spec h.2]⟩
  · cases h
theorem flat_asg : flatC asg = true := by kernel_rfl
theorem flat_bdy : flatC bdy = true := by kernel_rfl
def roundR {v : Seen} (c : Cx F γ s a ws v) (l D : Nat) (ρ : Loop) (x : Unit ⊕ R9) (e : Ending) (W' : World) : Prop := match x with
  | .inl _ => e = .returned (.bool true) ∧ J c W' ∧ W'.heap[l]? = some (.loop ρ) ∧ W'.heap[D]? = some (.deferred (some []))
  | .inr r => e = .returned (.bool false) ∧ Done c r l D W' ∧ W'.heap[l]? = some (.loop { ρ with state := .done, pending := some .ret }) ∧ W'.heap[D]? = some (.deferred (some []))
theorem round_in {K n fn : Nat} {v : Seen} {c : Cx F γ s a ws v} {W : World} (hJ : J c W) {l D : Nat} {i : Int} {row : List Vm.D} {C : Array Value} (hC : All2 (RelC (fR c l D W) (gR c) (sR i row v.id v.day).mem W) (cvsL Lp row 0) C.toList)
    {ρ : Loop} (hl : W.heap[l]? = some (.loop ρ)) (hst : ρ.state = .ready) (hpe : ρ.pending = none) (hD : W.heap[D]? = some (.deferred (some []))) (hlw : ws.heap.size ≤ l) (hDw : ws.heap.size ≤ D) (hlD : l ≠ D)
    {x : Unit ⊕ R9} (hr : rnd K i row v.id v.day = some x) :
    RoundIn Fence.wide n P l fn ((a.tmps.setIfInBounds 25 (.int .i64 i)).setIfInBounds 26 (.agg C)) asg bdy W (roundR c l D ρ x) := by
  refine roundIn_of_wpIn trivial ?_
  have hr' : (rndT K i row v.id v.day).den = some x := by rw [← den2_eq, rnd_eq]; exact hr
  unfold rndT at hr'
  rw [T.den_bind] at hr'
  cases hx : (runC P (env K) lenv0 asg (sR i row v.id v.day)).den with
  | none => rw [hx] at hr'; cases hr'
  | some y =>
  obtain ⟨e1, s1⟩ := y
  rw [hx] at hr'
  simp only [Option.bind_some] at hr'
  cases e1 with
  | exit => exact (den_fail hr').elim
  | ret => exact (den_fail hr').elim
  | pan => exact (den_fail hr').elim
  | normal =>
  simp only at hr'
  rw [T.den_bind] at hr'
  have llt : l < W.heap.size := (Array.getElem?_eq_some_iff.1 hl).1
  have Dlt : D < W.heap.size := (Array.getElem?_eq_some_iff.1 hD).1
  have q6 := c.l6
  have q7 := c.l7
  have nI : ∀ g, ws.heap.size ≤ g → ¬ c.I g := fun g hg hi => by rcases hi with rfl | rfl <;> omega
  refine wpIn_mono (runC_in (r := some l) (n := n) (env__prod_Catalogue_List_ok K) asg flat_asg _ _ _ hx (fun t m e => by cases e) ⟨zR c l D W, c.I, []⟩ W _ W (fR c l D W) (gR c) (round_rel hJ hlw hDw hC) (fun b hb => hb)) ?_
  rintro ex a1 W1 ⟨rfl, F1, γ1, R1, hF1, hx1⟩
  have B1 : Bel c.I W.heap.size W W1 := R1.below
  have hl1 : W1.heap[l]? = some (.loop ρ) := (B1.block l llt (nI l hlw)).trans hl
  have hD1 : W1.heap[D]? = some (.deferred (some [])) := (B1.block D Dlt (nI D hDw)).trans hD
  have tr1 : ∀ g, Tracked F1 γ1 s1.mem g → g ≠ l ∧ g ≠ D := fun g hg => by
    rcases R1.tracked hg with h | h | h
    · exact ⟨h.2.2.2.1, h.2.2.2.2⟩
    · omega
    · have h : c.I g := h
      constructor
      · intro e; subst e; exact nI _ hlw h
      · intro e; subst e; exact nI _ hDw h
  show ∃ w₂, (Instr.beginRound l).run P W1 = .ok () w₂ ∧ bdy.wpIn (Fence.wide.inRound l) n P (roundPost P l (roundR c l D ρ x)) a1 w₂
  refine ⟨_, run_beginRound hl1 hst, ?_⟩
  obtain ⟨W2, hW2⟩ : ∃ W2, W2 = W1.putObj l (.loop { ρ with state := .busy }) := ⟨_, rfl⟩
  rw [← hW2]
  have B2 : Bel (fun g => g = l) W1.heap.size W1 W2 := hW2 ▸ bel_put _ hl1 rfl
  have R2 := R1.reroot B2 (fun g hg => (tr1 g hg).1)
  have l2 : l < W2.heap.size := by have := B1.size; have := B2.size; omega
  have hl2 : W2.heap[l]? = some (.loop { ρ with state := .busy }) := by rw [hW2]; exact World.putObj_heap_same (Array.getElem?_eq_some_iff.1 hl1).1
  have hD2 : W2.heap[D]? = some (.deferred (some [])) := (B2.block D (Array.getElem?_eq_some_iff.1 hD1).1 (Ne.symm hlD)).trans hD1
  cases hy : (runC P (env K) lenv0 bdy s1).den with
  | none => rw [hy] at hr'; cases hr'
  | some y =>
  obtain ⟨e2, s2⟩ := y
  rw [hy] at hr'
  simp only [Option.bind_some] at hr'
  have np : ∀ t m, e2 ≠ .pan t m := fun t m e => by subst e; exact den_fail hr'
  refine wpIn_mono (runC_in (r := some l) (n := n) (env__prod_Catalogue_List_ok K) bdy flat_bdy _ _ _ hy np _ W2 a1 W2 F1 γ1 R2 hF1) ?_
  rintro ex a2 W3 ⟨rfl, F2, γ2, R3, hF2, hx2⟩
  have B3 : Bel (Owned γ1 s1.mem) W2.heap.size W2 W3 := R3.below
  have ow : ∀ g, Owned γ1 s1.mem g → W.heap.size ≤ g ∨ c.I g := fun g ⟨b, e, base, h1, h2, h3⟩ => (R1.own b e g base h1 h2 h3).1
  have nO : ∀ g, g < W.heap.size → ws.heap.size ≤ g → ¬ Owned γ1 s1.mem g := fun g h1 h2 h3 => (ow g h3).elim (fun h => by omega) (nI g h2)
  have s12 := B1.size
  have s23 := B2.size
  have s34 := B3.size
  have hl3 : W3.heap[l]? = some (.loop { ρ with state := .busy }) := (B3.block l l2 (nO l llt hlw)).trans hl2
  have hD3 : W3.heap[D]? = some (.deferred (some [])) := (B3.block D (by omega) (nO D Dlt hDw)).trans hD2
  have s01 := hJ.bel.size
  have BW : Bel c.I ws.heap.size ws W3 := ((hJ.bel.call B1 s01 (fun g h => .inr h)).call B2 (by omega) (fun g h => .inl (h ▸ hlw))).call B3 (by omega) (fun g h => (ow g h).imp (fun h => by omega) id)
  have k2 : γ2 2 = some (c.g6, c.p6) := by rw [hx2.2 2 (hx1.1 2 (by show (2 : Nat) < 4; decide)), hx1.2 2 (by show (2 : Nat) < 4; decide)]; rfl
  have k3 : γ2 3 = some (c.g7, c.p7) := by rw [hx2.2 3 (hx1.1 3 (by show (3 : Nat) < 4; decide)), hx1.2 3 (by show (3 : Nat) < 4; decide)]; rfl
  have B4 : ∀ o', Bel (fun g => ws.heap.size ≤ g) W3.heap.size W3 (W3.putObj l o') := fun o' => (bel_put o' hl3 rfl).mono (Nat.le_refl _) fun g _ h => h ▸ hlw
  have d4 : ∀ o', (W3.putObj l o').heap[D]? = some (.deferred (some [])) := fun o' => (World.putObj_heap_other (Ne.symm hlD)).trans hD3
  cases e2 with
  | exit => exact (den_fail hr').elim
  | pan t m => exact (np t m rfl).elim
  | normal =>
    simp only at hr'
    split at hr'
    case h_2 => exact (den_fail hr').elim
    rename_i hz
    obtain ⟨m2, m3⟩ := rest_spec hz
    obtain rfl : x = .inl () := by simpa [T.den] using hr'.symm
    refine ⟨_, _, run_endRound none hl3, rfl, ?_, ?_, d4 _⟩
    · refine J.later ⟨BW, ?_, ?_, ?_, ?_⟩ (B4 _)
      · exact relB_vals rfl (by rw [k2, c.c6]) (fun _ _ _ => rfl) (R3.memr 2 _ m2).2
      · exact relB_vals rfl (by rw [k3, c.c7]) (fun _ _ _ => rfl) (R3.memr 3 _ m3).2
      · exact R3.nofr 2 _ _ _ m2 rfl k2
      · exact R3.nofr 3 _ _ _ m3 rfl k3
    · rw [World.putObj_heap_same (Array.getElem?_eq_some_iff.1 hl3).1]
      have : ({ ({ ρ with state := .busy } : Loop) with state := .ready, pending := none } : Loop) = ρ := by
        cases ρ; simp only at hst hpe; subst hst; subst hpe; rfl
      exact congrArg (fun q => some (Obj.loop q)) this
  | ret =>
    simp only at hr'
    split at hr'
    case h_2 => exact (den_fail hr').elim
    rename_i r' hg
    obtain ⟨bn, r⟩ := r'
    obtain ⟨m2, m3, mb, hlen, n2, n3⟩ := got_spec hg
    obtain rfl : x = .inr r := by simpa [T.den] using hr'.symm
    refine ⟨_, _, run_endRound (some .ret) hl3, rfl, ?_, ?_, d4 _⟩
    · refine Done.later (W := W3) ⟨_, _, F2, γ2, s2, a2, bn, R3, BW, k2, k3, m2, m3, mb, hlen, fun g hg => ?_, fun g p hg => ?_⟩ hlw hDw ((bel_put _ hl3 rfl).mono (Nat.le_refl _) fun g _ h => .inl h)
      · rcases R3.tracked hg with h | h | h
        · exact tr1 g (.inl h)
        · omega
        · have := ow g h
          constructor
          · intro e; subst e; exact nO _ llt hlw h
          · intro e; subst e; exact nO _ Dlt hDw h
      · obtain ⟨o1, o2⟩ := R3.own bn _ g p mb rfl hg
        rcases o1 with o1 | o1
        · omega
        · rcases ow g o1 with o | o
          · omega
          · rcases o with o | o
            · exact (o2 2 _ _ _ (Ne.symm n2) m2 k2 o.symm).elim
            · exact (o2 3 _ _ _ (Ne.symm n3) m3 k3 o.symm).elim
    · rw [World.putObj_heap_same (Array.getElem?_eq_some_iff.1 hl3).1]
      rfl
end At
end
end Go.Proofs.Ytmmaechogibodaa.F
