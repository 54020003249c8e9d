/- Each operation of the abstract interpreter is what the model does: computing, making variables, reading and writing them. Conditions: none here. -/
import Derived.Test.YtoibhkhgpahdjaaVmB
import Derived.Laws.Tables
import Derived.Laws.Entries
set_option linter.unusedVariables false
set_option linter.unusedSimpArgs false
namespace Go.Proofs.Ytoibhkhgpahdjaa.Vm
open Go Go.RowKit

section
variable {P : Program} {A : Nat → Prop} {w0 : World} {F : Nat → Prop} {γ : GM} {s : St} {a : Act} {w : World}
theorem pureOf_run {α : Type} {x : Sem α} {v : α} (h : pureOf P x = some v) (w : World) : x.run P w = .ok v w := by
  induction x with
  | pure a => simp [pureOf] at h; simp [Sem.run, h]
  | program k ih => simp only [pureOf] at h; simp only [Sem.run]; exact ih _ h
  | mark m k ih => simp only [pureOf] at h; simp only [Sem.run]; exact ih h
  | _ => simp [pureOf] at h
theorem sInfo {t : TypeId} {i : TypeInfo} (h : P.info? t = some i) (w : World) : (typeInfo t).run P w = .ok i w := by simp [typeInfo, h]
theorem sSize {t : TypeId} {n : Nat} (h : sizeT P t = some n) (w : World) : (sizeOf t).run P w = .ok n w := by
  unfold sizeT at h
  split at h
  · rename_i i hi
    obtain rfl := Option.some.inj h
    simp [sizeOf, sInfo hi]
  · cases h
theorem sAgg {t : TypeId} {b : Bool} (h : aggT P t = some b) (w : World) : (Go.isAgg t).run P w = .ok b w := by
  unfold aggT at h
  cases hd : P.underlying t with
  | none => rw [hd] at h; cases h
  | some d => rw [hd] at h; cases d <;> (obtain rfl := Option.some.inj h; simp [Go.isAgg, run_underlying hd])

/-- What an operation does, as the region's walk wants it. -/
def Sim (P : Program) (A : Nat → Prop) (w0 : World) (F : Nat → Prop) (nid : Nat) (s : St) (o : Oper) (out : Out) (a : Act) (w : World) : Prop :=
  ∀ (K : Act → World → Prop) (Q : Exit → Act → World → Prop),
    (∀ V w' F' γ', Rel A w0 F' γ' (s.app o.dst out) (a.put o.dst V) w' → (∀ b, F' b → F b ∨ (nid ≤ b ∧ b < nid + 64)) → K (a.put o.dst V) w') → o.wp P a w K Q
theorem Sim.value {nid : Nat} {o : Oper} {out : Out} {V : Value} {w' : World} {F' : Nat → Prop} {γ' : GM} (h : (execOp a.eval o).run P w = .ok (.value V) w')
    (R : Rel A w0 F' γ' (s.app o.dst out) (a.put o.dst V) w') (hF : ∀ b, F' b → F b ∨ (nid ≤ b ∧ b < nid + 64)) : Sim P A w0 F nid s o out a w := fun K Q hK => by
  unfold Oper.wp; rw [h]; exact hK V w' F' γ' R hF
theorem Sim.skip {nid : Nat} {o : Oper} {out : Out} {w' : World} {F' : Nat → Prop} {γ' : GM} (h : (execOp a.eval o).run P w = .ok .skip w')
    (R : Rel A w0 F' γ' (s.app o.dst out) (a.put o.dst undef) w') (hF : ∀ b, F' b → F b ∨ (nid ≤ b ∧ b < nid + 64)) : Sim P A w0 F nid s o out a w := fun K Q hK => by
  unfold Oper.wp; rw [h]; exact hK undef w' F' γ' R hF
/-- Behind an operation that only computes or looks. -/
theorem Sim.look (R : Rel A w0 F γ s a w) {nid : Nat} {o : Oper} {v : SV} {V : Value} (h : (execOp a.eval o).run P w = .ok (.value V) w) (hv : RelV F γ s.mem w v V) : Sim P A w0 F nid s o ⟨v, []⟩ a w :=
  Sim.value h (R.putV o.dst hv) fun b hb => .inl hb

theorem cvVals_rel {m : MM} : ∀ {l : List CV} {vs Vs : List Value}, cvVals l = some vs → All2 (RelC F γ m w) l Vs → Vs = vs
  | [], vs, [], h, _ => by simp [cvVals] at h; exact h.symm ▸ rfl
  | c :: l, vs, V :: Vs, h, hr => by
    simp only [cvVals] at h
    split at h
    · rename_i v hv
      split at h
      · rename_i r hr'
        obtain rfl := Option.some.inj h
        have h2 := cvVals_rel hr' hr.2
        cases c with
        | val u => simp only [cvVal, Option.some.injEq] at hv; subst hv; rw [h2]; exact congrArg (· :: r) hr.1
        | ptr => simp [cvVal] at hv
        | slf => simp [cvVal] at hv
        | slc => simp [cvVal] at hv
        | any => simp [cvVal] at hv
      · cases h
    · cases h
  | [], vs, V :: Vs, h, hr => hr.elim
  | c :: l, vs, [], h, hr => hr.elim
theorem svVal_rel {m : MM} {x : SV} {v V : Value} (h : svVal x = some v) (hr : RelV F γ m w x V) : V = v := by
  cases x with
  | tup l => simp [svVal] at h
  | pv p =>
    cases p with
    | one c =>
      cases c with
      | val u => simp only [svVal, pvVal, cvVal, Option.some.injEq] at h; subst h; exact hr
      | ptr => simp [svVal, pvVal, cvVal] at h
      | slf => simp [svVal, pvVal, cvVal] at h
      | slc => simp [svVal, pvVal, cvVal] at h
      | any => simp [svVal, pvVal, cvVal] at h
    | agg l =>
      simp only [svVal, pvVal] at h
      split at h
      · rename_i vs hvs
        obtain rfl := Option.some.inj h
        obtain ⟨cs, rfl, h2⟩ := hr
        have := cvVals_rel hvs h2
        rw [← this]
      · cases h
theorem known_eval (R : Rel A w0 F γ s a w) : ∀ {l : List Operand}, known s.ev l = true → ∀ x ∈ l, a.eval x = valOf s.ev x
  | [], _, x, hx => by simp at hx
  | y :: l, h, x, hx => by
    simp only [known] at h
    split at h
    · rename_i v hv
      rcases List.mem_cons.1 hx with rfl | hx
      · unfold valOf; rw [hv]; exact svVal_rel hv (R.ev x)
      · exact known_eval R h x hx
    · cases h
theorem ok_pure (R : Rel A w0 F γ s a w) {nid : Nat} {o : Oper} {out : Out} (hs : ∀ cs b, o.op ≠ .select cs b) (h : (exPure P s.ev o).den = some out) : Sim P A w0 F nid s o out a w := by
  unfold exPure at h
  split at h
  · rename_i hk
    split at h
    · rename_i v hv
      obtain rfl := den_ret1 h
      refine Sim.look R ?_ (relV_svOf _ _ _ _ v)
      rw [execOp_congr o hs (fun x hx => known_eval R hk x (by simpa using hx))]
      exact pureOf_run hv w
    · exact (den_fail h).elim
  · exact (den_fail h).elim
theorem ok_copy (R : Rel A w0 F γ s a w) {nid : Nat} {o : Oper} {out : Out} {x : Operand} (ho : o.op = .move x ∨ o.op = .assign x) (h : (ret1 (s.ev x)).den = some out) : Sim P A w0 F nid s o out a w := by
  obtain rfl := den_ret1 h
  refine Sim.look R (V := a.eval x) ?_ (R.ev x)
  rcases ho with ho | ho <;> simp [execOp, ho]
theorem ok_pick (R : Rel A w0 F γ s a w) {nid : Nat} {o : Oper} {out : Out} {c x y : Operand} (ho : o.op = .pick c x y) {t : Bool} (hc : s.ev c = .pv (.one (.val (.bool t))))
    (h : (T.ite t (ret1 (s.ev x)) (ret1 (s.ev y))).den = some out) : Sim P A w0 F nid s o out a w := by
  have hv : a.eval c = .bool t := by have := R.ev c; rw [hc] at this; exact this
  simp only [T.den] at h
  cases t
  · obtain rfl := den_ret1 h
    exact Sim.look R (V := a.eval y) (by simp [execOp, ho, hv, asBool]) (R.ev y)
  · obtain rfl := den_ret1 h
    exact Sim.look R (V := a.eval x) (by simp [execOp, ho, hv, asBool]) (R.ev x)
theorem ev_int (R : Rel A w0 F γ s a w) {x : Operand} {k : IntKind} {n : Int} (h : s.ev x = .pv (.one (.val (.int k n)))) : a.eval x = .int k n := by
  have := R.ev x; rw [h] at this; exact this
theorem int1_rel {m : MM} (k : IntKind) (x : Int) : RelV F γ m w (.pv (.one (.val (.int k x)))) (.int k x) := rfl
theorem den_int1 {k : IntKind} {x : Int} {out : Out} (h : (int1 k x).den = some out) : out = ⟨.pv (.one (.val (.int k x))), []⟩ := by simp [int1, T.den] at h; exact h.symm
theorem ok_bin (R : Rel A w0 F γ s a w) {nid : Nat} {o : Oper} {out : Out} {op : BinOp} {xt yt : TypeId} {x y : Operand} (ho : o.op = .binOp op xt x y yt) (h : (exBin P s.ev o op x y).den = some out) : Sim P A w0 F nid s o out a w := by
  have hs : ∀ cs b, o.op ≠ .select cs b := fun cs b e => by rw [ho] at e; cases e
  unfold exBin at h
  split at h
  · rename_i k p k' q hx hy
    split at h
    · rename_i e; subst e
      simp only [T.den] at h
      split at h
      · cases h
      · rename_i hq
        obtain rfl := den_int1 h
        have hq' : ¬ q = 0 := by simpa using hq
        exact Sim.look R (by simp [execOp, ho, ev_int R hx, ev_int R hy, eqGuard, binOp, Op.intDiv, hq']) (int1_rel _ _)
    · exact (den_fail h).elim
  · rename_i k p k' q hx hy
    split at h
    · rename_i e; subst e
      simp only [T.den] at h
      split at h
      · cases h
      · rename_i hq
        obtain rfl := den_int1 h
        have hq' : ¬ q = 0 := by simpa using hq
        exact Sim.look R (by simp [execOp, ho, ev_int R hx, ev_int R hy, eqGuard, binOp, Op.intDiv, hq']) (int1_rel _ _)
    · exact (den_fail h).elim
  · rename_i k p k' q hx hy
    simp only [T.den] at h
    split at h
    · cases h
    · rename_i hq
      obtain rfl := den_int1 h
      have hq' : ¬ q < 0 := by simpa using hq
      exact Sim.look R (by simp [execOp, ho, ev_int R hx, ev_int R hy, eqGuard, binOp, Op.shift, hq']) (int1_rel _ _)
  · rename_i k p k' q hx hy
    simp only [T.den] at h
    split at h
    · cases h
    · rename_i hq
      obtain rfl := den_int1 h
      have hq' : ¬ q < 0 := by simpa using hq
      exact Sim.look R (by simp [execOp, ho, ev_int R hx, ev_int R hy, eqGuard, binOp, Op.shift, hq']) (int1_rel _ _)
  · rename_i k p k' q hx hy
    split at h
    · rename_i e; subst e
      obtain rfl := den_int1 h
      exact Sim.look R (by simp [execOp, ho, ev_int R hx, ev_int R hy, eqGuard, binOp, Op.intBits]; rfl) (int1_rel _ _)
    · exact (den_fail h).elim
  · rename_i k p k' q hx hy
    split at h
    · rename_i e; subst e
      obtain rfl := den_int1 h
      exact Sim.look R (by simp [execOp, ho, ev_int R hx, ev_int R hy, eqGuard, binOp, Op.intBits]; rfl) (int1_rel _ _)
    · exact (den_fail h).elim
  · rename_i k p k' q hx hy
    split at h
    · rename_i e; subst e
      obtain rfl := den_int1 h
      exact Sim.look R (by simp [execOp, ho, ev_int R hx, ev_int R hy, eqGuard, binOp, Op.intBits]; rfl) (int1_rel _ _)
    · exact (den_fail h).elim
  · exact ok_pure R hs h
theorem ok_un (R : Rel A w0 F γ s a w) {nid : Nat} {o : Oper} {out : Out} {op : UnOp} {xt : TypeId} {x : Operand} (ho : o.op = .unOp op xt x) (h : (exUn P s.ev o op x).den = some out) : Sim P A w0 F nid s o out a w := by
  have hs : ∀ cs b, o.op ≠ .select cs b := fun cs b e => by rw [ho] at e; cases e
  unfold exUn at h
  split at h
  · rename_i k p hx
    obtain rfl := den_int1 h
    exact Sim.look R (by simp [execOp, ho, ev_int R hx, Op.unary, Op.intBits]; rfl) (int1_rel _ _)
  · exact ok_pure R hs h

/-- One more name. -/
def addN (F : Nat → Prop) (q : Nat) : Nat → Prop := fun b => F b ∨ b = q
def addG (γ : GM) (q g base : Nat) : GM := fun b => if b = q then some (g, base) else γ b
theorem updM_one (m : MM) (q : Nat) (e : Option Ent) (b : Nat) : updM m [(q, e)] b = if b = q then e else m b := by
  simp only [updM]; by_cases h : b = q <;> simp [h]
theorem wstep_alloc (w : World) (o : Obj) : WStep w (w.alloc o) := fun g cs t h => by
  have hg : g < w.heap.size := by
    rcases Nat.lt_or_ge g w.heap.size with h' | h'
    · exact h'
    · simp [Array.getElem?_eq_none h'] at h
  exact ⟨cs, t, (Below.heap_alloc w o g hg).trans h, Nat.le_refl _⟩
theorem heap_alloc_new (w : World) (o : Obj) : (w.alloc o).heap[w.heap.size]? = some o := by show (w.heap.push o)[w.heap.size]? = _; simp
theorem mstep_new {q : Nat} (hf : ∀ b, F b → b ≠ q) (m : MM) (e : Option Ent) (g base : Nat) {w w' : World} (hw : WStep w w') :
    MStep F γ m w (addN F q) (addG γ q g base) (updM m [(q, e)]) w' :=
  ⟨fun b h => .inl h, fun b h => by simp [addG, hf b h], fun b e' hb he' => ⟨e', by rwa [updM_one, if_neg (hf b hb)] at he', rfl, rfl, fun _ _ h => h⟩, hw⟩
theorem Rel.new (R : Rel A w0 F γ s a w) {q : Nat} (hf : ∀ b, F b → b ≠ q) {blk : Blk} {cs : Array Value} {t : TypeId} {v : SV} {V : Value} (dst : Option Tmp)
    (hB : RelB (addN F q) (addG γ q w.heap.size 0) (updM s.mem [(q, some ⟨true, blk⟩)]) (w.alloc (.cells cs t)) q blk)
    (hV : RelV (addN F q) (addG γ q w.heap.size 0) (updM s.mem [(q, some ⟨true, blk⟩)]) (w.alloc (.cells cs t)) v V) :
    Rel A w0 (addN F q) (addG γ q w.heap.size 0) (s.app dst ⟨v, [(q, some ⟨true, blk⟩)]⟩) (a.put dst V) (w.alloc (.cells cs t)) := by
  have ms := mstep_new (γ := γ) hf s.mem (some ⟨true, blk⟩) w.heap.size 0 (wstep_alloc w (.cells cs t))
  have old : ∀ b e, updM s.mem [(q, some ⟨true, blk⟩)] b = some e → b ≠ q → s.mem b = some e := fun b e h hb => by rwa [updM_one, if_neg hb] at h
  refine R.put (o := ⟨v, [(q, some ⟨true, blk⟩)]⟩) (R.below.alloc R.below.size _ _) ms hV (fun b e h => ?_) (fun b e g base h ho hg => ?_) (fun b e g base h ho hg => ?_) (fun b e g base h hg => ?_)
  · by_cases hb : b = q
    · subst hb
      have : e = ⟨true, blk⟩ := by rw [updM_one, if_pos rfl] at h; exact (Option.some.inj h).symm
      subst this
      exact ⟨.inr rfl, hB⟩
    · obtain ⟨h1, h2⟩ := R.memr b e (old b e h hb)
      refine ⟨.inl h1, fun i j c hc => ?_⟩
      obtain ⟨g, base, cs', t', V', k1, k2, k3, k4⟩ := h2 i j c hc
      refine ⟨g, base, cs', t', V', by simp [addG, hb, k1], ?_, k3, k4.step ms⟩
      rw [Below.heap_alloc w _ g (R.bnd b e g base (old b e h hb) k1)]; exact k2
  · by_cases hb : b = q
    · subst hb
      simp only [addG, if_true, Option.some.injEq, Prod.mk.injEq] at hg
      obtain ⟨rfl, rfl⟩ := hg
      refine ⟨R.below.size, fun b' e' g' base' hne h' hg' e => ?_⟩
      simp only [addG, if_neg hne] at hg'
      have := R.bnd b' e' g' base' (old b' e' h' hne) hg'
      omega
    · simp only [addG, if_neg hb] at hg
      obtain ⟨h1, h2⟩ := R.own b e g base (old b e h hb) ho hg
      refine ⟨h1, fun b' e' g' base' hne h' hg' => ?_⟩
      by_cases hb' : b' = q
      · subst hb'
        simp only [addG, if_true, Option.some.injEq, Prod.mk.injEq] at hg'
        have := R.bnd b e g base (old b e h hb) hg
        omega
      · simp only [addG, if_neg hb'] at hg'
        exact h2 b' e' g' base' hne (old b' e' h' hb') hg'
  · by_cases hb : b = q
    · subst hb
      have : e = ⟨true, blk⟩ := by rw [updM_one, if_pos rfl] at h; exact (Option.some.inj h).symm
      subst this; cases ho
    · simp only [addG, if_neg hb] at hg
      exact R.shr b e g base (old b e h hb) ho hg
  · by_cases hb : b = q
    · subst hb
      simp only [addG, if_true, Option.some.injEq, Prod.mk.injEq] at hg
      simp; omega
    · simp only [addG, if_neg hb] at hg
      have := R.bnd b e g base (old b e h hb) hg
      simp; omega
theorem addN_bd {nid : Nat} : ∀ b, addN F nid b → F b ∨ (nid ≤ b ∧ b < nid + 64) := fun b h => h.elim .inl fun e => .inr (by omega)
/-- A new variable of known cells. -/
theorem Sim.newCells (R : Rel A w0 F γ s a w) {nid : Nat} (hf : ∀ q, nid ≤ q → q < nid + 64 → ¬ F q) {o : Oper} {out : Out} {l : List CV} {cs : Array Value} {t : TypeId}
    (h : (execOp a.eval o).run P w = .ok (.value (.pointer (some ⟨w.heap.size, 0, none⟩))) (w.alloc (.cells cs t))) (hl : All2 (RelC F γ s.mem w) l cs.toList) (ho : (exNew nid l).den = some out) : Sim P A w0 F nid s o out a w := by
  simp [exNew, T.den] at ho
  subst ho
  have hne : ∀ b, F b → b ≠ nid := fun b hb e => hf nid (Nat.le_refl _) (by omega) (e ▸ hb)
  have ms := mstep_new (γ := γ) hne s.mem (some ⟨true, .cells l⟩) w.heap.size 0 (wstep_alloc w (.cells cs t))
  refine Sim.value h (R.new hne o.dst (fun i j c hc => ?_) ?_) addN_bd
  · simp only [Blk.at] at hc
    split at hc
    · rename_i hi; subst hi
      obtain ⟨V, h1, h2⟩ := hl.get j c hc
      exact ⟨w.heap.size, 0, cs, (t, (0, 0)), V, by simp [addG], heap_alloc_new w _, by simpa [Blk.n] using h1, h2.step ms⟩
    · cases hc
  · refine ⟨.inr rfl, ⟨w.heap.size, 0, by simp [addG], by simp⟩, fun e he => ?_⟩
    rw [updM_one, if_pos rfl] at he
    obtain rfl := Option.some.inj he
    exact ⟨rfl, rfl⟩
theorem intsOf_rep {k : IntKind} : ∀ (n : Nat) (l : List CV) (xs : List Int), intsOf (rep n k) l = some xs → l = xs.map (fun x => .val (.int k x)) ∧ xs.length = n
  | 0, [], xs, h => by simp only [rep, intsOf, Option.some.injEq] at h; subst h; exact ⟨rfl, rfl⟩
  | 0, _ :: _, xs, h => by simp [rep, intsOf] at h
  | n + 1, [], xs, h => by simp [rep, intsOf] at h
  | n + 1, c :: l, xs, h => by
    cases c with
    | val v =>
      cases v with
      | int k' x =>
        simp only [rep, intsOf] at h
        split at h
        · rename_i e; subst e
          split at h
          · rename_i r hr
            obtain rfl := Option.some.inj h
            obtain ⟨h1, h2⟩ := intsOf_rep n l r hr
            exact ⟨by simp [h1], by simp [h2]⟩
          · cases h
        · cases h
      | _ => simp [rep, intsOf] at h
    | _ => simp [rep, intsOf] at h
/-- A new variable: cells, or an array of numbers. -/
theorem Sim.newV (R : Rel A w0 F γ s a w) {nid : Nat} (hf : ∀ q, nid ≤ q → q < nid + 64 → ¬ F q) {o : Oper} {out : Out} {l : List CV} {cs : Array Value} {t t' : TypeId}
    (h : (execOp a.eval o).run P w = .ok (.value (.pointer (some ⟨w.heap.size, 0, none⟩))) (w.alloc (.cells cs t))) (hl : All2 (RelC F γ s.mem w) l cs.toList) (ho : (exNewV P nid t' l).den = some out) : Sim P A w0 F nid s o out a w := by
  unfold exNewV at ho
  split at ho
  · rename_i k hk
    split at ho
    · rename_i x xs hx
      simp only [T.den, Option.some.injEq] at ho
      subst ho
      obtain ⟨rfl, hlen⟩ := intsOf_rep _ _ _ hx
      have hne : ∀ b, F b → b ≠ nid := fun b hb e => hf nid (Nat.le_refl _) (by omega) (e ▸ hb)
      have ms := mstep_new (γ := γ) hne s.mem (some ⟨true, .row k (x :: xs)⟩) w.heap.size 0 (wstep_alloc w (.cells cs t))
      refine Sim.value h (R.new hne o.dst (fun i j c hc => ?_) ?_) addN_bd
      · simp only [Blk.at] at hc
        split at hc
        · rename_i hi
          obtain ⟨rfl, hi⟩ := hi
          obtain rfl := Option.some.inj hc
          obtain ⟨V, h1, h2⟩ := hl.get i (.val (.int k (nth 0 (x :: xs) i))) (by rw [List.getElem?_map, nth_eq, List.getD_eq_getElem?_getD, List.getElem?_eq_getElem hi]; rfl)
          exact ⟨w.heap.size, 0, cs, (t, (0, 0)), V, by simp [addG], heap_alloc_new w _, by simpa [Blk.n] using h1, h2.step ms⟩
        · cases hc
      · refine ⟨.inr rfl, ⟨w.heap.size, 0, by simp [addG], by simp⟩, fun e he => ?_⟩
        rw [updM_one, if_pos rfl] at he
        obtain rfl := Option.some.inj he
        exact ⟨rfl, by simp⟩
    · exact (den_fail ho).elim
  · exact Sim.newCells R hf h hl ho
theorem ok_alloc (R : Rel A w0 F γ s a w) {nid : Nat} (hf : ∀ q, nid ≤ q → q < nid + 64 → ¬ F q) {o : Oper} {out : Out} {t : TypeId} (ho : o.op = .alloc t) (h : (exAlloc P nid t).den = some out) : Sim P A w0 F nid s o out a w := by
  unfold exAlloc at h
  split at h
  · rename_i i hi
    split at h
    · rename_i z hz
      refine Sim.newV R hf (cs := z.cells) (t := t) ?_ (all2_val _ _ _ _ z.cells.toList) h
      simp [execOp, ho, Instr.alloc, zeroValue, sInfo hi, hz, newVar, newRow]
    · exact (den_fail h).elim
  · exact (den_fail h).elim
end
end Go.Proofs.Ytoibhkhgpahdjaa.Vm
