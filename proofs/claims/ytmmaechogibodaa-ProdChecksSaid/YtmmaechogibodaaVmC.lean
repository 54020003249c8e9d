/- Each operation of the abstract interpreter is what the model does: computing, making variables, reading and writing them. Conditions: none here. -/
import Derived.Test.YtmmaechogibodaaVmB
import Derived.Laws.Tables
import Derived.Laws.Entries
set_option linter.unusedVariables false
set_option linter.unusedSimpArgs false
namespace Go.Proofs.Ytmmaechogibodaa.Vm
open Go Go.RowKit

section
variable {P : Program} {A : Ctx} {w0 : World} {F : NS} {γ : GM} {s : St} {a : Act} {w : World}
theorem pureOf_run {α : Type} {x : Sem α} {v : α} (h : pureOf P x = some v) (w : World) : x.run P w = .ok v w := by
  induction x with
  | pure a => simp [pureOf] at h; simp [Sem.run, h]
  | program k ih => simp only [pureOf] at h; simp only [Sem.run]; exact ih _ h
  | mark m k ih => simp only [pureOf] at h; simp only [Sem.run]; exact ih h
  | _ => simp [pureOf] at h
theorem sInfo {t : TypeId} {i : TypeInfo} (h : P.info? t = some i) (w : World) : (typeInfo t).run P w = .ok i w := by simp [typeInfo, h]
theorem sSize {t : TypeId} {n : Nat} (h : sizeT P t = some n) (w : World) : (sizeOf t).run P w = .ok n w := by
  unfold sizeT at h
  split at h
  · rename_i i hi
    obtain rfl := Option.some.inj h
    simp [sizeOf, sInfo hi]
  · cases h
theorem sAgg {t : TypeId} {b : Bool} (h : aggT P t = some b) (w : World) : (Go.isAgg t).run P w = .ok b w := by
  unfold aggT at h
  cases hd : P.underlying t with
  | none => rw [hd] at h; cases h
  | some d => rw [hd] at h; cases d <;> (obtain rfl := Option.some.inj h; simp [Go.isAgg, run_underlying hd])

/-- What an operation does, as the region's walk wants it. -/
def Sim (P : Program) (A : Ctx) (w0 : World) (F : NS) (γ : GM) (nid : Nat) (s : St) (o : Oper) (out : Out) (a : Act) (w : World) : Prop :=
  ∀ (K : Act → World → Prop) (Q : Exit → Act → World → Prop),
    (∀ V w' F' γ', Rel A w0 F' γ' (s.app o.dst out) (a.put o.dst V) w' → (∀ b, F' b → F b ∨ (nid ≤ b ∧ b < nid + 64)) → Ext F γ F' γ' → K (a.put o.dst V) w') → o.wp P a w K Q
theorem Sim.value {nid : Nat} {o : Oper} {out : Out} {V : Value} {w' : World} {F' : NS} {γ' : GM} (h : (execOp a.eval o).run P w = .ok (.value V) w')
    (R : Rel A w0 F' γ' (s.app o.dst out) (a.put o.dst V) w') (hF : ∀ b, F' b → F b ∨ (nid ≤ b ∧ b < nid + 64)) (hx : Ext F γ F' γ') : Sim P A w0 F γ nid s o out a w := fun K Q hK => by
  unfold Oper.wp; rw [h]; exact hK V w' F' γ' R hF hx
theorem Sim.skip {nid : Nat} {o : Oper} {out : Out} {w' : World} {F' : NS} {γ' : GM} (h : (execOp a.eval o).run P w = .ok .skip w')
    (R : Rel A w0 F' γ' (s.app o.dst out) (a.put o.dst undef) w') (hF : ∀ b, F' b → F b ∨ (nid ≤ b ∧ b < nid + 64)) (hx : Ext F γ F' γ') : Sim P A w0 F γ nid s o out a w := fun K Q hK => by
  unfold Oper.wp; rw [h]; exact hK undef w' F' γ' R hF hx
/-- Behind an operation that only computes or looks. -/
theorem Sim.look (R : Rel A w0 F γ s a w) {nid : Nat} {o : Oper} {v : SV} {V : Value} (h : (execOp a.eval o).run P w = .ok (.value V) w) (hv : RelV F γ s.mem w v V) : Sim P A w0 F γ nid s o ⟨v, []⟩ a w :=
  Sim.value h (R.putV o.dst hv) (fun b hb => .inl hb) (Ext.refl F γ)

theorem cvVals_rel {m : MM} : ∀ {l : List CV} {vs Vs : List Value}, cvVals l = some vs → All2 (RelC F γ m w) l Vs → Vs = vs
  | [], vs, [], h, _ => by simp [cvVals] at h; exact h.symm ▸ rfl
  | c :: l, vs, V :: Vs, h, hr => by
    simp only [cvVals] at h
    split at h
    · rename_i v hv
      split at h
      · rename_i r hr'
        obtain rfl := Option.some.inj h
        have h2 := cvVals_rel hr' hr.2
        cases c with
        | val u => simp only [cvVal, Option.some.injEq] at hv; subst hv; rw [h2]; exact congrArg (· :: r) hr.1
        | ptr => simp [cvVal] at hv
        | slf => simp [cvVal] at hv
        | slc => simp [cvVal] at hv
        | ro => simp [cvVal] at hv
        | rop => simp [cvVal] at hv
        | mapr => simp [cvVal] at hv
        | mptr => simp [cvVal] at hv
        | dt => simp [cvVal] at hv
        | any => simp [cvVal] at hv
      · cases h
    · cases h
  | [], vs, V :: Vs, h, hr => hr.elim
  | c :: l, vs, [], h, hr => hr.elim
theorem svVal_rel {m : MM} {x : SV} {v V : Value} (h : svVal x = some v) (hr : RelV F γ m w x V) : V = v := by
  cases x with
  | tup l => simp [svVal] at h
  | pv p =>
    cases p with
    | one c =>
      cases c with
      | val u => simp only [svVal, pvVal, cvVal, Option.some.injEq] at h; subst h; exact hr
      | ptr => simp [svVal, pvVal, cvVal] at h
      | slf => simp [svVal, pvVal, cvVal] at h
      | slc => simp [svVal, pvVal, cvVal] at h
      | ro => simp [svVal, pvVal, cvVal] at h
      | rop => simp [svVal, pvVal, cvVal] at h
      | mapr => simp [svVal, pvVal, cvVal] at h
      | mptr => simp [svVal, pvVal, cvVal] at h
      | dt => simp [svVal, pvVal, cvVal] at h
      | any => simp [svVal, pvVal, cvVal] at h
    | dat l ds => simp [svVal, pvVal] at h
    | agg l =>
      simp only [svVal, pvVal] at h
      split at h
      · rename_i vs hvs
        obtain rfl := Option.some.inj h
        obtain ⟨cs, rfl, h2⟩ := hr
        have := cvVals_rel hvs h2
        rw [← this]
      · cases h
theorem known_eval (R : Rel A w0 F γ s a w) : ∀ {l : List Operand}, known s.ev l = true → ∀ x ∈ l, a.eval x = valOf s.ev x
  | [], _, x, hx => by simp at hx
  | y :: l, h, x, hx => by
    simp only [known] at h
    split at h
    · rename_i v hv
      rcases List.mem_cons.1 hx with rfl | hx
      · unfold valOf; rw [hv]; exact svVal_rel hv (R.ev x)
      · exact known_eval R h x hx
    · cases h
theorem ok_pure (R : Rel A w0 F γ s a w) {nid : Nat} {o : Oper} {out : Out} (hs : ∀ cs b, o.op ≠ .select cs b) (h : (exPure P s.ev o).den = some out) : Sim P A w0 F γ nid s o out a w := by
  unfold exPure at h
  split at h
  · rename_i hk
    split at h
    · rename_i v hv
      obtain rfl := den_ret1 h
      refine Sim.look R ?_ (relV_svOf _ _ _ _ v)
      rw [execOp_congr o hs (fun x hx => known_eval R hk x (by simpa using hx))]
      exact pureOf_run hv w
    · exact (den_fail h).elim
  · exact (den_fail h).elim
theorem ok_copy (R : Rel A w0 F γ s a w) {nid : Nat} {o : Oper} {out : Out} {x : Operand} (ho : o.op = .move x ∨ o.op = .assign x) (h : (ret1 (s.ev x)).den = some out) : Sim P A w0 F γ nid s o out a w := by
  obtain rfl := den_ret1 h
  refine Sim.look R (V := a.eval x) ?_ (R.ev x)
  rcases ho with ho | ho <;> simp [execOp, ho]
theorem ok_pick (R : Rel A w0 F γ s a w) {nid : Nat} {o : Oper} {out : Out} {c x y : Operand} (ho : o.op = .pick c x y) {t : Bool} (hc : s.ev c = .pv (.one (.val (.bool t))))
    (h : (T.ite t (ret1 (s.ev x)) (ret1 (s.ev y))).den = some out) : Sim P A w0 F γ nid s o out a w := by
  have hv : a.eval c = .bool t := by have := R.ev c; rw [hc] at this; exact this
  simp only [T.den] at h
  cases t
  · obtain rfl := den_ret1 h
    exact Sim.look R (V := a.eval y) (by simp [execOp, ho, hv, asBool]) (R.ev y)
  · obtain rfl := den_ret1 h
    exact Sim.look R (V := a.eval x) (by simp [execOp, ho, hv, asBool]) (R.ev x)
theorem ev_int (R : Rel A w0 F γ s a w) {x : Operand} {k : IntKind} {n : Int} (h : s.ev x = .pv (.one (.val (.int k n)))) : a.eval x = .int k n := by
  have := R.ev x; rw [h] at this; exact this
theorem int1_rel {m : MM} (k : IntKind) (x : Int) : RelV F γ m w (.pv (.one (.val (.int k x)))) (.int k x) := rfl
theorem den_int1 {k : IntKind} {x : Int} {out : Out} (h : (int1 k x).den = some out) : out = ⟨.pv (.one (.val (.int k x))), []⟩ := by simp [int1, T.den] at h; exact h.symm
theorem ok_bin (R : Rel A w0 F γ s a w) {nid : Nat} {o : Oper} {out : Out} {op : BinOp} {xt yt : TypeId} {x y : Operand} (ho : o.op = .binOp op xt x y yt) (h : (exBin P s.ev o op x y).den = some out) : Sim P A w0 F γ nid s o out a w := by
  have hs : ∀ cs b, o.op ≠ .select cs b := fun cs b e => by rw [ho] at e; cases e
  unfold exBin at h
  split at h
  · rename_i k p k' q hx hy
    split at h
    · rename_i e; subst e
      simp only [T.den] at h
      split at h
      · cases h
      · rename_i hq
        obtain rfl := den_int1 h
        have hq' : ¬ q = 0 := by simpa using hq
        exact Sim.look R (by simp [execOp, ho, ev_int R hx, ev_int R hy, eqGuard, binOp, Op.intDiv, hq']) (int1_rel _ _)
    · exact (den_fail h).elim
  · rename_i k p k' q hx hy
    split at h
    · rename_i e; subst e
      simp only [T.den] at h
      split at h
      · cases h
      · rename_i hq
        obtain rfl := den_int1 h
        have hq' : ¬ q = 0 := by simpa using hq
        exact Sim.look R (by simp [execOp, ho, ev_int R hx, ev_int R hy, eqGuard, binOp, Op.intDiv, hq']) (int1_rel _ _)
    · exact (den_fail h).elim
  · rename_i k p k' q hx hy
    simp only [T.den] at h
    split at h
    · cases h
    · rename_i hq
      obtain rfl := den_int1 h
      have hq' : ¬ q < 0 := by simpa using hq
      exact Sim.look R (by simp [execOp, ho, ev_int R hx, ev_int R hy, eqGuard, binOp, Op.shift, hq']) (int1_rel _ _)
  · rename_i k p k' q hx hy
    simp only [T.den] at h
    split at h
    · cases h
    · rename_i hq
      obtain rfl := den_int1 h
      have hq' : ¬ q < 0 := by simpa using hq
      exact Sim.look R (by simp [execOp, ho, ev_int R hx, ev_int R hy, eqGuard, binOp, Op.shift, hq']) (int1_rel _ _)
  · rename_i k p k' q hx hy
    split at h
    · rename_i e; subst e
      obtain rfl := den_int1 h
      exact Sim.look R (by simp [execOp, ho, ev_int R hx, ev_int R hy, eqGuard, binOp, Op.intBits]; rfl) (int1_rel _ _)
    · exact (den_fail h).elim
  · rename_i k p k' q hx hy
    split at h
    · rename_i e; subst e
      obtain rfl := den_int1 h
      exact Sim.look R (by simp [execOp, ho, ev_int R hx, ev_int R hy, eqGuard, binOp, Op.intBits]; rfl) (int1_rel _ _)
    · exact (den_fail h).elim
  · rename_i k p k' q hx hy
    split at h
    · rename_i e; subst e
      obtain rfl := den_int1 h
      exact Sim.look R (by simp [execOp, ho, ev_int R hx, ev_int R hy, eqGuard, binOp, Op.intBits]; rfl) (int1_rel _ _)
    · exact (den_fail h).elim
  · exact ok_pure R hs h
theorem ok_un (R : Rel A w0 F γ s a w) {nid : Nat} {o : Oper} {out : Out} {op : UnOp} {xt : TypeId} {x : Operand} (ho : o.op = .unOp op xt x) (h : (exUn P s.ev o op x).den = some out) : Sim P A w0 F γ nid s o out a w := by
  have hs : ∀ cs b, o.op ≠ .select cs b := fun cs b e => by rw [ho] at e; cases e
  unfold exUn at h
  split at h
  · rename_i k p hx
    obtain rfl := den_int1 h
    exact Sim.look R (by simp [execOp, ho, ev_int R hx, Op.unary, Op.intBits]; rfl) (int1_rel _ _)
  · exact ok_pure R hs h

/-- One more name. -/
def addN (F : NS) (q : Nat) : NS := { F with f := fun b => F b ∨ b = q }
def addG (γ : GM) (q g base : Nat) : GM := fun b => if b = q then some (g, base) else γ b
theorem updM_one (m : MM) (q : Nat) (e : Option Ent) (b : Nat) : updM m [(q, e)] b = if b = q then e else m b := by
  simp only [updM]; by_cases h : b = q <;> simp [h]
theorem heap_alloc_new (w : World) (o : Obj) : (w.alloc o).heap[w.heap.size]? = some o := by show (w.heap.push o)[w.heap.size]? = _; simp
theorem Mem.zalloc {m : MM} {rt : List Nat} (M : Mem A w0 F γ m rt w) (o : Obj) : ∀ g, F.z g → (w.alloc o).heap[g]? = w.heap[g]? := fun g h => Below.heap_alloc w o g (M.zok g h).1
theorem mstep_new {q : Nat} (hf : ∀ b, F b → b ≠ q) (m : MM) (e : Option Ent) (g base : Nat) {w w' : World} (hw : WStep w w') (hz : ∀ g, F.z g → w'.heap[g]? = w.heap[g]?) :
    MStep F γ m w (addN F q) (addG γ q g base) (updM m [(q, e)]) w' :=
  ⟨fun b h => .inl h, fun b h => by simp [addG, hf b h], fun b e' hb he' => ⟨e', by rwa [updM_one, if_neg (hf b hb)] at he', rfl, rfl, rfl, fun _ _ h => h⟩, hw, fun _ h => h, hz⟩
theorem Mem.mnew {m : MM} {rt : List Nat} (M : Mem A w0 F γ m rt w) {q : Nat} (hf : ∀ b, F b → b ≠ q) (e : Option Ent) (o : Obj) : MStep F γ m w (addN F q) (addG γ q w.heap.size 0) (updM m [(q, e)]) (w.alloc o) :=
  mstep_new hf m e w.heap.size 0 (wstep_alloc w o) (M.zalloc o)
/-- One more block, owned. -/
theorem Mem.new {m : MM} {rt : List Nat} (M : Mem A w0 F γ m rt w) {q : Nat} (hf : ∀ b, F b → b ≠ q) {blk : Blk} {ob : Obj} (hob : ∀ (cs : Array Value) (t : TF), ob = .cells cs t.1 t.2 → t.2.1 = t.2.2 ∨ cs.size ≤ t.2.1)
    (hmap : ∀ kk vk es, blk = .map kk vk es → ∃ ents clock, ob = .map ents clock ∧ mapOk kk vk es ents clock)
    (hB : RelB (addN F q) (addG γ q w.heap.size 0) (updM m [(q, some ⟨true, blk⟩)]) (w.alloc ob) q blk) :
    Mem A w0 (addN F q) (addG γ q w.heap.size 0) (updM m [(q, some ⟨true, blk⟩)]) rt (w.alloc ob) := by
  have ms := M.mnew hf (some ⟨true, blk⟩) ob
  have old : ∀ b e, updM m [(q, some ⟨true, blk⟩)] b = some e → b ≠ q → m b = some e := fun b e h hb => by rwa [updM_one, if_neg hb] at h
  have hq : ∀ e, updM m [(q, some ⟨true, blk⟩)] q = some e → e = ⟨true, blk⟩ := fun e h => by rw [updM_one, if_pos rfl] at h; exact (Option.some.inj h).symm
  have gq : ∀ {g base}, addG γ q w.heap.size 0 q = some (g, base) → g = w.heap.size ∧ base = 0 := fun hg => by
    simp only [addG, if_true, Option.some.injEq, Prod.mk.injEq] at hg; exact ⟨hg.1.symm, hg.2.symm⟩
  have go : ∀ {b}, b ≠ q → addG γ q w.heap.size 0 b = γ b := fun hb => by simp only [addG, if_neg hb]
  have hlt : ∀ b e g base, b ≠ q → updM m [(q, some ⟨true, blk⟩)] b = some e → addG γ q w.heap.size 0 b = some (g, base) → g < w.heap.size := fun b e g base hb he hg => M.bnd b e g base (old b e he hb) (go hb ▸ hg)
  refine ⟨M.below.alloc M.below.size _, fun b e h => ?_, fun b e g base h ho hg => ?_, fun b e g base h ho hg => ?_, fun b e g base h ho hg => ?_, fun b e g base h hg => ?_, fun b o kk vk es g base h hg => ?_, fun g hg => ?_, fun b hb => .inl (M.rts b hb)⟩
  · by_cases hb : b = q
    · subst hb
      obtain rfl := hq e h
      exact ⟨.inr rfl, hB⟩
    · obtain ⟨h1, h2⟩ := M.memr b e (old b e h hb)
      exact ⟨.inl h1, h2.step ms (go hb) fun g base hg => Below.heap_alloc w _ g (M.bnd b e g base (old b e h hb) hg)⟩
  · by_cases hb : b = q
    · subst hb
      obtain ⟨rfl, rfl⟩ := gq hg
      refine ⟨.inl M.below.size, fun b' e' g' base' hne h' hg' e => ?_⟩
      have := hlt b' e' g' base' hne h' hg'
      omega
    · obtain ⟨h1, h2⟩ := M.own b e g base (old b e h hb) ho (go hb ▸ hg)
      refine ⟨h1, fun b' e' g' base' hne h' hg' => ?_⟩
      by_cases hb' : b' = q
      · subst hb'
        obtain ⟨rfl, rfl⟩ := gq hg'
        have := hlt b e g base hb h hg
        omega
      · exact h2 b' e' g' base' hne (old b' e' h' hb') (go hb' ▸ hg')
  · by_cases hb : b = q
    · subst hb
      obtain ⟨rfl, rfl⟩ := gq hg
      intro cs t hx
      rw [heap_alloc_new] at hx
      exact hob cs t (Option.some.inj hx)
    · exact (M.nofr b e g base (old b e h hb) ho (go hb ▸ hg)).of (Below.heap_alloc w _ g (hlt b e g base hb h hg))
  · by_cases hb : b = q
    · subst hb
      obtain rfl := hq e h
      cases ho
    · exact M.shr b e g base (old b e h hb) ho (go hb ▸ hg)
  · by_cases hb : b = q
    · subst hb
      obtain ⟨rfl, rfl⟩ := gq hg
      show w.heap.size < (w.heap.push ob).size
      simp
    · have := hlt b e g base hb h hg
      show g < (w.heap.push ob).size
      simp; omega
  · by_cases hb : b = q
    · subst hb
      obtain ⟨rfl, rfl⟩ := gq hg
      have := hq _ h
      simp only [Ent.mk.injEq] at this
      obtain ⟨ents, clock, h1, h2⟩ := hmap kk vk es this.2.symm
      exact ⟨ents, clock, by rw [heap_alloc_new, h1], h2⟩
    · obtain ⟨ents, clock, h1, h2⟩ := M.maps b o kk vk es g base (old b _ h hb) (go hb ▸ hg)
      exact ⟨ents, clock, (Below.heap_alloc w _ g (hlt b _ g base hb h hg)).trans h1, h2⟩
  · obtain ⟨h1, h2, h3⟩ := M.zok g hg
    refine ⟨by show g < (w.heap.push ob).size; simp; omega, h2, fun b e base he ho hgb => ?_⟩
    by_cases hb : b = q
    · subst hb
      obtain ⟨rfl, _⟩ := gq hgb
      omega
    · exact h3 b e base (old b e he hb) ho (go hb ▸ hgb)
theorem hob0 {cs : Array Value} {t : TypeId} : ∀ (cs' : Array Value) (t' : TF), (Obj.cells cs t : Obj) = .cells cs' t'.1 t'.2 → t'.2.1 = t'.2.2 ∨ cs'.size ≤ t'.2.1 := fun cs' t' h => by
  simp only [Obj.cells.injEq] at h
  rw [← h.2.2]
  simp
theorem Rel.new (R : Rel A w0 F γ s a w) {q : Nat} (hf : ∀ b, F b → b ≠ q) {blk : Blk} (hnm : ∀ kk vk es, blk ≠ .map kk vk es) {cs : Array Value} {t : TypeId} {v : SV} {V : Value} (dst : Option Tmp)
    (hB : RelB (addN F q) (addG γ q w.heap.size 0) (updM s.mem [(q, some ⟨true, blk⟩)]) (w.alloc (.cells cs t)) q blk)
    (hV : RelV (addN F q) (addG γ q w.heap.size 0) (updM s.mem [(q, some ⟨true, blk⟩)]) (w.alloc (.cells cs t)) v V) :
    Rel A w0 (addN F q) (addG γ q w.heap.size 0) (s.app dst ⟨v, [(q, some ⟨true, blk⟩)]⟩) (a.put dst V) (w.alloc (.cells cs t)) :=
  R.put (o := ⟨v, [(q, some ⟨true, blk⟩)]⟩) (R.mnew hf _ _) hV (R.toMem.new hf hob0 (fun kk vk es h => absurd h (hnm kk vk es)) hB)
theorem addN_bd {nid : Nat} : ∀ b, addN F nid b → F b ∨ (nid ≤ b ∧ b < nid + 64) := fun b h => h.elim .inl fun e => .inr (by omega)
theorem addN_ext {nid : Nat} (hf : ∀ b, F b → b ≠ nid) (g base : Nat) : Ext F γ (addN F nid) (addG γ nid g base) := ⟨fun b h => .inl h, fun b h => by simp [addG, hf b h]⟩
/-- A new variable of known cells. -/
theorem Sim.newCells (R : Rel A w0 F γ s a w) {nid : Nat} (hf : ∀ q, nid ≤ q → q < nid + 64 → ¬ F q) {o : Oper} {out : Out} {l : List CV} {cs : Array Value} {t : TypeId}
    (h : (execOp a.eval o).run P w = .ok (.value (.pointer (some ⟨w.heap.size, 0, none⟩))) (w.alloc (.cells cs t))) (hl : All2 (RelC F γ s.mem w) l cs.toList) (ho : (exNew nid l).den = some out) : Sim P A w0 F γ nid s o out a w := by
  simp [exNew, T.den] at ho
  subst ho
  have hne : ∀ b, F b → b ≠ nid := fun b hb e => hf nid (Nat.le_refl _) (by omega) (e ▸ hb)
  have ms := R.mnew hne (some ⟨true, .cells l⟩) (.cells cs t)
  refine Sim.value h (R.new hne (fun _ _ _ h => by cases h) o.dst (fun i j c hc => ?_) ?_) addN_bd (addN_ext hne _ _)
  · simp only [Blk.at] at hc
    split at hc
    · rename_i hi; subst hi
      obtain ⟨V, h1, h2⟩ := hl.get j c hc
      exact ⟨w.heap.size, 0, cs, (t, (0, 0)), V, by simp [addG], heap_alloc_new w _, by simpa [Blk.n] using h1, h2.step ms⟩
    · cases hc
  · refine ⟨.inr rfl, ⟨w.heap.size, 0, by simp [addG], by simp⟩, fun e he => ?_⟩
    rw [updM_one, if_pos rfl] at he
    obtain rfl := Option.some.inj he
    exact ⟨rfl, rfl⟩
/-- A new variable that is told by its data. -/
theorem Sim.newM (R : Rel A w0 F γ s a w) {nid : Nat} (hf : ∀ q, nid ≤ q → q < nid + 64 → ¬ F q) {o : Oper} {out : Out} {l : List Sh} {ds : List D} {cs : Array Value} {t : TypeId}
    (h : (execOp a.eval o).run P w = .ok (.value (.pointer (some ⟨w.heap.size, 0, none⟩))) (w.alloc (.cells cs t))) (hl : DeepR F.z w l ds fun j => cs[j]?) (ho : (exNewM nid l ds).den = some out) : Sim P A w0 F γ nid s o out a w := by
  simp [exNewM, T.den] at ho
  subst ho
  have hne : ∀ b, F b → b ≠ nid := fun b hb e => hf nid (Nat.le_refl _) (by omega) (e ▸ hb)
  have ms := R.mnew hne (some ⟨true, .mem l ds⟩) (.cells cs t)
  refine Sim.value h (R.new hne (fun _ _ _ h => by cases h) o.dst (fun i j c hc => ?_) ?_) addN_bd (addN_ext hne _ _)
  · simp only [Blk.at] at hc
    split at hc
    · rename_i hi; subst hi
      rw [dtsL_get] at hc
      cases hlj : l[j]? with
      | none => rw [hlj] at hc; cases hc
      | some sh =>
        rw [hlj] at hc
        simp only [Option.map_some, Option.some.injEq, Nat.zero_add] at hc
        subst hc
        obtain ⟨V, h1, h2⟩ := hl j sh hlj
        exact ⟨w.heap.size, 0, cs, (t, (0, 0)), V, by simp [addG], heap_alloc_new w _, by simpa [Blk.n] using h1, h2.step ms.zle ms.zsame⟩
    · cases hc
  · refine ⟨.inr rfl, ⟨w.heap.size, 0, by simp [addG], by simp⟩, fun e he => ?_⟩
    rw [updM_one, if_pos rfl] at he
    obtain rfl := Option.some.inj he
    exact ⟨l, rfl, fun k _ => by rw [Nat.zero_add]⟩
theorem valD_deep {z : Nat → Prop} {h : Sh} {v : Value} {d : D} (hd : valD h v = some d) : Deep z w h d v := by
  unfold valD at hd
  split at hd
  · split at hd
    · rename_i e; subst e; obtain rfl := Option.some.inj hd; exact .int _ _
    · cases hd
  · obtain rfl := Option.some.inj hd; exact .bool _
  · obtain rfl := Option.some.inj hd; exact .str _
  · obtain rfl := Option.some.inj hd; exact .nil _ _ _
  · cases hd
theorem valsD_deep {z : Nat → Prop} : ∀ {l : List Sh} {vs : List Value} {ds : List D}, valsD l vs = some ds → DeepR z w l ds fun j => vs[j]?
  | [], [], ds, h => fun j sh hj => by simp at hj
  | h :: l, v :: vs, ds, hd => by
    simp only [valsD] at hd
    split at hd
    · rename_i d h1
      split at hd
      · rename_i r h2
        obtain rfl := Option.some.inj hd
        intro j sh hj
        cases j with
        | zero => simp at hj; subst hj; exact ⟨v, rfl, valD_deep h1⟩
        | succ j =>
          obtain ⟨V, k1, k2⟩ := valsD_deep h2 j sh (by simpa using hj)
          exact ⟨V, by simpa using k1, k2⟩
      · cases hd
    · cases hd
  | [], _ :: _, ds, h => by simp [valsD] at h
  | _ :: _, [], ds, h => by simp [valsD] at h
theorem intsOf_rep {k : IntKind} : ∀ (n : Nat) (l : List CV) (xs : List Int), intsOf (rep n k) l = some xs → l = xs.map (fun x => .val (.int k x)) ∧ xs.length = n
  | 0, [], xs, h => by simp only [rep, intsOf, Option.some.injEq] at h; subst h; exact ⟨rfl, rfl⟩
  | 0, _ :: _, xs, h => by simp [rep, intsOf] at h
  | n + 1, [], xs, h => by simp [rep, intsOf] at h
  | n + 1, c :: l, xs, h => by
    cases c with
    | val v =>
      cases v with
      | int k' x =>
        simp only [rep, intsOf] at h
        split at h
        · rename_i e; subst e
          split at h
          · rename_i r hr
            obtain rfl := Option.some.inj h
            obtain ⟨h1, h2⟩ := intsOf_rep n l r hr
            exact ⟨by simp [h1], by simp [h2]⟩
          · cases h
        · cases h
      | _ => simp [rep, intsOf] at h
    | _ => simp [rep, intsOf] at h
/-- A new variable: cells, or an array of numbers. -/
theorem Sim.newV (R : Rel A w0 F γ s a w) {nid : Nat} (hf : ∀ q, nid ≤ q → q < nid + 64 → ¬ F q) {o : Oper} {out : Out} {l : List CV} {cs : Array Value} {t t' : TypeId}
    (h : (execOp a.eval o).run P w = .ok (.value (.pointer (some ⟨w.heap.size, 0, none⟩))) (w.alloc (.cells cs t))) (hl : All2 (RelC F γ s.mem w) l cs.toList) (ho : (exNewV P nid t' l).den = some out) : Sim P A w0 F γ nid s o out a w := by
  unfold exNewV at ho
  split at ho
  · rename_i k hk
    split at ho
    · rename_i x xs hx
      simp only [T.den, Option.some.injEq] at ho
      subst ho
      obtain ⟨rfl, hlen⟩ := intsOf_rep _ _ _ hx
      have hne : ∀ b, F b → b ≠ nid := fun b hb e => hf nid (Nat.le_refl _) (by omega) (e ▸ hb)
      have ms := R.mnew hne (some ⟨true, .row k (x :: xs)⟩) (.cells cs t)
      refine Sim.value h (R.new hne (fun _ _ _ h => by cases h) o.dst (fun i j c hc => ?_) ?_) addN_bd (addN_ext hne _ _)
      · simp only [Blk.at] at hc
        split at hc
        · rename_i hi
          obtain ⟨rfl, hi⟩ := hi
          obtain rfl := Option.some.inj hc
          obtain ⟨V, h1, h2⟩ := hl.get i (.val (.int k (nth 0 (x :: xs) i))) (by rw [List.getElem?_map, nth_eq, List.getD_eq_getElem?_getD, List.getElem?_eq_getElem hi]; rfl)
          exact ⟨w.heap.size, 0, cs, (t, (0, 0)), V, by simp [addG], heap_alloc_new w _, by simpa [Blk.n] using h1, h2.step ms⟩
        · cases hc
      · refine ⟨.inr rfl, ⟨w.heap.size, 0, by simp [addG], by simp⟩, fun e he => ?_⟩
        rw [updM_one, if_pos rfl] at he
        obtain rfl := Option.some.inj he
        exact ⟨rfl, by simp⟩
    · exact (den_fail ho).elim
  · exact Sim.newCells R hf h hl ho
theorem ok_alloc (R : Rel A w0 F γ s a w) {nid : Nat} (hf : ∀ q, nid ≤ q → q < nid + 64 → ¬ F q) {o : Oper} {out : Out} {t : TypeId} (ho : o.op = .alloc t) (h : (exAlloc P nid t).den = some out) : Sim P A w0 F γ nid s o out a w := by
  unfold exAlloc at h
  split at h
  · rename_i i hi
    split at h
    · rename_i z hz
      have hrun : (execOp a.eval o).run P w = .ok (.value (.pointer (some ⟨w.heap.size, 0, none⟩))) (w.alloc (.cells z.cells t)) := by
        simp [execOp, ho, Instr.alloc, zeroValue, sInfo hi, hz, newVar, newRow]
      split at h
      · exact Sim.newV R hf hrun (all2_val _ _ _ _ z.cells.toList) h
      · split at h
        · split at h
          · rename_i ds hds
            exact Sim.newM R hf hrun (by have := valsD_deep (z := F.z) (w := w) hds; simpa using this) h
          · exact (den_fail h).elim
        · exact (den_fail h).elim
    · exact (den_fail h).elim
  · exact (den_fail h).elim
end
end Go.Proofs.Ytmmaechogibodaa.Vm
