/- Code with a choice that the data do not tell (is an empty slice nil?): what comes behind is told for both answers. Conditions: the program follows the model's mixed orders. -/
import Derived.Test.YtmmaechogibodaaVmX
set_option linter.unusedVariables false
set_option linter.unusedSimpArgs false
namespace Go.Proofs.Ytmmaechogibodaa.Vm
open Go Go.RowKit

/-- The common answer. -/
noncomputable def ambO {α : Type} (f : Bool → Option α) : Option α := open Classical in if f true = f false then f true else none
theorem ambO_some {α : Type} {f : Bool → Option α} {r : α} (h : ambO f = some r) : ∀ b, f b = some r := by
  unfold ambO at h
  split at h
  · rename_i e
    intro b
    cases b
    · rw [← e]; exact h
    · exact h
  · cases h
theorem ambO_same {α : Type} {f : Bool → Option α} {r : Option α} (h : ∀ b, f b = r) : ambO f = r := by
  unfold ambO
  rw [if_pos (by rw [h, h]), h]
noncomputable def T.amb {α : Type} (f : Bool → T α) : T α := .opn (ambO fun b => (f b).den2)
theorem den_amb {α : Type} {f : Bool → T α} {r : α} (h : (T.amb f).den = some r) (b : Bool) : (f b).den = some r := by
  rw [← den2_eq]
  exact ambO_some h b
/-- How long a slice is, by what is known of it. -/
def lenQ (m : Nat → Option Ent) (c : CV) : Option Nat := match c with
  | .ro _ x => some x.length
  | .dt (.sl _) (.l x) => some x.length
  | .slf b => match m b with | some e => some e.blk.len | none => none
  | _ => none
/-- Is a slice compared with nil? Whether by !=, and its length. -/
def nilOp (P : Program) (o : Oper) (s : St) : Option (Bool × Nat) := match o.op, o.guard with
  | .binOp .neq t x (.const (.slice none 0 0)) _, none => match P.underlying t, s.ev x with
    | some (.slice _), .pv (.one c) => match lenQ s.mem c with | some n => some (true, n) | none => none
    | _, _ => none
  | .binOp .eql t x (.const (.slice none 0 0)) _, none => match P.underlying t, s.ev x with
    | some (.slice _), .pv (.one c) => match lenQ s.mem c with | some n => some (false, n) | none => none
    | _, _ => none
  | _, _ => none
def pre (n i : Nat) : Array Bool := ((List.range n).map fun j => decide (j < i)).toArray
/-- Where a slice is compared with nil, in a region. -/
def isNilOp (o : Oper) : Bool := match o.op, o.guard with
  | .binOp .neq _ _ (.const (.slice none 0 0)) _, none => true
  | .binOp .eql _ _ (.const (.slice none 0 0)) _, none => true
  | _, _ => false
def nilAt : List Oper → Nat → Option Nat
  | [], _ => none
  | o :: l, i => match isNilOp o with | true => some i | false => nilAt l (i + 1)
/-- All that stands ahead of h must come first, all that stands behind it must wait for it. -/
def cutOk (ops : List Oper) (h : Nat) : Bool :=
  (List.range (len ops)).all (fun i => decide (i ≤ h) || (match nth? ops i with | some o => o.after.toList.any fun e => binding e && decide (h ≤ e.on) | none => false)) &&
  (List.range h).all (fun j => (List.range (h + 1)).any fun k => decide (j < k) && (match nth? ops k with | some o => bound o j | none => false)) && edgesOk ops 0
def boolOut (b : Bool) : Out := ⟨.pv (.one (.val (.bool b))), []⟩
noncomputable def runLXK (P : Program) (env : FuncId → Option Spec) (ops : List Oper) (nx : Nat) {β : Type} : List Oper → Nat → St → (Ex × St → T β) → T β
  | [], i, s, k => k (.normal, { s with nx := nx + 64 * i })
  | o :: l, i, s, k => match nilOp P o s with
    | some (neg, n) => .ite (decide (0 < n)) (runLXK P env ops nx l (i + 1) (s.app o.dst (boolOut neg)) k) (T.amb fun b => runLXK P env ops nx l (i + 1) (s.app o.dst (boolOut b)) k)
    | none => match panOp o s with
      | some (t, n) => k (.pan t n, { s with nx := nx + 64 * i })
      | none => match panCall env o s with
        | some (sp, args) => (exCallP sp args s.mem (nx + 64 * i)).bind fun x => match x with
          | .inl out => runLXK P env ops nx l (i + 1) (s.app o.dst out) k
          | .inr (t, n, upd) => k (.pan t n, { s with mem := updM s.mem upd, nx := nx + 64 * i })
        | none => (step1 P env ops (nx + 64 * i) o s).bind fun s1 => runLXK P env ops nx l (i + 1) s1 k
def seqK {β : Type} (f : St → T β) (k : Ex × St → T β) : Ex × St → T β
  | (.normal, s) => f s
  | (e, s) => k (e, s)
def blkK {β : Type} (id : Nat) (k : Ex × St → T β) : Ex × St → T β
  | (.exit i, s) => match i == id with | true => k (.normal, s) | false => k (.exit i, s)
  | (e, s) => k (e, s)
/-- Some of a region's operations, in whatever order. -/
def runSeg (P : Program) (env : FuncId → Option Spec) (ops : List Oper) (nx : Nat) (os : List Oper) (lo : Nat) (s : St) : T St :=
  (runD P env ops nx os lo s).bind fun (ds, s') => match freeAll ops os ds lo with
    | true => .ret s'
    | false => .fail
noncomputable def runRegK (P : Program) (env : FuncId → Option Spec) (ops : Array Oper) (d : Bool) {β : Type} (s : St) (k : Ex × St → T β) : T β := match d with
  | false => runLXK P env ops.toList s.nx ops.toList 0 s k
  | true => match nilAt ops.toList 0 with
    | none => (runDraw P env ops.toList s).bind fun s' => k (.normal, s')
    | some c => match cutOk ops.toList c, nth? ops.toList c with
      | true, some o => (runSeg P env ops.toList s.nx (ops.toList.take c) 0 s).bind fun s1 => match nilOp P o s1 with
        | some (neg, n) => .ite (decide (0 < n)) ((runSeg P env ops.toList s.nx (ops.toList.drop (c + 1)) (c + 1) (s1.app o.dst (boolOut neg))).bind fun s2 => k (.normal, { s2 with nx := s.nx + 64 * len ops.toList }))
          (T.amb fun b => (runSeg P env ops.toList s.nx (ops.toList.drop (c + 1)) (c + 1) (s1.app o.dst (boolOut b))).bind fun s2 => k (.normal, { s2 with nx := s.nx + 64 * len ops.toList }))
        | none => .fail
      | _, _ => .fail
noncomputable def runCK (P : Program) (env : FuncId → Option Spec) (lenv : Nat → Option LS) {β : Type} : Code → St → (Ex × St → T β) → T β
  | .skip, s, k => k (.normal, s)
  | .ret, s, k => k (.ret, s)
  | .exit id, s, k => k (.exit id, s)
  | .seq a b, s, k => runCK P env lenv a s (seqK (fun s' => runCK P env lenv b s' k) k)
  | .cond c a b, s, k => match c with
    | .tmp t => match nth undefS s.tmps t with
      | .pv (.one (.val (.bool x))) => .ite x (runCK P env lenv a (s.lit t true) k) (runCK P env lenv b (s.lit t false) k)
      | _ => .fail
    | .const (.bool x) => .ite x (runCK P env lenv a s k) (runCK P env lenv b s k)
    | _ => .fail
  | .block id c, s, k => runCK P env lenv c s (blkK id k)
  | .region id ops d, s, k => runRegK P env ops d s k
  | .loop c, s, k => (runC P env lenv (.loop c) s).bind k
  | _, _, _ => .fail

section
variable {P : Program} {A : Ctx} {w0 : World} {F : NS} {γ : GM} {s : St} {a : Act} {w : World}
theorem lenQ_rel {m : MM} {c : CV} {n : Nat} (h : lenQ m c = some n) {V : Value} (hV : RelC F γ m w c V) : ∃ ad cap, V = .slice ad n cap ∧ (0 < n → ad.isNone = false) := by
  have deep : ∀ (l : List Sh) (x : List (List D)) (V : Value), Deep F.z w (.sl l) (.l x) V → ∃ ad cap, V = .slice ad x.length cap ∧ (0 < x.length → ad.isNone = false) := fun l x V hd => by
    cases hd with
    | nil _ ad c => exact ⟨ad, c, rfl, fun h => by simp at h⟩
    | sl _ _ g base cap cs t _ _ _ _ _ => exact ⟨_, _, rfl, fun _ => rfl⟩
  unfold lenQ at h
  split at h
  · obtain rfl := Option.some.inj h
    exact deep _ _ _ hV
  · obtain rfl := Option.some.inj h
    exact deep _ _ _ hV
  · split at h
    · rename_i e he
      obtain rfl := Option.some.inj h
      obtain ⟨_, _, h3⟩ := hV
      rcases h3 e he with ⟨z, ad, rfl⟩ | ⟨g, b, c, _, rfl, _⟩
      · exact ⟨ad, 0, by rw [z], fun h => by omega⟩
      · exact ⟨_, c, rfl, fun _ => rfl⟩
    · cases h
  · cases h
theorem nil_run {t e : TypeId} (hu : P.underlying t = some (.slice e)) (ad : Option Addr) (n cap : Nat) : (Op.equal t (.slice ad n cap) (.slice none 0 0)).run P w = .ok ad.isNone w := by
  have e0 : Op.equal t (.slice ad n cap) (.slice none 0 0) = Op.equalIn (9999 + 1) t (.slice ad n cap) (.slice none 0 0) := rfl
  rw [e0]
  unfold Op.equalIn
  rw [Sem.run_bind, run_underlying hu]
  cases ad <;> rfl
/-- The comparison, and the truth that the world gives. -/
theorem nilOp_ok (R : Rel A w0 F γ s a w) {nid : Nat} {o : Oper} {neg : Bool} {n : Nat} (h : nilOp P o s = some (neg, n)) : o.guard = none ∧ ∃ b : Bool, (0 < n → b = neg) ∧ Sim P A w0 F γ nid s o (boolOut b) a w := by
  have go : ∀ (op : BinOp) (t yt e : TypeId) (x : Operand) (c : CV), o.op = .binOp op t x (.const (.slice none 0 0)) yt → (op = .neq ∧ neg = true ∨ op = .eql ∧ neg = false) → P.underlying t = some (.slice e) → s.ev x = .pv (.one c) → lenQ s.mem c = some n → ∃ b : Bool, (0 < n → b = neg) ∧ Sim P A w0 F γ nid s o (boolOut b) a w := fun op t yt e x c ho hop hu hx hq => by
    have hX := R.ev x
    rw [hx] at hX
    obtain ⟨ad, cap, hv, hn⟩ := lenQ_rel hq hX
    have hr := nil_run (P := P) (w := w) hu ad n cap
    have hgd : (eqGuard op t x (.const (.slice none 0 0)) (.slice ad n cap) (.slice none 0 0)).run P w = .ok () w := by
      unfold eqGuard
      cases op <;> rfl
    have hy : a.eval (.const (.slice none 0 0)) = .slice none 0 0 := rfl
    rcases hop with ⟨rfl, rfl⟩ | ⟨rfl, rfl⟩
    · have e2 : binOp .neq t (.slice ad n cap) (.slice none 0 0) = (do pure (.bool (!(← Op.equal t (.slice ad n cap) (.slice none 0 0))))) := rfl
      refine ⟨!ad.isNone, fun h => by rw [hn h]; rfl, Sim.look R (V := .bool (!ad.isNone)) ?_ rfl⟩
      simp only [execOp, ho, hv, hy, e2, Sem.run_bind, hgd, hr, Result.andThen_ok, Sem.run_pure]; first | done | rfl
    · have e1 : binOp .eql t (.slice ad n cap) (.slice none 0 0) = (do pure (.bool (← Op.equal t (.slice ad n cap) (.slice none 0 0)))) := rfl
      refine ⟨ad.isNone, fun h => hn h, Sim.look R (V := .bool ad.isNone) ?_ rfl⟩
      simp only [execOp, ho, hv, hy, e1, Sem.run_bind, hgd, hr, Result.andThen_ok, Sem.run_pure]; first | done | rfl
  unfold nilOp at h
  split at h
  · rename_i t x yt ho hg
    refine ⟨hg, ?_⟩
    split at h
    · rename_i e c hu hx
      split at h
      · rename_i n' hq
        simp only [Option.some.injEq, Prod.mk.injEq] at h
        obtain ⟨rfl, rfl⟩ := h
        exact go _ _ _ _ _ _ ho (.inl ⟨rfl, rfl⟩) hu hx hq
      · cases h
    · cases h
  · rename_i t x yt ho hg
    refine ⟨hg, ?_⟩
    split at h
    · rename_i e c hu hx
      split at h
      · rename_i n' hq
        simp only [Option.some.injEq, Prod.mk.injEq] at h
        obtain ⟨rfl, rfl⟩ := h
        exact go _ _ _ _ _ _ ho (.inr ⟨rfl, rfl⟩) hu hx hq
      · cases h
    · cases h
  · cases h
theorem runLXK_gen {env : FuncId → Option Spec} (hE : EnvOk P env) {ops : Array Oper} {nx : Nat} {Q : Exit → Act → World → Prop} {W : Nat → List Oper → Act → World → Prop} (hnil : ∀ i a w, Q .normal a w → W i [] a w) (hpan : ∀ i o l a w, o ∈ ops.toList → (∀ K, (∀ a w, W (i + 1) l a w → K a w) → Step P ops o a w K Q) → W i (o :: l) a w) {β : Type} {k : Ex × St → T β} {r : β} {F0 : NS} {γ0 : GM} {rt0 : List Nat}
    (hQ : ∀ ex s' a' w' F' γ', (k (ex, s')).den = some r → s'.rt = rt0 → Rel A w0 F' γ' s' a' w' → (∀ b, F' b → b < s'.nx) → Ext F0 γ0 F' γ' → Q ex.to a' w') :
    ∀ (l : List Oper) (i : Nat) (s : St) (a : Act) (w : World) (F : NS) (γ : GM), Rel A w0 F γ s a w → s.rt = rt0 → (∀ b, F b → b < nx + 64 * i) → Ext F0 γ0 F γ → (runLXK P env ops.toList nx l i s k).den = some r → (∀ o ∈ l, o ∈ ops.toList) → W i l a w
  | [], i, s, a, w, F, γ, R, hrt, hF, hx, h, hm => hnil i a w (hQ .normal _ a w F γ h hrt (R.nx _) hF hx)
  | o :: l, i, s, a, w, F, γ, R, hrt, hF, hx, h, hm => by
    have hml : ∀ o ∈ l, o ∈ ops.toList := fun x hx => hm x (by simp [hx])
    have hfree : ∀ q, nx + 64 * i ≤ q → q < nx + 64 * i + 64 → ¬ F q := fun q h1 h2 hb => by have := hF q hb; omega
    have more : ∀ {F' : NS}, (∀ b, F' b → F b ∨ (nx + 64 * i ≤ b ∧ b < nx + 64 * i + 64)) → ∀ b, F' b → b < nx + 64 * (i + 1) := fun hF' b hb => by
      rcases hF' b hb with h | h
      · have := hF b h; omega
      · omega
    refine hpan i o l a w (hm o (by simp)) fun K hK => ?_
    simp only [runLXK] at h
    split at h
    · rename_i neg n hn
      obtain ⟨hg, b, hb, hsim⟩ := nilOp_ok R (nid := nx + 64 * i) hn
      have h2 : (runLXK P env ops.toList nx l (i + 1) (s.app o.dst (boolOut b)) k).den = some r := by
        simp only [T.den] at h
        split at h
        · rename_i h0
          rw [hb (by simpa using h0)]; exact h
        · exact den_amb h b
      unfold Step
      rw [if_pos (by simp [Region.wanted, hg])]
      exact hsim K Q fun V w' F' γ' R' hF' hx' => hK _ _ (runLXK_gen hE hnil hpan hQ l (i + 1) _ _ w' F' γ' R' hrt (more hF') (hx.trans hx') h2 hml)
    · split at h
      · rename_i t n hp
        obtain ⟨x, hg, ho, hxv⟩ := panOp_spec hp
        have hv : a.eval x = .iface t (.int .i64 n) := by have := R.ev x; rw [hxv] at this; exact this
        unfold Step
        rw [if_pos (by simp [Region.wanted, hg])]
        unfold Oper.wp
        have hexec : (execOp a.eval o).run P w = .halt (.panic (.iface t (.int .i64 n))) w := by
          simp only [execOp, ho, hv]
          rfl
        rw [hexec, Oper.upon_panic]
        exact hQ (.pan t n) _ a w F γ h hrt (R.nx _) hF hx
      · split at h
        · rename_i sp l0 hpc
          obtain ⟨x, args, ats, f, hg, ho, hxv, hf6, hsp, rfl⟩ := panCall_spec hpc
          have hv : a.eval x = .func (.func f) #[] #[] := by have := R.ev x; rw [hxv] at this; exact this
          unfold Step
          rw [if_pos (by simp [Region.wanted, hg])]
          rw [T.den_bind] at h
          cases hz : (exCallP sp (args.toList.map s.ev) s.mem (nx + 64 * i)).den with
          | none => rw [hz] at h; cases h
          | some z =>
          rw [hz] at h
          simp only [Option.bind_some] at h
          obtain ⟨ps, us, as, r', ok, t, n, vs0, hps, hrd, hok, hrok, hG, henc, hcase⟩ := exCallP_den hz
          have hE2 := (hE (f + 2000000) sp hsp).2 (Nat.le_add_left _ _)
          rw [pkey_mod f hf6] at hE2
          obtain ⟨hcal, hPF⟩ := hE2
          obtain ⟨hP1, hP2⟩ := hPF us r' hG ok t n vs0 henc
          rcases hcase with ⟨hokt, vs, es, ru, hmk, hes, hru, rfl⟩ | ⟨hokf, rfl⟩
          · simp only at h
            refine call_core R hfree ho hv hps hrd hok hrok hmk hes hru (.inl ⟨hcal, hP1 hokt⟩) K Q fun V w' F' γ' R' hF' hx' => hK _ _ ?_
            exact runLXK_gen hE hnil hpan hQ l (i + 1) _ _ w' F' γ' R' hrt (more hF') (hx.trans hx') h hml
          · simp only at h
            refine call_pan R ho hv hps hrd hok hrok ⟨hcal, hP2 hokf⟩ fun w' F' hF' R' => ?_
            exact hQ (.pan _ _) _ a w' F' γ h hrt (R'.nx _) (fun b hb => hF b ((hF' b).1 hb)) (hx.trans ⟨fun b hb => (hF' b).2 hb, fun _ _ => rfl⟩)
        · rw [T.den_bind] at h
          cases hx1 : (step1 P env ops.toList (nx + 64 * i) o s).den with
          | none => rw [hx1] at h; cases h
          | some s1 =>
            rw [hx1] at h
            simp only [Option.bind_some] at h
            refine step_ok hE R hfree hx1 (fun a' w' F' γ' R' hF' hx' => hK a' w' ?_)
            exact runLXK_gen hE hnil hpan hQ l (i + 1) s1 a' w' F' γ' R' ((step1_rt hx1).trans hrt) (more hF') (hx.trans hx') h hml
theorem pre_get (n i j : Nat) (b : Bool) : (pre n i).getD j b = if j < n then decide (j < i) else b := by
  unfold pre
  by_cases h : j < n
  · simp [Array.getD, h]
  · simp [Array.getD, h]
theorem pre_size (n i : Nat) : (pre n i).size = n := by simp [pre]
theorem pre_set (n i : Nat) : (pre n i).setIfInBounds i true = pre n (i + 1) := by
  apply Array.ext
  · simp [pre]
  · intro j h1 h2
    simp [pre] at h1 h2
    simp only [pre, Array.getElem_setIfInBounds, List.getElem_toArray, List.getElem_map, List.getElem_range]
    by_cases c : i = j
    · simp [c]
    · simp [c]; omega
theorem eq_pre {l : Array Bool} {n i : Nat} (hs : l.size = n) (h : ∀ j, j < n → l.getD j false = decide (j < i)) : l = pre n i := by
  apply Array.ext
  · rw [hs, pre_size]
  · intro j h1 h2
    have := h j (by omega)
    have e : l.getD j false = l[j] := by simp [Array.getD, h1]
    rw [e] at this
    rw [this]
    simp [pre]
theorem wpAny_full {ops : Array Oper} {Q : Exit → Act → World → Prop} (h : Q .normal a w) : ∀ fuel, wpAny P .any ops Q fuel (pre ops.size ops.size) a w := by
  have hr : Region.ready .any ops (pre ops.size ops.size) = [] := by
    cases hr : Region.ready .any ops (pre ops.size ops.size) with
    | nil => rfl
    | cons i rs =>
      have hi : i ∈ Region.ready .any ops (pre ops.size ops.size) := by rw [hr]; simp
      obtain ⟨h1, o, ho, _⟩ := mem_ready.1 hi
      have hlt := (Array.getElem?_eq_some_iff.1 ho).1
      rw [pre_get, if_pos hlt] at h1
      simp [hlt] at h1
  intro fuel
  cases fuel with
  | zero => exact ⟨hr, h⟩
  | succ f => exact ⟨fun _ => h, fun i hi => by rw [hr] at hi; cases hi⟩
theorem cutOk_spec {ops : List Oper} {h : Nat} (hc : cutOk ops h = true) : (∀ i o, h < i → ops[i]? = some o → ∃ e ∈ o.after, Region.binds .any e = true ∧ h ≤ e.on) ∧ (∀ j, j < h → ∃ k o, j < k ∧ k ≤ h ∧ ops[k]? = some o ∧ ∃ e ∈ o.after, Region.binds .any e = true ∧ e.on = j) ∧ edgesOk ops 0 = true := by
  unfold cutOk at hc
  simp only [Bool.and_eq_true] at hc
  obtain ⟨⟨h1, h2⟩, h3⟩ := hc
  refine ⟨fun i o hi ho => ?_, fun j hj => ?_, h3⟩
  · have hlt : i < ops.length := (List.getElem?_eq_some_iff.1 ho).1
    have := List.all_eq_true.1 h1 i (by simpa [len_eq] using hlt)
    rw [nth?_eq, ho] at this
    simp only [Bool.or_eq_true, decide_eq_true_eq] at this
    rcases this with h | h
    · omega
    · obtain ⟨e, he, hb⟩ := List.any_eq_true.1 h
      simp only [Bool.and_eq_true, decide_eq_true_eq] at hb
      exact ⟨e, by simpa using he, (binds_eq e).trans hb.1, hb.2⟩
  · have := List.all_eq_true.1 h2 j (by simpa using hj)
    obtain ⟨k, hk, hb⟩ := List.any_eq_true.1 this
    simp only [Bool.and_eq_true, decide_eq_true_eq] at hb
    obtain ⟨b1, b2⟩ := hb
    rw [nth?_eq] at b2
    split at b2
    · rename_i o ho
      exact ⟨k, o, b1, by simp at hk; omega, ho, bound_spec b2⟩
    · cases b2
theorem draw_seg {env : FuncId → Option Spec} (hE : EnvOk P env) {ops : Array Oper} {os : List Oper} {ds : List Did} {lo m nx : Nat} {s0 : St} {F0 : NS} {γ0 : GM} (hos : os = (ops.toList.drop lo).take m) (hm : lo + m ≤ ops.size) (hl : ds.length = os.length)
    (hcan : ∀ (j : Nat) (o : Oper) (d : Did), os[j]? = some o → ds[j]? = some d → (stepD1 P env ops.toList (nx + 64 * (lo + j)) o (curL os ds lo (fun k => decide (k < lo + j)) s0)).den = some (d, (curL os ds lo (fun k => decide (k < lo + j)) s0).app o.dst d.out))
    (hfree : freeAll ops.toList os ds lo = true) (hedge : edgesOk ops.toList 0 = true)
    (hcut : lo + m < ops.size → cutOk ops.toList (lo + m) = true) {Q : Exit → Act → World → Prop}
    (hQ : ∀ fuel a' w' F' γ', (List.range ops.size).countP (fun i => !(pre ops.size (lo + m)).getD i true) ≤ fuel → Rel A w0 F' γ' (curL os ds lo (fun _ => true) s0) a' w' → (∀ b, F' b → b < nx + 64 * (lo + m)) → Ext F0 γ0 F' γ' → wpAny P .any ops Q fuel (pre ops.size (lo + m)) a' w') :
    ∀ (fuel : Nat) (listed : Array Bool) (a : Act) (w : World) (F : NS) (γ : GM), listed.size = ops.size → (List.range ops.size).countP (fun i => !listed.getD i true) ≤ fuel →
      (∀ (j : Nat) (o : Oper), listed.getD j false = true → ops[j]? = some o → ∀ e ∈ o.after, Region.binds .any e = true → listed.getD e.on false = true) →
      (∀ j, j < lo → listed.getD j false = true) → (∀ j, lo + m ≤ j → listed.getD j false = false) →
      Rel A w0 F γ (curL os ds lo (fun i => listed.getD i false) s0) a w → (∀ b, F b → b < nx + 64 * lo ∨ ∃ i, listed.getD i false = true ∧ lo ≤ i ∧ nx + 64 * i ≤ b ∧ b < nx + 64 * i + 64) → Ext F0 γ0 F γ →
      wpAny P .any ops Q fuel listed a w := by
  have hlen : os.length = m := by rw [hos]; simp; omega
  have hat : ∀ k, k < m → os[k]? = ops[lo + k]? := fun k hk => by
    rw [hos, List.getElem?_take, if_pos hk, List.getElem?_drop]; simp
  have hgd : ∀ (listed : Array Bool) (j : Nat), listed.size = ops.size → j < ops.size → listed.getD j true = listed.getD j false := fun listed j h1 h2 => by simp [Array.getD, h1, h2]
  have nonready : ∀ (listed : Array Bool), listed.size = ops.size → Region.ready .any ops listed = [] → ∀ j, j < ops.size → listed.getD j false = true := by
    intro listed hs hr j hj
    cases hlj : listed.getD j false with
    | true => rfl
    | false =>
      obtain ⟨k, k1, k2, k3⟩ := least (fun i => !listed.getD i false) ops.size j hj (by simp [hlj])
      have hk : k ∈ Region.ready .any ops listed := by
        rw [mem_ready]
        refine ⟨by rw [hgd listed k hs k1]; simpa using k2, ops[k], by simp [k1], fun e he hb => ?_⟩
        have hlt := edgesOk_spec ops.toList 0 hedge k ops[k] (by simp [k1]) e (by simpa using he) ((binds_eq e).symm.trans hb)
        have := k3 e.on (by omega)
        simpa using this
      rw [hr] at hk; cases hk
  intro fuel
  induction fuel with
  | zero =>
    intro listed a w F γ hs hc hcl hlo hhi R hF hx
    have hall : ∀ j, j < ops.size → listed.getD j false = true := by
      intro j hj
      have h0 : (List.range ops.size).countP (fun i => !listed.getD i true) = 0 := by omega
      have := (List.countP_eq_zero.1 h0) j (List.mem_range.2 hj)
      rw [hgd listed j hs hj] at this
      simpa using this
    have he : lo + m = ops.size := by
      rcases Nat.lt_or_ge (lo + m) ops.size with h | h
      · have := hhi _ (Nat.le_refl _); rw [hall _ h] at this; cases this
      · omega
    obtain rfl : listed = pre ops.size (lo + m) := eq_pre hs fun j hj => by rw [hall j hj]; simp; omega
    rw [curL_ext os ds lo _ (fun _ => true) s0 fun j h1 hj => hall j (by omega)] at R
    refine hQ 0 a w F γ hc R (fun b hb => ?_) hx
    rcases hF b hb with h | ⟨i, h1, h2, h3, h4⟩
    · omega
    · have hi : i < ops.size := by
        rcases Nat.lt_or_ge i ops.size with h' | h'
        · omega
        · rw [pre_get, if_neg (by omega)] at h1; cases h1
      omega
  | succ fuel ih =>
    intro listed a w F γ hs hc hcl hlo hhi R hF hx
    by_cases hdone : ∀ j, j < lo + m → listed.getD j false = true
    · obtain rfl : listed = pre ops.size (lo + m) := eq_pre hs fun j hj => by
        by_cases hjm : j < lo + m
        · rw [hdone j hjm]; simp [hjm]
        · rw [hhi j (by omega)]; simp; omega
      rw [curL_ext os ds lo _ (fun _ => true) s0 fun j h1 hj => hdone j (by omega)] at R
      refine hQ _ a w F γ hc R (fun b hb => ?_) hx
      rcases hF b hb with h | ⟨i, h1, h2, h3, h4⟩
      · omega
      · have hi : i < lo + m := by
          rcases Nat.lt_or_ge i (lo + m) with h' | h'
          · omega
          · rw [hhi i h'] at h1; cases h1
        omega
    obtain ⟨j0, hj0⟩ := Classical.not_forall.1 hdone
    obtain ⟨hj0m, hj0l⟩ := Classical.not_imp.1 hj0
    have hj0l : listed.getD j0 false = false := by simpa using hj0l
    refine ⟨fun hr => absurd (nonready listed hs hr j0 (by omega)) (by rw [hj0l]; simp), fun i hi => ?_⟩
    obtain ⟨h1, o, ho, hall⟩ := mem_ready.1 hi
    have hlt := (Array.getElem?_eq_some_iff.1 ho).1
    have hli : listed.getD i false = false := by rw [← hgd listed i hs hlt]; exact h1
    have hilo : lo ≤ i := by
      rcases Nat.lt_or_ge i lo with h | h
      · rw [hlo i h] at hli; cases hli
      · exact h
    have hihi : i < lo + m := by
      rcases Nat.lt_or_ge i (lo + m) with h | h
      · exact h
      exfalso
      obtain ⟨c1, c2, _⟩ := cutOk_spec (hcut (by omega))
      rcases Nat.lt_or_eq_of_le h with h | h
      · obtain ⟨e, he, hb, hon⟩ := c1 i o h (by simpa using ho)
        have := hall e he hb
        rw [hhi e.on hon] at this; cases this
      · have down : ∀ d j, lo + m - j ≤ d → j < lo + m → listed.getD j false = true := by
          intro d
          induction d with
          | zero => intro j h1 h2; omega
          | succ d ihd =>
            intro j h1 h2
            obtain ⟨k, o', k1, k2, k3, e, he, hb, rfl⟩ := c2 j h2
            rcases Nat.lt_or_eq_of_le k2 with k2 | k2
            · exact hcl k o' (ihd k (by omega) k2) (by simpa using k3) e he hb
            · have : o' = o := by
                rw [k2, h] at k3
                have h2 : ops.toList[i]? = some o := by simpa using ho
                rw [h2] at k3; exact (Option.some.inj k3).symm
              subst this
              exact hall e he hb
        rw [down _ j0 (Nat.le_refl _) hj0m] at hj0l; cases hj0l
    obtain ⟨q, rfl⟩ : ∃ q, i = lo + q := ⟨i - lo, by omega⟩
    have hoL : os[q]? = some o := by rw [hat q (by omega)]; exact ho
    have hoA : ops.toList[lo + q]? = some o := by simpa using ho
    obtain ⟨d, hd⟩ : ∃ d, ds[q]? = some d := ⟨_, List.getElem?_eq_getElem (by omega)⟩
    have ofos : ∀ (j : Nat) (o' : Oper), os[j]? = some o' → ops[lo + j]? = some o' := fun j o' h => by
      have : j < os.length := (List.getElem?_eq_some_iff.1 h).1
      rw [← hat j (by omega)]; exact h
    -- who is listed behind i does not meet it
    have before : ∀ (j : Nat) (o' : Oper) (d' : Did), j < q → os[j]? = some o' → ds[j]? = some d' → listed.getD (lo + j) false = false → apart ops.toList o' o d' d = true := fun j o' d' hj h2 h3 h4 => by
      rcases freeAll_spec _ _ lo hfree j q o' d' o d hj h2 h3 hoL hd with hb | hb
      · exact hb
      · have := reach_listed (p := fun j => listed.getD j false) (fun j o h1 h2 => hcl j o h1 (by simpa using h2)) 8 o hall hb
        rw [h4] at this; cases this
    have behind : ∀ (j : Nat) (o' : Oper) (d' : Did), q < j → os[j]? = some o' → ds[j]? = some d' → listed.getD (lo + j) false = true → apart ops.toList o o' d d' = true := fun j o' d' hj h2 h3 h4 => by
      rcases freeAll_spec _ _ lo hfree q j o d o' d' hj hoL hd h2 h3 with hb | hb
      · exact hb
      · have := reach_listed (p := fun j => listed.getD j false) (fun j o h1 h2 => hcl j o h1 (by simpa using h2)) 8 o' (hcl (lo + j) o' h4 (ofos j o' h2)) hb
        rw [hli] at this; cases this
    have hdj : ∀ (j : Nat) (o' : Oper), os[j]? = some o' → ∃ d', ds[j]? = some d' := fun j o' h => ⟨_, List.getElem?_eq_getElem (by rw [hl]; exact (List.getElem?_eq_some_iff.1 h).1)⟩
    have hoj : ∀ (j : Nat) (d' : Did), ds[j]? = some d' → ∃ o', os[j]? = some o' := fun j d' h => ⟨_, List.getElem?_eq_getElem (by rw [← hl]; exact (List.getElem?_eq_some_iff.1 h).1)⟩
    have hstep := stepD_local (hcan q o d hoL hd) (s2 := curL os ds lo (fun i => listed.getD i false) s0)
      (fun t ht => curL_slot t os ds lo _ _ s0 s0 rfl rfl fun j o' ho' => by
        obtain ⟨d', hd'⟩ := hdj j o' ho'
        rcases Nat.lt_trichotomy j q with hj | hj | hj
        · cases hlj : listed.getD (lo + j) false with
          | true => left; simp [hj]
          | false => right; intro e; exact (apart_spec (before j o' d' hj ho' hd' hlj)).1 t e ht
        · left; subst hj; simp [hli]
        · cases hlj : listed.getD (lo + j) false with
          | false => left; simp; omega
          | true => right; intro e; exact (apart_spec (behind j o' d' hj ho' hd' hlj)).2.1 t e ht)
      (fun b hb => curL_mem b os ds lo _ _ s0 s0 rfl fun j d' hd' => by
        obtain ⟨o', ho'⟩ := hoj j d' hd'
        rcases Nat.lt_trichotomy j q with hj | hj | hj
        · cases hlj : listed.getD (lo + j) false with
          | true => left; simp [hj]
          | false => right; intro e; exact (apart_spec (before j o' d' hj ho' hd' hlj)).2.2.2.1 b e hb
        · left; subst hj; simp [hli]
        · cases hlj : listed.getD (lo + j) false with
          | false => left; simp; omega
          | true => right; intro e; exact (apart_spec (behind j o' d' hj ho' hd' hlj)).2.2.2.2.1 b e hb)
    refine wpOp_of_step ho (stepD_ok hE R (nid := nx + 64 * (lo + q)) (fun b h1 h2 hb => ?_) hstep fun a' w' F' γ' R' hF' hx' => ?_)
    · rcases hF b hb with h | ⟨k, hk, h3, h4, h5⟩
      · omega
      · have : k = lo + q := by omega
        subst this; rw [hli] at hk; cases hk
    · have hset : ∀ j, (listed.setIfInBounds (lo + q) true).getD j false = if j = lo + q then true else listed.getD j false := fun j => by
        by_cases hj : j = lo + q
        · subst hj; simp [Array.getD, hs, hlt]
        · rw [if_neg hj, getD_set_ne false (Ne.symm hj)]
      have hcur : curL os ds lo (fun j => (listed.setIfInBounds (lo + q) true).getD j false) s0 = (curL os ds lo (fun i => listed.getD i false) s0).app o.dst d.out :=
        curL_insert os ds lo _ _ s0 q o d hoL hd hli (by rw [hset, if_pos rfl]) (fun j hj => by rw [hset, if_neg hj])
          fun j o' d' hj h2 h3 h4 => by
            obtain ⟨_, _, q3, _, _, q6⟩ := apart_spec (behind j o' d' hj h2 h3 h4)
            exact ⟨fun t ht ht' => q3 t ht' ht, fun q hq hq' => q6 q hq' hq⟩
      refine ih (listed.setIfInBounds (lo + q) true) a' w' F' γ' (by simpa using hs) ?_ ?_ ?_ ?_ (by rw [hcur]; exact R') ?_ (hx.trans hx')
      · have hdrop := countP_drop (fun j => !listed.getD j true) (lo + q) (List.range ops.size) (List.mem_range.2 hlt) (by simp [h1])
        have e : (List.range ops.size).countP (fun j => !(listed.setIfInBounds (lo + q) true).getD j true) = (List.range ops.size).countP (fun j => !listed.getD j true && (j != lo + q)) := by
          apply List.countP_congr
          intro j hj
          by_cases hji : j = lo + q
          · subst hji
            have : (listed.setIfInBounds (lo + q) true).getD (lo + q) true = true := by simp [Array.getD, hs, hlt]
            simp [this]
          · rw [getD_set_ne true (Ne.symm hji)]; simp [hji]
        rw [e]; omega
      · intro j o' hj ho' e he hbe
        rw [hset] at hj ⊢
        by_cases hji : j = lo + q
        · subst hji
          rw [ho] at ho'; obtain rfl := Option.some.inj ho'
          have := hall e he hbe
          split <;> first | rfl | exact this
        · rw [if_neg hji] at hj
          have := hcl j o' hj ho' e he hbe
          split <;> first | rfl | exact this
      · intro j hj
        rw [hset]; split <;> first | rfl | exact hlo j hj
      · intro j hj
        rw [hset, if_neg (by omega)]; exact hhi j hj
      · intro b hb
        rcases hF' b hb with h | h
        · rcases hF b h with h | ⟨k, h2, h3, h4, h5⟩
          · exact .inl h
          · exact .inr ⟨k, by rw [hset]; split <;> first | rfl | exact h2, h3, h4, h5⟩
        · exact .inr ⟨lo + q, by rw [hset, if_pos rfl], by omega, h.1, by omega⟩
theorem runSeg_spec {env : FuncId → Option Spec} {ops : List Oper} {nx : Nat} {os : List Oper} {lo : Nat} {s s' : St} (h : (runSeg P env ops nx os lo s).den = some s') : ∃ ds, (runD P env ops nx os lo s).den = some (ds, s') ∧ freeAll ops os ds lo = true := by
  unfold runSeg at h
  rw [T.den_bind] at h
  cases hx : (runD P env ops nx os lo s).den with
  | none => rw [hx] at h; cases h
  | some y =>
    obtain ⟨ds, s1⟩ := y
    rw [hx] at h
    simp only [Option.bind_some] at h
    split at h
    case h_2 => exact (den_fail h).elim
    rename_i hok
    simp only [T.den, Option.some.injEq] at h
    subst h
    exact ⟨ds, rfl, hok⟩
theorem runRegK_ok (hmix : P.follows .mixedOrders = true) {env : FuncId → Option Spec} (hE : EnvOk P env) {id : Nat} {ops : Array Oper} {d : Bool} {β : Type} {k : Ex × St → T β} {r : β} (R : Rel A w0 F γ s a w) (hF : ∀ b, F b → b < s.nx) (h : (runRegK P env ops d s k).den = some r) {Q : Exit → Act → World → Prop}
    (hQ : ∀ ex s' a' w' F' γ', (k (ex, s')).den = some r → s'.rt = s.rt → Rel A w0 F' γ' s' a' w' → (∀ b, F' b → b < s'.nx) → Ext F γ F' γ' → Q ex.to a' w') : (Code.region id ops d).wp P Q a w := by
  cases d with
  | false =>
    exact wp_region_list (runLXK_gen (W := fun _ l a w => wpList P ops _ l a w) hE (fun _ _ _ h => wpList_nil h) (fun _ _ _ _ _ _ h => wpList_step h) (fun ex s' a' w' F' γ' h1 hrt R' hF' hx' => hQ ex s' a' w' F' γ' h1 hrt R' hF' hx') ops.toList 0 s a w F γ R rfl (fun b hb => by have := hF b hb; omega) (Ext.refl F γ) h fun _ h => h)
  | true =>
    simp only [runRegK] at h
    split at h
    · rw [T.den_bind] at h
      cases hx : (runDraw P env ops.toList s).den with
      | none => rw [hx] at h; cases h
      | some s' =>
        rw [hx] at h
        exact draw_ok hmix hE R hF hx fun a' w' F' γ' R' hF' hx' => hQ .normal s' a' w' F' γ' h (runDraw_rt hx) R' hF' hx'
    · rename_i c _
      split at h
      · rename_i o hcut hoc
        rw [nth?_eq] at hoc
        have hcs : c < ops.size := by
          have := (List.getElem?_eq_some_iff.1 hoc).1
          simpa using this
        have hoA : ops[c]? = some o := by simpa using hoc
        obtain ⟨c1, c2, hedge⟩ := cutOk_spec hcut
        rw [T.den_bind] at h
        cases hx : (runSeg P env ops.toList s.nx (ops.toList.take c) 0 s).den with
        | none => rw [hx] at h; cases h
        | some s1 =>
        rw [hx] at h
        simp only [Option.bind_some] at h
        obtain ⟨ds1, hr1, hf1⟩ := runSeg_spec hx
        obtain ⟨i1, i2, i3⟩ := runD_spec _ _ _ _ _ hr1
        split at h
        case h_2 => exact (den_fail h).elim
        rename_i neg n hn
        have hrt1 : s1.rt = s.rt := by rw [i2, curL_rt]
        -- behind the comparison
        have tail : ∀ (b : Bool), ((runSeg P env ops.toList s.nx (ops.toList.drop (c + 1)) (c + 1) (s1.app o.dst (boolOut b))).bind fun s2 => k (.normal, { s2 with nx := s.nx + 64 * len ops.toList })).den = some r → ∀ fuel a w F' γ', (List.range ops.size).countP (fun i => !(pre ops.size (c + 1)).getD i true) ≤ fuel → Rel A w0 F' γ' (s1.app o.dst (boolOut b)) a w → (∀ b, F' b → b < s.nx + 64 * (c + 1)) → Ext F γ F' γ' → wpAny P .any ops Q fuel (pre ops.size (c + 1)) a w := by
          intro b hb fuel a w F' γ' hfu R' hF' hx'
          rw [T.den_bind] at hb
          cases hy : (runSeg P env ops.toList s.nx (ops.toList.drop (c + 1)) (c + 1) (s1.app o.dst (boolOut b))).den with
          | none => rw [hy] at hb; cases hb
          | some s2 =>
          rw [hy] at hb
          simp only [Option.bind_some] at hb
          obtain ⟨ds2, hr2, hf2⟩ := runSeg_spec hy
          obtain ⟨j1, j2, j3⟩ := runD_spec _ _ _ _ _ hr2
          have hm : c + 1 + (ops.size - (c + 1)) = ops.size := by omega
          have hcl2 : ∀ (j : Nat) (o : Oper), (pre ops.size (c + 1)).getD j false = true → ops[j]? = some o → ∀ e ∈ o.after, Region.binds .any e = true → (pre ops.size (c + 1)).getD e.on false = true := by
            intro j o' hj ho' e he hbe
            rw [pre_get] at hj ⊢
            have hjs := (Array.getElem?_eq_some_iff.1 ho').1
            rw [if_pos hjs] at hj
            have hj : j < c + 1 := by simpa using hj
            have hlt := edgesOk_spec ops.toList 0 hedge j o' (by simpa using ho') e (by simpa using he) ((binds_eq e).symm.trans hbe)
            rw [if_pos (by omega)]
            simp; omega
          refine draw_seg (A := A) (w0 := w0) (s0 := s1.app o.dst (boolOut b)) (nx := s.nx) (m := ops.size - (c + 1)) (F0 := F) (γ0 := γ) hE (os := ops.toList.drop (c + 1)) (by rw [List.take_of_length_le (by simp)]) (by omega) j1 j3 hf2 hedge (fun h => by omega) (fun fuel a' w' F2 γ2 _ R2 hF2 hx2 => ?_) fuel _ a w F' γ' (pre_size _ _) hfu hcl2 ?_ ?_ ?_ ?_ hx'
          · rw [hm]
            refine wpAny_full (hQ .normal _ a' w' F2 γ2 hb ?_ (by rw [j2]; exact R2.nx _) (fun b hb => ?_) hx2) fuel
            · show s2.rt = s.rt
              rw [j2, curL_rt]; exact hrt1
            · have := hF2 b hb
              rw [hm] at this
              simpa [len_eq] using this
          · intro j hj
            rw [pre_get, if_pos (by omega)]; simp [hj]
          · intro j hj
            rw [pre_get]; split <;> simp; omega
          · have e : curL (ops.toList.drop (c + 1)) ds2 (c + 1) (fun i => (pre ops.size (c + 1)).getD i false) (s1.app o.dst (boolOut b)) = s1.app o.dst (boolOut b) := curL_none _ _ _ _ _ fun j hj => by rw [pre_get]; split <;> simp; omega
            rw [e]; exact R'
          · exact fun b hb => .inl (hF' b hb)
        refine wp_region_any hmix ?_
        have e0 : Array.replicate ops.size false = pre ops.size 0 := by
          apply Array.ext
          · simp [pre]
          · intro j h1 h2
            simp [pre]
        rw [e0]
        refine draw_seg (A := A) (w0 := w0) (s0 := s) (nx := s.nx) (m := c) (lo := 0) (F0 := F) (γ0 := γ) hE (os := ops.toList.take c) (by simp) (by omega) i1 i3 hf1 hedge (fun _ => by rw [Nat.zero_add]; exact hcut) (fun fuel a' w' F1 γ1 hfu R1 hF1 hx1 => ?_) ops.size _ a _ F γ (pre_size _ _) ?_ ?_ (fun j hj => by omega) ?_ ?_ (fun b hb => .inl (by have := hF b hb; omega)) (Ext.refl F γ)
        · rw [Nat.zero_add] at hF1 hfu ⊢
          rw [← i2] at R1
          have hcr : c ∈ Region.ready .any ops (pre ops.size c) := by
            rw [mem_ready]
            refine ⟨by rw [pre_get, if_pos hcs]; simp, o, hoA, fun e he hb => ?_⟩
            have hlt := edgesOk_spec ops.toList 0 hedge c o hoc e (by simpa using he) ((binds_eq e).symm.trans hb)
            rw [pre_get, if_pos (by omega)]; simp; omega
          cases fuel with
          | zero =>
            have h0 : (List.range ops.size).countP (fun i => !(pre ops.size c).getD i true) = 0 := by omega
            have := (List.countP_eq_zero.1 h0) c (List.mem_range.2 hcs)
            rw [pre_get, if_pos hcs] at this
            simp at this
          | succ fuel =>
            refine ⟨fun hr => (List.not_mem_nil (hr ▸ hcr)).elim, fun i hi => ?_⟩
            have hic : i = c := by
              obtain ⟨h1, o', ho', hall⟩ := mem_ready.1 hi
              have hlt := (Array.getElem?_eq_some_iff.1 ho').1
              rw [pre_get, if_pos hlt] at h1
              have h1 : c ≤ i := by simpa using h1
              rcases Nat.lt_or_eq_of_le h1 with h1 | h1
              · obtain ⟨e, he, hb, hon⟩ := c1 i o' h1 (by simpa using ho')
                have := hall e he hb
                rw [pre_get] at this
                split at this
                · simp at this; omega
                · cases this
              · exact h1.symm
            subst hic
            obtain ⟨hg, b, hb, hsim⟩ := nilOp_ok R1 (nid := s.nx + 64 * i) hn
            refine wpOp_of_step hoA ?_
            unfold Step
            rw [if_pos (by simp [Region.wanted, hg])]
            refine hsim _ Q fun V w2 F2 γ2 R2 hF2 hx2 => ?_
            rw [pre_set]
            refine tail b ?_ fuel _ w2 F2 γ2 ?_ R2 (fun q hq => ?_) (hx1.trans hx2)
            · simp only [T.den] at h
              split at h
              · rename_i h0
                rw [hb (by simpa using h0)]; exact h
              · exact den_amb h b
            · have hdrop := countP_drop (fun j => !(pre ops.size i).getD j true) i (List.range ops.size) (List.mem_range.2 hcs) (by rw [pre_get, if_pos hcs]; simp)
              have e : (List.range ops.size).countP (fun j => !(pre ops.size (i + 1)).getD j true) = (List.range ops.size).countP (fun j => !(pre ops.size i).getD j true && (j != i)) := by
                apply List.countP_congr
                intro j hj
                rw [pre_get, pre_get]
                have hj : j < ops.size := by simpa using hj
                simp only [if_pos hj]
                simp
                omega
              rw [e]; omega
            · rcases hF2 q hq with h | h
              · have := hF1 q h; omega
              · omega
        · exact Nat.le_trans List.countP_le_length (by simp)
        · intro j o' hj; exfalso
          rw [pre_get] at hj
          split at hj <;> simp at hj
        · intro j hj
          rw [pre_get]; split <;> simp
        · rw [curL_none _ _ _ _ _ fun j _ => by rw [pre_get]; split <;> simp]
          exact R.drew
      · exact (den_fail h).elim
/-- Where code comes to, told by what is asked behind it. -/
def ComesK (P : Program) (A : Ctx) (w0 : World) (c : Code) (s : St) {β : Type} (k : Ex × St → T β) (r : β) : Prop :=
  ∀ (a : Act) (w : World) (F : NS) (γ : GM), Rel A w0 F γ s a w → (∀ b, F b → b < s.nx) → c.wp P (fun ex a' w' => ∃ e s', ex = e.to ∧ (k (e, s')).den = some r ∧ ∃ F' γ', Rel A w0 F' γ' s' a' w' ∧ (∀ b, F' b → b < s'.nx) ∧ s'.rt.map γ' = s.rt.map γ) a w
theorem comesK_of {c : Code} {env : FuncId → Option Spec} {lenv : Nat → Option LS} (hmix : P.follows .mixedOrders = true) (hE : EnvOk P env) (hl : LpOk P lenv c) {β : Type} {k : Ex × St → T β} {r : β} (h : ((runC P env lenv c s).bind k).den = some r) : ComesK P A w0 c s k r := by
  rw [T.den_bind] at h
  cases hx : (runC P env lenv c s).den with
  | none => rw [hx] at h; cases h
  | some z =>
    obtain ⟨e, s'⟩ := z
    rw [hx] at h
    exact fun a w F γ R hF => wp_mono (runC_ok hmix hE c hl s e s' hx A w0 a w F γ R hF) fun ex a' w' h2 => ⟨e, s', h2.1, h, h2.2⟩
theorem runCK_ok (hmix : P.follows .mixedOrders = true) {env : FuncId → Option Spec} (hE : EnvOk P env) {lenv : Nat → Option LS} {β : Type} {r : β} : ∀ (c : Code), LpOk P lenv c → ∀ (s : St) (k : Ex × St → T β), (runCK P env lenv c s k).den = some r → ∀ A w0, ComesK P A w0 c s k r
  | .skip, _, s, k, h, A, w0 => fun a w F γ R hF => wp_skip ⟨.normal, s, rfl, h, F, γ, R, hF, rfl⟩
  | .ret, _, s, k, h, A, w0 => fun a w F γ R hF => wp_ret ⟨.ret, s, rfl, h, F, γ, R, hF, rfl⟩
  | .exit id, _, s, k, h, A, w0 => fun a w F γ R hF => wp_exit ⟨.exit id, s, rfl, h, F, γ, R, hF, rfl⟩
  | .seq x y, hl, s, k, h, A, w0 => by
    intro a w F γ R hF
    simp only [runCK] at h
    refine wp_seq (wp_mono (runCK_ok hmix hE x hl.1 s _ h A w0 a w F γ R hF) ?_)
    rintro ex a' w' ⟨e1, s1, rfl, h1, F', γ', R', hF', hrt⟩
    cases e1 with
    | normal =>
      refine wp_mono (runCK_ok hmix hE y hl.2 s1 k h1 A w0 a' w' F' γ' R' hF') ?_
      rintro ex a2 w2 ⟨e2, s2, g1, g2, F2, γ2, R2, hF2, hrt2⟩
      exact ⟨e2, s2, g1, g2, F2, γ2, R2, hF2, hrt2.trans hrt⟩
    | exit i => exact ⟨.exit i, s1, rfl, h1, F', γ', R', hF', hrt⟩
    | ret => exact ⟨.ret, s1, rfl, h1, F', γ', R', hF', hrt⟩
    | pan t n => exact ⟨.pan t n, s1, rfl, h1, F', γ', R', hF', hrt⟩
  | .cond c x y, hl, s, k, h, A, w0 => by
    intro a w F γ R hF
    simp only [runCK] at h
    split at h
    · rename_i t
      split at h
      · rename_i b hb
        simp only [T.den] at h
        have hv := cond_slot R hb
        split at h
        · rename_i hbt
          subst hbt
          exact wp_cond_true hv (runCK_ok hmix hE x hl.1 _ k h A w0 a w F γ (R.lit hb) hF)
        · rename_i hbf
          have hbf : b = false := by simpa using hbf
          subst hbf
          exact wp_cond_false hv (runCK_ok hmix hE y hl.2 _ k h A w0 a w F γ (R.lit hb) hF)
      · exact (den_fail h).elim
    · rename_i b
      simp only [T.den] at h
      split at h
      · rename_i hbt
        subst hbt
        exact wp_cond_true rfl (runCK_ok hmix hE x hl.1 _ k h A w0 a w F γ R hF)
      · rename_i hbf
        have hbf : b = false := by simpa using hbf
        subst hbf
        exact wp_cond_false rfl (runCK_ok hmix hE y hl.2 _ k h A w0 a w F γ R hF)
    · exact (den_fail h).elim
  | .block id c, hl, s, k, h, A, w0 => by
    intro a w F γ R hF
    simp only [runCK] at h
    refine wp_block (wp_mono (runCK_ok hmix hE c hl s _ h A w0 a w F γ R hF) ?_)
    rintro ex a' w' ⟨e1, s1, rfl, h1, F', γ', R', hF', hrt⟩
    cases e1 with
    | normal => exact ⟨.normal, s1, rfl, h1, F', γ', R', hF', hrt⟩
    | ret => exact ⟨.ret, s1, rfl, h1, F', γ', R', hF', hrt⟩
    | pan t n => exact ⟨.pan t n, s1, rfl, h1, F', γ', R', hF', hrt⟩
    | exit i =>
      simp only [Ex.to, Exit.inBlock]
      simp only [blkK] at h1
      split at h1
      · rename_i hi
        rw [if_pos (by simpa using hi)]
        exact ⟨.normal, s1, rfl, h1, F', γ', R', hF', hrt⟩
      · rename_i hi
        rw [if_neg (by simpa using hi)]
        exact ⟨.exit i, s1, rfl, h1, F', γ', R', hF', hrt⟩
  | .region id ops d, hl, s, k, h, A, w0 => by
    intro a w F γ R hF
    simp only [runCK] at h
    exact runRegK_ok hmix hE R hF h fun ex s' a' w' F' γ' h1 hrt R' hF' hx' => ⟨ex, s', rfl, h1, F', γ', R', hF', by rw [hrt]; exact hx'.rt R.rts⟩
  | .loop c, hl, s, k, h, A, w0 => comesK_of hmix hE hl (by simpa only [runCK] using h)
  | .rangeFunc .., _, s, k, h, A, w0 => by simp [runCK, T.den] at h
  | .scope _, _, s, k, h, A, w0 => by simp [runCK, T.den] at h
  | .label _, _, s, k, h, A, w0 => by simp [runCK, T.den] at h
  | .goto _, _, s, k, h, A, w0 => by simp [runCK, T.den] at h
  | .refuse _, _, s, k, h, A, w0 => by simp [runCK, T.den] at h
end
end Go.Proofs.Ytmmaechogibodaa.Vm
