/- Ranges over maps: each entry comes just once, in whatever order. Conditions: the program follows the model's mixed orders. -/
import Derived.Test.YtimhhefngigfeaaVmCl
import Derived.Test.YtimhhefngigfeaaVmRg
import Derived.Maps.RangeRun
set_option linter.unusedVariables false
set_option linter.unusedSimpArgs false
namespace Go.Proofs.Ytimhhefngigfeaa.Vm
open Go Go.RowKit
open Go.ChangeMaps (setBlock)
abbrev E2 := List Int × List Int
open Classical in
noncomputable def anyO {α : Type} (n : Nat) (f : Nat → Option α) : Option α := if ∀ i, i < n → f i = f 0 then f 0 else none
theorem anyO_some {α : Type} {n : Nat} {f : Nat → Option α} {r : α} (h : anyO n f = some r) {i : Nat} (hi : i < n) : f i = some r := by
  unfold anyO at h
  split at h
  · rename_i hh; rw [hh i hi]; exact h
  · cases h
theorem anyO_same {α : Type} {n : Nat} {f : Nat → Option α} {r : Option α} (h : ∀ i, i < n → f i = r) (h0 : 0 < n) : anyO n f = r := by
  unfold anyO
  rw [if_pos fun i hi => (h i hi).trans (h 0 h0).symm, h 0 h0]
noncomputable def mapsO {γ : Type} (rnd : E2 → List U → Option (List U ⊕ γ)) : Nat → List E2 → List U → Option (List U ⊕ γ)
  | 0, _, us => some (.inl us)
  | n + 1, l, us => anyO (n + 1) fun i => (rnd (l.getD i ([], [])) us).bind fun x => match x with
    | .inl us' => mapsO rnd n (l.eraseIdx i) us'
    | .inr r => some (.inr r)
noncomputable def mapsB {β γ : Type} (rnd : E2 → List U → Option (List U ⊕ γ)) (dec : List U → Option β) (es : List E2) (us : List U) : Option (β ⊕ γ) :=
  (mapsO rnd es.length es us).bind fun x => match x with
    | .inl us' => (dec us').map .inl
    | .inr r => some (.inr r)
structure MS where
  t0 : Nat
  t31 : Nat
  tit : Nat
  tnx : Nat
  tok : Nat
  ten : Nat
  tm : TypeId
  id0 : Nat
  id1 : Nat
  id3 : Nat
  j : Nat
  b3 : Nat
  ops0 : Array Oper
  ops1 : Array Oper
  ops3 : Array Oper
  rest : Code
def opMv (o : Oper) : Option (Nat × Nat) := match o.op, o.dst, o.guard with
  | .move (.tmp x), some d, none => some (x, d)
  | _, _, _ => none
def opRg (o : Oper) : Option (TypeId × Nat × Nat) := match o.op, o.dst, o.guard with
  | .range t (.tmp x), some d, none => some (t, x, d)
  | _, _, _ => none
def opNx (o : Oper) : Option (Nat × Nat) := match o.op, o.dst, o.guard with
  | .next (.tmp x) false, some d, none => some (x, d)
  | _, _, _ => none
def opEx (o : Oper) : Option (Nat × Nat) := match o.op, o.dst, o.guard with
  | .extract (.tmp x) 0, some d, none => some (x, d)
  | _, _, _ => none
def opEn (o : Oper) : Option (Nat × Nat) := match o.op, o.dst, o.guard with
  | .entry (.tmp x), some d, none => some (x, d)
  | _, _, _ => none
def cSeq : Code → Option (Code × Code)
  | .seq a b => some (a, b)
  | _ => none
def cReg : Code → Option (Nat × Array Oper)
  | .region i ops false => some (i, ops)
  | _ => none
def cBlk : Code → Option (Nat × Code)
  | .block i c => some (i, c)
  | _ => none
def cLoop : Code → Option Code
  | .loop c => some c
  | _ => none
def cOut : Code → Option (Nat × Nat)
  | .cond (.tmp t) .skip (.exit j) => some (t, j)
  | _ => none
theorem cSeq_spec {c : Code} {x : Code × Code} (h : cSeq c = some x) : c = .seq x.1 x.2 := by cases c <;> simp [cSeq] at h; subst h; rfl
theorem cReg_spec {c : Code} {x : Nat × Array Oper} (h : cReg c = some x) : c = .region x.1 x.2 false := by
  unfold cReg at h
  split at h
  · obtain rfl := Option.some.inj h; rfl
  · cases h
theorem cBlk_spec {c : Code} {x : Nat × Code} (h : cBlk c = some x) : c = .block x.1 x.2 := by cases c <;> simp [cBlk] at h; subst h; rfl
theorem cLoop_spec {c x : Code} (h : cLoop c = some x) : c = .loop x := by cases c <;> simp [cLoop] at h; subst h; rfl
theorem cOut_spec {c : Code} {x : Nat × Nat} (h : cOut c = some x) : c = .cond (.tmp x.1) .skip (.exit x.2) := by
  unfold cOut at h
  split at h
  · obtain rfl := Option.some.inj h; rfl
  · cases h
theorem opMv_spec {o : Oper} {x : Nat × Nat} (h : opMv o = some x) : o.op = .move (.tmp x.1) ∧ o.dst = some x.2 ∧ o.guard = none := by
  unfold opMv at h
  split at h
  · rename_i h1 h2 h3; obtain rfl := Option.some.inj h; exact ⟨h1, h2, h3⟩
  · cases h
theorem opRg_spec {o : Oper} {x : TypeId × Nat × Nat} (h : opRg o = some x) : o.op = .range x.1 (.tmp x.2.1) ∧ o.dst = some x.2.2 ∧ o.guard = none := by
  unfold opRg at h
  split at h
  · rename_i h1 h2 h3; obtain rfl := Option.some.inj h; exact ⟨h1, h2, h3⟩
  · cases h
theorem opNx_spec {o : Oper} {x : Nat × Nat} (h : opNx o = some x) : o.op = .next (.tmp x.1) false ∧ o.dst = some x.2 ∧ o.guard = none := by
  unfold opNx at h
  split at h
  · rename_i h1 h2 h3; obtain rfl := Option.some.inj h; exact ⟨h1, h2, h3⟩
  · cases h
theorem opEx_spec {o : Oper} {x : Nat × Nat} (h : opEx o = some x) : o.op = .extract (.tmp x.1) 0 ∧ o.dst = some x.2 ∧ o.guard = none := by
  unfold opEx at h
  split at h
  · rename_i h1 h2 h3; obtain rfl := Option.some.inj h; exact ⟨h1, h2, h3⟩
  · cases h
theorem opEn_spec {o : Oper} {x : Nat × Nat} (h : opEn o = some x) : o.op = .entry (.tmp x.1) ∧ o.dst = some x.2 ∧ o.guard = none := by
  unfold opEn at h
  split at h
  · rename_i h1 h2 h3; obtain rfl := Option.some.inj h; exact ⟨h1, h2, h3⟩
  · cases h
def two? {α : Type} : List α → Option (α × α)
  | [a, b] => some (a, b)
  | _ => none
theorem two?_spec {α : Type} {l : List α} {x : α × α} (h : two? l = some x) : l = [x.1, x.2] := by
  unfold two? at h
  split at h
  · obtain rfl := Option.some.inj h; rfl
  · cases h
def head? {α : Type} : List α → Option α
  | a :: _ => some a
  | _ => none
theorem head?_spec {α : Type} {l : List α} {x : α} (h : Vm.head? l = some x) : ∃ r, l = x :: r := by
  cases l with
  | nil => cases h
  | cons a r => obtain rfl := Option.some.inj h; exact ⟨r, rfl⟩
def mpOf (c : Code) : Option MS :=
  (cSeq c).bind fun x1 => (cReg x1.1).bind fun r0 => (two? r0.2.toList).bind fun o0 => (opMv o0.1).bind fun mv => (opRg o0.2).bind fun rg =>
  (cBlk x1.2).bind fun bk => (cLoop bk.2).bind fun lb => (cSeq lb).bind fun x2 => (cReg x2.1).bind fun r1 => (two? r1.2.toList).bind fun o1 => (opNx o1.1).bind fun nx => (opEx o1.2).bind fun ex =>
  (cSeq x2.2).bind fun x3 => (cOut x3.1).bind fun co => (cBlk x3.2).bind fun b3 => (cSeq b3.2).bind fun x4 => (cReg x4.1).bind fun r3 => (Vm.head? r3.2.toList).bind fun eo => (opEn eo).bind fun en =>
  if rg.2.1 = mv.2 ∧ nx.1 = rg.2.2 ∧ ex.1 = nx.2 ∧ co.1 = ex.2 ∧ co.2 = bk.1 ∧ en.1 = rg.2.2 ∧ rg.2.2 ≠ nx.2 ∧ rg.2.2 ≠ ex.2 ∧ mv.1 ≠ mv.2 ∧ mv.1 ≠ rg.2.2 ∧ mv.1 ≠ nx.2 ∧ mv.1 ≠ ex.2 then
    some ⟨mv.1, mv.2, rg.2.2, nx.2, ex.2, en.2, rg.1, r0.1, r1.1, r3.1, bk.1, b3.1, r0.2, r1.2, r3.2, x4.2⟩ else none
structure MpIs (c : Code) (sh : MS) : Prop where
  code : c = .seq (.region sh.id0 sh.ops0 false) (.block sh.j (.loop (.seq (.region sh.id1 sh.ops1 false) (.seq (.cond (.tmp sh.tok) .skip (.exit sh.j)) (.block sh.b3 (.seq (.region sh.id3 sh.ops3 false) sh.rest))))))
  o0 : ∃ mv rg, sh.ops0.toList = [mv, rg] ∧ (mv.op = .move (.tmp sh.t0) ∧ mv.dst = some sh.t31 ∧ mv.guard = none) ∧ rg.op = .range sh.tm (.tmp sh.t31) ∧ rg.dst = some sh.tit ∧ rg.guard = none
  o1 : ∃ nx ex, sh.ops1.toList = [nx, ex] ∧ (nx.op = .next (.tmp sh.tit) false ∧ nx.dst = some sh.tnx ∧ nx.guard = none) ∧ ex.op = .extract (.tmp sh.tnx) 0 ∧ ex.dst = some sh.tok ∧ ex.guard = none
  o3 : ∃ en r, sh.ops3.toList = en :: r ∧ en.op = .entry (.tmp sh.tit) ∧ en.dst = some sh.ten ∧ en.guard = none
  ne : sh.tit ≠ sh.tnx ∧ sh.tit ≠ sh.tok ∧ sh.t0 ≠ sh.t31 ∧ sh.t0 ≠ sh.tit ∧ sh.t0 ≠ sh.tnx ∧ sh.t0 ≠ sh.tok
theorem mpOf_spec {c : Code} {sh : MS} (h : mpOf c = some sh) : MpIs c sh := by
  unfold mpOf at h
  simp only [Option.bind_eq_some_iff] at h
  obtain ⟨x1, h1, r0, h2, o0, h3, mv, h4, rg, h5, bk, h6, lb, h7, x2, h8, r1, h9, o1, h10, nx, h11, ex, h12, x3, h13, co, h14, b3, h15, x4, h16, r3, h17, eo, h18, en, h19, h20⟩ := h
  split at h20
  · rename_i hc
    obtain ⟨c1, c2, c3, c4, c5, c6, c7, c8, c9, c10, c11, c12⟩ := hc
    obtain rfl := Option.some.inj h20
    have e3 := two?_spec h3
    have e10 := two?_spec h10
    obtain ⟨r, e18⟩ := head?_spec h18
    have m4 := opMv_spec h4
    have m5 := opRg_spec h5
    have m11 := opNx_spec h11
    have m12 := opEx_spec h12
    have m19 := opEn_spec h19
    refine ⟨?_, ⟨_, _, e3, m4, by rw [m5.1, c1], m5.2⟩, ⟨_, _, e10, ⟨by rw [m11.1, c2], m11.2⟩, by rw [m12.1, c3], m12.2⟩, ⟨_, r, e18, by rw [m19.1, c6], m19.2⟩, c7, c8, c9, c10, c11, c12⟩
    rw [cSeq_spec h1, cReg_spec h2, cBlk_spec h6, cLoop_spec h7, cSeq_spec h8, cReg_spec h9, cSeq_spec h13, cOut_spec h14, cBlk_spec h15, cSeq_spec h16, cReg_spec h17, c4, c5]
  · cases h20
def St.hide (s : St) (b : Nat) : St := { s with mem := updM s.mem [(b, none)] }
def St.tell (s : St) (t : Nat) (v : SV) : St := s.app (some t) ⟨v, []⟩
def addMap (t0 : Nat) (kk vk : List IntKind) (es : List E2) (s : St) : St :=
  { (s.app (some t0) ⟨.pv (.one (.mapr s.nx)), [(s.nx, some ⟨true, .map kk vk es⟩)]⟩) with nx := s.nx + 64 }
def MS.bnd (sh : MS) (n : Nat) : Bool := decide (sh.t0 < n) && decide (sh.t31 < n) && decide (sh.tit < n) && decide (sh.tnx < n) && decide (sh.tok < n) && decide (sh.ten < n)
structure MLS where
  kk : List IntKind
  vk : List IntKind
  pre : Pat
  β : Type
  γ : Type
  ex' : Ex
  post' : Pat
  L : List E2 → List U → Option (β ⊕ γ)
  enc : β → List U
  enc' : γ → List U
def endM (sh : MS) (s : St) : St := (s.tell sh.tnx anyS).tell sh.tok anyS
def startM (sh : MS) (s : St) : St := (s.tell sh.t31 anyS).tell sh.tit anyS
noncomputable def runML (P : Program) (sh : MS) (ls : MLS) (s : St) : T (Ex × St) :=
  match P.underlying sh.tm, nth undefS s.tmps sh.t0, sh.bnd s.tmps.length && sh.bnd ls.pre.nt with
  | some (.map _ _), .pv (.one (.mapr b)), true => match s.mem b with
    | some ⟨true, .map kk vk es⟩ => if kk = ls.kk ∧ vk = ls.vk then (match rdSt ls.pre ((startM sh s).hide b) with
      | some us => .cas (ls.L es us) (fun r => match mkSt ls.pre (ls.enc r) with | some s1 => .ret (.normal, addMap sh.t0 kk vk es (endM sh s1)) | none => .fail)
          (fun r => match exOut ls.ex' (ls.enc' r) with
            | some (e, vs) => match mkSt ls.post' vs with | some s' => .ret (e, s') | none => .fail
            | none => .fail)
      | none => .fail) else .fail
    | _ => .fail
  | _, _, _ => .fail
def setM (sh : MS) (kk vk : List IntKind) (kv : E2) (s1 : St) : St :=
  { (((((s1.tell sh.tit (.pv (.one (.ptr s1.nx 0 0 0)))).tell sh.t0 (.pv (.one (.mapr (s1.nx + 1))))).tell sh.tnx anyS).tell sh.tok anyS).tell sh.ten (.tup [pvK kk kv.1, pvK vk kv.2])) with rt := s1.rt ++ [s1.nx, s1.nx + 1], nx := s1.nx + 64 }
def listEqM : List Nat → List Nat → Bool
  | [], [] => true
  | a :: l, b :: r => a == b && listEqM l r
  | _, _ => false
theorem listEqM_spec : ∀ {l r : List Nat}, listEqM l r = true → l = r
  | [], [], _ => rfl
  | a :: l, b :: r, h => by
    simp only [listEqM, Bool.and_eq_true, beq_iff_eq] at h
    rw [h.1, listEqM_spec h.2]
def keptM (sh : MS) (s1 s' : St) : Bool :=
  listEqM s'.rt (s1.rt ++ [s1.nx, s1.nx + 1]) && (match nth undefS s'.tmps sh.tit with | .pv (.one (.ptr b 0 0 0)) => b == s1.nx | _ => false) && (match nth undefS s'.tmps sh.t0 with | .pv (.one (.mapr b)) => b == s1.nx + 1 | _ => false)
def kendM {γ : Type} (sh : MS) (s1 : St) (pre : Pat) (ex' : Ex) (post' : Pat) (dec' : List U → Option γ) : Ex × St → T (List U ⊕ γ)
  | (.normal, s') => match keptM sh s1 s' with
    | true => (match rdSt pre { s' with rt := s1.rt } with | some us' => .ret (.inl us') | none => .fail)
    | false => .fail
  | (e, s') => match listEqM s'.rt (s1.rt ++ [s1.nx, s1.nx + 1]) && exEq e ex' with
    | true => (match rdSt post' { s' with rt := s1.rt } with | some us' => T.opt (dec' (exIn e us')) fun r => .ret (.inr r) | none => .fail)
    | false => .fail
noncomputable def roundM (P : Program) (env : FuncId → Option Spec) (lenv : Nat → Option LS) (sh : MS) (kk vk : List IntKind) (pre : Pat) {γ : Type} (ex' : Ex) (post' : Pat) (dec' : List U → Option γ) (kv : E2) (us : List U) : T (List U ⊕ γ) :=
  match mkSt pre us with
  | some s1 => match sh.ops3.toList with
    | _ :: tl => runLXK P env sh.ops3.toList (setM sh kk vk kv s1).nx tl 1 (setM sh kk vk kv s1) (seqK (fun s' => runCK P env lenv sh.rest s' (blkK sh.b3 (kendM sh s1 pre ex' post' dec'))) (blkK sh.b3 (kendM sh s1 pre ex' post' dec')))
    | [] => .fail
  | none => .fail
section
variable {P : Program} {A : Ctx} {w0 : World} {F : NS} {γ : GM} {s : St} {a : Act} {w : World}
theorem Rel.tell (R : Rel A w0 F γ s a w) {t : Nat} {v : SV} (hv : RelV F γ s.mem w v (a.tmps.getD t undef)) : Rel A w0 F γ (s.tell t v) a w :=
  { toMem := R.toMem, defers := R.defers, size := by rw [St.tell, app_len]; exact R.size, slots := fun t' => by
      rw [St.tell, app_tmps]
      split
      · rename_i h
        obtain ⟨h1, h2⟩ := h
        obtain rfl := Option.some.inj h1
        exact hv
      · exact R.slots t' }
theorem Rel.hide (R : Rel A w0 F γ s a w) (b : Nat) : Rel A w0 F γ (s.hide b) a w := by
  have sub : ∀ b' e, (s.hide b).mem b' = some e → s.mem b' = some e := fun b' e h => by
    simp only [St.hide, updM] at h
    split at h
    · cases h
    · exact h
  have ms : MStep F γ s.mem w F γ (s.hide b).mem w := ⟨fun _ h => h, fun _ _ => rfl, fun b' e' _ he' => ⟨e', sub b' e' he', rfl, rfl, rfl, fun _ _ h => h⟩, WStep.refl w, fun _ h => h, fun _ _ => rfl⟩
  exact
  { below := R.below
    memr := fun b' e hb => ⟨(R.memr b' e (sub _ _ hb)).1, (R.memr b' e (sub _ _ hb)).2.step ms rfl fun g base hg => rfl⟩
    own := fun b' e g base hb ho hg => ⟨(R.own b' e g base (sub _ _ hb) ho hg).1, fun b2 e2 g2 base2 hne hb2 hg2 => (R.own b' e g base (sub _ _ hb) ho hg).2 b2 e2 g2 base2 hne (sub _ _ hb2) hg2⟩
    nofr := fun b' e g base hb ho hg => R.nofr b' e g base (sub _ _ hb) ho hg
    shr := fun b' e g base hb ho hg => R.shr b' e g base (sub _ _ hb) ho hg
    bnd := fun b' e g base hb hg => R.bnd b' e g base (sub _ _ hb) hg
    maps := fun b' o kk vk es g base hb hg => R.maps b' o kk vk es g base (sub _ _ hb) hg
    zok := fun g hz => ⟨(R.zok g hz).1, (R.zok g hz).2.1, fun b' e base hb ho => (R.zok g hz).2.2 b' e base (sub _ _ hb) ho⟩
    rts := R.rts
    defers := R.defers
    size := R.size
    slots := fun t => (R.slots t).step ms }
theorem Rel.name (R : Rel A w0 F γ s a w) {q : Nat} (hq : ∀ b, F b → b ≠ q) (g base : Nat) {rt' : List Nat} (hr : ∀ b ∈ rt', F b ∨ b = q) : Rel A w0 (addN F q) (addG γ q g base) { s with rt := rt' } a w := by
  have hx := addN_ext (γ := γ) hq g base
  have hne : ∀ b e, s.mem b = some e → addG γ q g base b = γ b := fun b e h => hx.2 b (R.memr b e h).1
  have ms : MStep F γ s.mem w (addN F q) (addG γ q g base) s.mem w := ⟨hx.1, hx.2, fun b' e' _ he' => ⟨e', he', rfl, rfl, rfl, fun _ _ h => h⟩, WStep.refl w, fun _ h => h, fun _ _ => rfl⟩
  exact
  { below := R.below
    memr := fun b e hb => ⟨.inl (R.memr b e hb).1, (R.memr b e hb).2.step ms (hne b e hb) fun g base hg => rfl⟩
    own := fun b e g' base' hb ho hg => by
      rw [hne b e hb] at hg
      refine ⟨(R.own b e g' base' hb ho hg).1, fun b2 e2 g2 base2 h1 h2 h3 => ?_⟩
      rw [hne b2 e2 h2] at h3
      exact (R.own b e g' base' hb ho hg).2 b2 e2 g2 base2 h1 h2 h3
    nofr := fun b e g' base' hb ho hg => R.nofr b e g' base' hb ho (by rw [hne b e hb] at hg; exact hg)
    shr := fun b e g' base' hb ho hg => R.shr b e g' base' hb ho (by rw [hne b e hb] at hg; exact hg)
    bnd := fun b e g' base' hb hg => R.bnd b e g' base' hb (by rw [hne b e hb] at hg; exact hg)
    maps := fun b o kk vk es g' base' hb hg => R.maps b o kk vk es g' base' hb (by rw [hne b _ hb] at hg; exact hg)
    zok := fun g' hz => ⟨(R.zok g' hz).1, (R.zok g' hz).2.1, fun b e base' hb ho => by rw [hne b e hb]; exact (R.zok g' hz).2.2 b e base' hb ho⟩
    rts := fun b hb => (hr b hb).elim .inl .inr
    defers := R.defers
    size := R.size
    slots := fun t => (R.slots t).step ms }
theorem Rel.unname (R : Rel A w0 F γ s a w) {rt' : List Nat} (h : ∀ b ∈ rt', F b) : Rel A w0 F γ { s with rt := rt' } a w :=
  { toMem := { R.toMem with rts := h }, defers := R.defers, size := R.size, slots := R.slots }
theorem Rel.nxt (R : Rel A w0 F γ s a w) (n : Nat) : Rel A w0 F γ { s with nx := n } a w :=
  { toMem := R.toMem, defers := R.defers, size := R.size, slots := R.slots }
theorem Rel.unroot {s1 : St} {a1 : Act} (R : Rel A w0 F γ s a w) {I : Nat → Prop} {w1 : World} (hB : Bel I w.heap.size w w1) (hI : ∀ g, I g → w0.heap.size ≤ g ∨ A.i g) {F1 : NS} {γ1 : GM} {w' : World}
    (R1 : Rel ⟨F.z, Owned γ s.mem, a.defers⟩ w1 F1 γ1 s1 a1 w') : Rel A w0 F1 γ1 s1 a1 w' := by
  have hO : ∀ g, Owned γ s.mem g → w0.heap.size ≤ g ∨ A.i g := fun g ⟨b, e, base, h1, h2, h3⟩ => (R.own b e g base h1 h2 h3).1
  have hs : w0.heap.size ≤ w1.heap.size := Nat.le_trans R.below.size hB.size
  have hB1 : Bel A.i w0.heap.size w0 w1 := R.below.call hB R.below.size hI
  exact
  { below := hB1.call R1.below hs hO
    memr := R1.memr
    own := fun b e g base hb ho hg => ⟨(R1.own b e g base hb ho hg).1.elim (fun h => .inl (Nat.le_trans hs h)) fun h => hO g h, (R1.own b e g base hb ho hg).2⟩
    nofr := R1.nofr
    shr := R1.shr
    bnd := R1.bnd
    maps := R1.maps
    zok := fun g hz => ⟨(R1.zok g hz).1, (R1.zok g hz).2.1.elim (fun h => (R.zok g h).2.1) (fun h => h.elim (fun h => .inr (.inl (Nat.le_trans hs h))) fun h => .inr (hO g h)), (R1.zok g hz).2.2⟩
    rts := R1.rts
    defers := R1.defers.trans R.defers
    size := R1.size
    slots := R1.slots }
theorem Rel.addMap (R : Rel A w0 F γ s a w) (hF : ∀ b, F b → b < s.nx) {g t0 : Nat} {kk vk : List IntKind} {es : List E2} {ents : Array MapEntry} {clock : Nat} (hg : w.heap[g]? = some (.map ents clock)) (hm : mapOk kk vk es ents clock) (hT : ¬ Tracked F γ s.mem g) (ho : w0.heap.size ≤ g ∨ A.i g)
    (hv : a.tmps.getD t0 undef = .map (some g)) : Rel A w0 (addN F s.nx) (addG γ s.nx g 0) (Vm.addMap t0 kk vk es s) a w := by
  have hq : ∀ b, F b → b ≠ s.nx := fun b h e => by have := hF b h; omega
  have hx := addN_ext (γ := γ) hq g 0
  have hmem : ∀ b e, (Vm.addMap t0 kk vk es s).mem b = some e → (b = s.nx ∧ e = ⟨true, .map kk vk es⟩) ∨ (b ≠ s.nx ∧ s.mem b = some e) := fun b e h => by
    simp only [Vm.addMap, St.app, updM] at h
    split at h
    · rename_i hb
      exact .inl ⟨by simpa using hb, (Option.some.inj h).symm⟩
    · rename_i hb
      exact .inr ⟨by simpa using hb, h⟩
  have hnew : addG γ s.nx g 0 s.nx = some (g, 0) := by simp [addG]
  have hold : ∀ b, b ≠ s.nx → addG γ s.nx g 0 b = γ b := fun b h => by simp [addG, h]
  have ms : MStep F γ s.mem w (addN F s.nx) (addG γ s.nx g 0) (Vm.addMap t0 kk vk es s).mem w := ⟨hx.1, hx.2, fun b' e' hb' he' => by
    rcases hmem b' e' he' with ⟨h, _⟩ | ⟨_, h⟩
    · exact absurd h (hq b' hb')
    · exact ⟨e', h, rfl, rfl, rfl, fun _ _ h => h⟩, WStep.refl w, fun _ h => h, fun _ _ => rfl⟩
  exact
  { below := R.below
    memr := fun b e hb => by
      rcases hmem b e hb with ⟨rfl, rfl⟩ | ⟨h1, h2⟩
      · exact ⟨.inr rfl, fun i j c hc => by simp [Blk.at] at hc⟩
      · exact ⟨.inl (R.memr b e h2).1, (R.memr b e h2).2.step ms (hold b h1) fun g base hg => rfl⟩
    own := fun b e g' base' hb hoo hg' => by
      rcases hmem b e hb with ⟨rfl, rfl⟩ | ⟨h1, h2⟩
      · rw [hnew] at hg'
        obtain ⟨rfl, rfl⟩ : g = g' ∧ 0 = base' := by simpa using hg'
        refine ⟨ho, fun b2 e2 g2 base2 n1 n2 n3 e => ?_⟩
        rcases hmem b2 e2 n2 with ⟨n4, _⟩ | ⟨n4, n5⟩
        · exact n1 n4
        · rw [hold b2 n4] at n3
          subst e
          exact hT (.inr ⟨b2, e2, base2, n5, n3⟩)
      · rw [hold b h1] at hg'
        refine ⟨(R.own b e g' base' h2 hoo hg').1, fun b2 e2 g2 base2 n1 n2 n3 => ?_⟩
        rcases hmem b2 e2 n2 with ⟨rfl, _⟩ | ⟨n4, n5⟩
        · rw [hnew] at n3
          obtain ⟨rfl, _⟩ : g = g2 ∧ 0 = base2 := by simpa using n3
          intro e
          subst e
          exact hT (.inr ⟨b, e, base', h2, hg'⟩)
        · rw [hold b2 n4] at n3
          exact (R.own b e g' base' h2 hoo hg').2 b2 e2 g2 base2 n1 n5 n3
    nofr := fun b e g' base' hb hoo hg' => by
      rcases hmem b e hb with ⟨rfl, rfl⟩ | ⟨h1, h2⟩
      · rw [hnew] at hg'
        obtain ⟨rfl, rfl⟩ : g = g' ∧ 0 = base' := by simpa using hg'
        intro cs t h
        rw [hg] at h; cases h
      · rw [hold b h1] at hg'
        exact R.nofr b e g' base' h2 hoo hg'
    shr := fun b e g' base' hb hoo hg' => by
      rcases hmem b e hb with ⟨rfl, rfl⟩ | ⟨h1, h2⟩
      · cases hoo
      · rw [hold b h1] at hg'
        exact R.shr b e g' base' h2 hoo hg'
    bnd := fun b e g' base' hb hg' => by
      rcases hmem b e hb with ⟨rfl, rfl⟩ | ⟨h1, h2⟩
      · rw [hnew] at hg'
        obtain ⟨rfl, rfl⟩ : g = g' ∧ 0 = base' := by simpa using hg'
        exact (Array.getElem?_eq_some_iff.1 hg).1
      · rw [hold b h1] at hg'
        exact R.bnd b e g' base' h2 hg'
    maps := fun b o kk' vk' es' g' base' hb hg' => by
      rcases hmem b _ hb with ⟨rfl, he⟩ | ⟨h1, h2⟩
      · rw [hnew] at hg'
        obtain ⟨rfl, rfl⟩ : g = g' ∧ 0 = base' := by simpa using hg'
        simp only [Ent.mk.injEq, Blk.map.injEq] at he
        obtain ⟨_, rfl, rfl, rfl⟩ := he
        exact ⟨ents, clock, hg, hm⟩
      · rw [hold b h1] at hg'
        exact R.maps b o kk' vk' es' g' base' h2 hg'
    zok := fun g' hz => ⟨(R.zok g' hz).1, (R.zok g' hz).2.1, fun b e base' hb hoo hg' => by
      rcases hmem b e hb with ⟨rfl, rfl⟩ | ⟨h1, h2⟩
      · rw [hnew] at hg'
        obtain ⟨rfl, rfl⟩ : g = g' ∧ 0 = base' := by simpa using hg'
        exact hT (.inl hz)
      · rw [hold b h1] at hg'
        exact (R.zok g' hz).2.2 b e base' h2 hoo hg'⟩
    rts := fun b hb => .inl (R.rts b hb)
    defers := R.defers
    size := by
      show a.tmps.size = (s.app (some t0) ⟨.pv (.one (.mapr s.nx)), [(s.nx, some ⟨true, .map kk vk es⟩)]⟩).tmps.length
      rw [app_len]; exact R.size
    slots := fun t => by
      show RelV _ _ _ _ (nth undefS (s.app (some t0) ⟨.pv (.one (.mapr s.nx)), _⟩).tmps t) _
      rw [app_tmps]
      split
      · rename_i h
        obtain ⟨h1, h2⟩ := h
        obtain rfl := Option.some.inj h1
        rw [hv]
        refine ⟨.inr rfl, ⟨g, 0, hnew, rfl⟩, fun e he => ?_⟩
        rcases hmem _ e he with ⟨_, rfl⟩ | ⟨h1, _⟩
        · rfl
        · exact absurd rfl h1
      · exact (R.slots t).step ms }
theorem entOk_at {kk vk : List IntKind} : ∀ {es : List E2} {l : List MapEntry}, entOk kk vk es l → es.length = l.length ∧ ∀ (i : Nat) (e : MapEntry), l[i]? = some e → e.key = valK kk (es.getD i ([], [])).1 ∧ e.val = valK vk (es.getD i ([], [])).2
  | [], [], _ => ⟨rfl, fun i e h => by simp at h⟩
  | (k, v) :: es, e :: l, h => by
    obtain ⟨h1, h2, h3, h4⟩ := h
    obtain ⟨i1, i2⟩ := entOk_at h4
    refine ⟨congrArg (· + 1) i1, fun i e' he' => ?_⟩
    cases i with
    | zero => obtain rfl := Option.some.inj he'; exact ⟨h1, h2⟩
    | succ i => simpa using i2 i e' (by simpa using he')
theorem entOk_erase {kk vk : List IntKind} : ∀ {es : List E2} {l : List MapEntry} (i : Nat), entOk kk vk es l → entOk kk vk (es.eraseIdx i) (l.eraseIdx i)
  | [], [], i, _ => by simp [entOk]
  | (k, v) :: es, e :: l, 0, h => h.2.2.2
  | (k, v) :: es, e :: l, i + 1, h => ⟨h.1, h.2.1, h.2.2.1, entOk_erase i h.2.2.2⟩
theorem filter_push {l : List MapEntry} (hn : (l.map (·.born)).Nodup) {p : MapEntry → Bool} {e : MapEntry} (i : Nat) (hi : (l.filter p)[i]? = some e) : l.filter (fun x => p x && !(x.born == e.born)) = (l.filter p).eraseIdx i := by
  have hn2 : ((l.filter p).map (·.born)).Nodup := hn.sublist ((List.filter_sublist).map _)
  rw [show (fun x : MapEntry => p x && !(x.born == e.born)) = fun x => (!(x.born == e.born)) && p x by funext x; exact Bool.and_comm _ _, ← List.filter_filter]
  generalize l.filter p = m at hi hn2
  induction m generalizing i with
  | nil => simp at hi
  | cons x m ih =>
    cases i with
    | zero =>
      obtain rfl := Option.some.inj hi
      simp only [List.eraseIdx_zero, List.tail_cons]
      rw [List.filter_cons_of_neg (by simp)]
      rw [List.filter_eq_self]
      intro y hy
      have := (List.nodup_cons.1 (show (x.born :: m.map (·.born)).Nodup from hn2)).1
      simp only [Bool.not_eq_true', beq_eq_false_iff_ne, ne_eq]
      intro e1
      exact this (by rw [← e1]; exact List.mem_map_of_mem hy)
    | succ i =>
      have hi' : m[i]? = some e := by simpa using hi
      have hn3 := List.nodup_cons.1 (show (x.born :: m.map (·.born)).Nodup from hn2)
      have hxe : x.born ≠ e.born := fun e1 => hn3.1 (by rw [e1]; exact List.mem_map_of_mem (List.mem_of_getElem? hi'))
      rw [List.filter_cons_of_pos (by simpa using hxe), List.eraseIdx_cons_succ, ih i hi' hn3.2]
end
end Go.Proofs.Ytimhhefngigfeaa.Vm
