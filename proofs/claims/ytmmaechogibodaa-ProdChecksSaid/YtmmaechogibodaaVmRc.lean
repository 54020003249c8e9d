/- A function with a deferred closure that recovers a panic. Conditions: the program follows the model's mixed orders. -/
import Derived.Test.YtmmaechogibodaaVmX
import Derived.Recover
set_option linter.unusedVariables false
set_option linter.unusedSimpArgs false
namespace Go.Proofs.Ytmmaechogibodaa.Vm
open Go Go.RowKit

section
variable {P : Program} {env : FuncId → Option Spec} {lenv : Nat → Option LS}
/-- The parts of a text. -/
def seqA : Code → Code
  | .seq a _ => a
  | c => c
def seqB : Code → Code
  | .seq _ b => b
  | c => c
def regId : Code → Nat
  | .region id _ _ => id
  | _ => 0
def regOp (i : Nat) : Code → Oper
  | .region _ ops _ => nth default ops.toList i
  | _ => default
/-- The blocks of variables that a closure takes hold of. -/
def capSt (s : St) : List Nat → Option (List Nat)
  | [] => some []
  | c :: l => match nth undefS s.tmps c with
    | .pv (.one (.ptr b 0 0 0)) => match capSt s l with | some r => some (b :: r) | none => none
    | _ => none
def listEq : List Nat → List Nat → Bool
  | [], [] => true
  | a :: l, b :: m => match a == b with | true => listEq l m | false => false
  | _, _ => false
theorem listEq_spec : ∀ {l m : List Nat}, listEq l m = true → l = m
  | [], [], _ => rfl
  | a :: l, b :: m, h => by
    simp only [listEq] at h
    split at h
    · rename_i e; rw [show a = b by simpa using e, listEq_spec h]
    · cases h
  | [], _ :: _, h => by cases h
  | _ :: _, [], h => by cases h
def finR (P : Program) (fn : Func) (es : List Ent) (args res : List PP) {β : Type} (dec : List U → Option β) (s : St) : T β :=
  (resPVs P { s with rt := [] } fn.results.toList).bind fun vs => endFs es args res dec { s with rt := [] } vs
/-- The function: what stands ahead of the deferral, what stands behind it; the closure's slot, the slots that it captures; the panic's type; what the closure does then. -/
def runFR (P : Program) (env : FuncId → Option Spec) (lenv : Nat → Option LS) (fn : Func) (args res : List PP) {β : Type} (c0 c1 c2 : Code) (tf : Nat) (cs : List Nat) (t0 : Nat) (gs : Int → Spec) (dec : List U → Option β) (us : List U) : T β :=
  match mkPs 0 args us with
  | some (ps, es, []) => (runC P env lenv c0 ⟨ps.map .pv ++ List.replicate (fn.ntmps - len ps) undefS, memOf es, len es, []⟩).bind fun (e0, s0) => match e0 with
    | .normal => (runC P env lenv c1 s0).bind fun (e1, s1) => match e1 with
      | .ret => finR P fn es args res dec s1
      | .normal => match capSt s1 cs, decide (tf < len s1.tmps) with
        | some bs, true => (runC P env lenv c2 { s1 with tmps := put s1.tmps tf anyS, rt := bs }).bind fun (e2, s2) => match e2 with
          | .ret => finR P fn es args res dec s2
          | .normal => finR P fn es args res dec s2
          | .pan t n => match t == t0, capSt s2 cs with
            | true, some bs2 => match listEq bs2 s2.rt with
              | true => (exCall (some (gs n)) (cs.map fun c => nth undefS s2.tmps c) s2.mem s2.nx).bind fun o => finR P fn es args res dec (s2.app none o)
              | false => .fail
            | _, _ => .fail
          | .exit _ => .fail
        | _, _ => .fail
      | _ => .fail
    | _ => .fail
  | _ => .fail
/-- The closure, called behind a return: it leaves what was there as it was. -/
def Quiet (P : Program) (g : FuncId) (k : Nat) : Prop := ∀ (caps : Array Value) (w : World), caps.size = k → CallsD P g caps .returning w fun e u' w' => (∃ v, e = .returned v) ∧ u' = .returning ∧ Bel (fun _ => False) w.heap.size w w'
/-- The closure, called behind a panic with a number of a type: it recovers it, and does what is told. -/
def Mends (P : Program) (g : FuncId) (t0 : Nat) (gs : Int → Spec) : Prop := ∀ (n : Int) (us : List U) (r : (gs n).β), (gs n).G us = some r →
  ∀ (Z : Nat → Prop) (γ : GM) (w : World) (Vs : List Value) (ps : List PV) (es : List Ent), mkPs 0 (gs n).args us = some (ps, es, []) →
    All2 (RelP ⟨fun b => b < es.length, Z⟩ γ (memOf es) w) ps Vs → Mem ⟨Z, ownedOf γ es, []⟩ w ⟨fun b => b < es.length, Z⟩ γ (memOf es) (rootIds 0 (gs n).args) w →
    CallsD P g Vs.toArray (.panicking [{ v := .iface t0 (.int .i64 n), recovered := false }]) w fun e u' w' => u' = .panicking [{ v := .iface t0 (.int .i64 n), recovered := true }] ∧ ∃ V, e = .returned V ∧ AnsAt (gs n).args (gs n).res ((gs n).enc r) Z γ es w V w'
theorem capSt_vals {A : Ctx} {w0 : World} {F : NS} {γ : GM} {s : St} {a : Act} {w : World} (R : Rel A w0 F γ s a w) : ∀ {cs bs : List Nat}, capSt s cs = some bs →
    (∀ b ∈ bs, F b) ∧ cs.map (fun c => a.tmps.getD c undef) = bs.map fun b => match γ b with | some (g, base) => Value.pointer (some ⟨g, base, none⟩) | none => undef
  | [], bs, h => by
    simp only [capSt, Option.some.injEq] at h
    subst h
    exact ⟨fun b hb => by simp at hb, rfl⟩
  | c :: l, bs, h => by
    simp only [capSt] at h
    split at h
    · rename_i b hb
      split at h
      · rename_i r hr
        obtain rfl := Option.some.inj h
        obtain ⟨h1, h2⟩ := capSt_vals R hr
        have := R.slots c
        rw [hb] at this
        obtain ⟨k1, ⟨g, base, k2, k3⟩, _⟩ := this
        refine ⟨fun x hx => (List.mem_cons.1 hx).elim (fun e => e ▸ k1) (h1 x), ?_⟩
        simp only [List.map_cons, h2, k2, k3]
        simp
      · cases h
    · cases h
theorem Rel.re {A : Ctx} {w0 : World} {F : NS} {γ : GM} {s : St} {a : Act} {w : World} (R : Rel A w0 F γ s a w) {rt : List Nat} (h : ∀ b ∈ rt, F b) : Rel A w0 F γ { s with rt := rt } a w :=
  { R with rts := h }
/-- What was there is as it was. -/
theorem Rel.calm {A : Ctx} {w0 : World} {F : NS} {γ : GM} {s : St} {a : Act} {w w' : World} (R : Rel A w0 F γ s a w) (hbel : Bel (fun _ => False) w.heap.size w w') : Rel A w0 F γ s a w' := by
  have hb : ∀ g, g < w.heap.size → w'.heap[g]? = w.heap[g]? := fun g hg => hbel.block g hg id
  have hz : ∀ g, F.z g → w'.heap[g]? = w.heap[g]? := fun g hg => hb g (R.zok g hg).1
  have ms : MStep F γ s.mem w F γ s.mem w' := ⟨fun b h => h, fun b _ => rfl, fun b e _ he => ⟨e, he, rfl, rfl, rfl, fun _ _ h => h⟩, hbel.wst, fun g h => h, fun g h => hz g h⟩
  have hsz := hbel.size
  refine { below := R.below.call hbel R.below.size (fun g hg => hg.elim), memr := fun b e he => ?_, own := R.own, nofr := fun b e g base he ho hg => ?_, shr := R.shr, bnd := fun b e g base he hg => ?_, maps := fun b o kk vk es g base he hg => ?_, zok := fun g hg => ?_, rts := R.rts, defers := R.defers, size := R.size, slots := fun t => (R.slots t).step ms }
  · exact ⟨(R.memr b e he).1, (R.memr b e he).2.step ms rfl fun g base hg => hb g (R.bnd b e g base he hg)⟩
  · exact (R.nofr b e g base he ho hg).of (hb g (R.bnd b e g base he hg))
  · have := R.bnd b e g base he hg; omega
  · obtain ⟨ents, clock, y1, y2⟩ := R.maps b o kk vk es g base he hg
    exact ⟨ents, clock, (hb g (R.bnd b _ g base he hg)).trans y1, y2⟩
  · obtain ⟨z1, z2, z3⟩ := R.zok g hg
    exact ⟨by omega, z2, z3⟩
/-- Behind the body, by a return: the closure is called and does nothing. -/
theorem fin_ret {ds : List Deferred} {β : Type} {fn : Func} {args res : List PP} {us ur : List U} {r : β} {dec : List U → Option β} {Z : Nat → Prop} {γ : GM} {w : World} {Vs : List Value} {ps : List PV} {es : List Ent} (hdec : ∀ u, dec u = some r → ur = u) (hmk : mkPs 0 args us = some (ps, es, [])) (hA : All2 (RelP ⟨fun b => b < es.length, Z⟩ γ (memOf es) w) ps Vs) (hr0 : rootIds 0 args = []) {s1 : St}
    (h : (finR P fn es args res dec s1).den = some r) {a' : Act} {w' : World} {F' : NS} {γ' : GM} (R' : Rel ⟨Z, ownedOf γ es, ds⟩ w F' γ' s1 a' w') :
    ∃ v, (results fn a'.tmps).run P w' = .ok v w' ∧ ∃ V, Ending.returned v = .returned V ∧ AnsAt args res ur Z γ es w V w' :=
  answers hdec hmk hA h (R'.re (rt := []) (fun b hb => by simp at hb)) (by rw [hr0]; rfl)
/-- What a call comes to, part by part. -/
theorem exCall_den {sp : Spec} {l : List SV} {μ : Nat → Option Ent} {nid : Nat} {o : Out} (h : (exCall (some sp) l μ nid).den = some o) :
    ∃ ps us as r vs es ru, pvs l = some ps ∧ rdPs (updM μ (frz μ (frPs μ sp.args ps))) sp.args ps = some (us, as) ∧ okAsg as = true ∧ rootsOk sp.args ps = true ∧ sp.G us = some r ∧
      mkPs nid (sp.res ++ outsOf sp.args) (sp.enc r) = some (vs, es, []) ∧ es.length ≤ 64 ∧ rootUpd nid as es (rootIds 0 sp.args) (rootIds (entsPs sp.res) (outsOf sp.args)) = some ru ∧
      o = ⟨resSV (takeL (len sp.res) vs), frz μ (frPs μ sp.args ps) ++ (gone as ++ (entsUpd nid es ++ (ru ++ shIf (anyRo es || roPs (sp.res ++ outsOf sp.args)) (shared as (updM μ (frz μ (frPs μ sp.args ps)))))))⟩ := by
  unfold exCall at h
  simp only at h
  split at h
  case h_1 => exact (den_fail h).elim
  rename_i ps hps
  split at h
  case h_1 => exact (den_fail h).elim
  rename_i us as hrd
  split at h
  case h_1 => exact (den_fail h).elim
  rename_i hokk
  obtain ⟨hok, hrok⟩ : okAsg as = true ∧ rootsOk sp.args ps = true := by simpa using hokk
  simp only [T.den] at h
  cases hG : sp.G us with
  | none => rw [hG] at h; cases h
  | some r =>
  rw [hG] at h
  simp only [Option.bind_some] at h
  split at h
  case h_2 => exact (den_fail h).elim
  rename_i vs es hmk
  split at h
  case isFalse => exact (den_fail h).elim
  rename_i hes
  rw [len_eq] at hes
  split at h
  case h_2 => exact (den_fail h).elim
  rename_i ru hru
  simp only [T.den, Option.some.injEq] at h
  exact ⟨ps, us, as, r, vs, es, ru, hps, hrd, hok, hrok, hG, hmk, hes, hru, h.symm⟩
theorem slots_rel {A : Ctx} {w0 : World} {F : NS} {γ : GM} {s : St} {a : Act} {w : World} (R : Rel A w0 F γ s a w) : ∀ cs : List Nat, All2 (RelV F γ s.mem w) (cs.map fun c => nth undefS s.tmps c) (cs.map fun c => a.tmps.getD c undef)
  | [] => trivial
  | c :: l => ⟨R.slots c, slots_rel R l⟩
theorem fnR_ok (hmix : P.follows .mixedOrders = true) (hE : EnvOk P env) {f g : FuncId} {fn fg : Func} {sp : Spec} {c0 c1 c2 : Code} {rid : Nat} {mk df : Oper} {tf : Nat} {cs : List Nat} {t0 : Nat} {gs : Int → Spec} (hf : P.funcs[f]? = some fn) (hbody : fn.body = some (.seq c0 (.seq c1 (.seq (.region rid #[mk, df] false) c2))))
    (h0 : LpOk P lenv c0) (h1 : LpOk P lenv c1) (h2 : LpOk P lenv c2) (hmk1 : mk.op = .makeFunc (.func g) #[] (cs.map Operand.tmp).toArray) (hmk2 : mk.guard = none) (hmk3 : mk.dst = some tf) (hdf1 : df.op = .defer { callee := .value (.tmp tf), args := #[], argTypes := #[] }) (hdf2 : df.guard = none) (hdf3 : df.dst = none)
    (hg : P.funcs[g]? = some fg) (hgn : (fg.name == "runtime.NumGoroutine") = false) (hgb : fg.body.isNone = false) (hq : Quiet P g cs.length) (hm : Mends P g t0 gs) (hr0 : rootIds 0 sp.args = []) {dec : List U → Option sp.β}
    (hdec : ∀ u r, dec u = some r → sp.enc r = u) (hS : ∀ us r, sp.G us = some r → (runFR P env lenv fn sp.args sp.res c0 c1 c2 tf cs t0 gs dec us).den = some r) : FnOk P f sp := by
  intro us r hG Z γ w Vs ps es hmkp hA hM
  have h := hS us r hG
  unfold runFR at h
  rw [hmkp] at h
  simp only at h
  rw [T.den_bind] at h
  cases hx0 : (runC P env lenv c0 ⟨ps.map .pv ++ List.replicate (fn.ntmps - len ps) undefS, memOf es, len es, []⟩).den with
  | none => rw [hx0] at h; cases h
  | some z0 =>
  obtain ⟨e0, s0⟩ := z0
  rw [hx0] at h
  simp only [Option.bind_some] at h
  cases e0 with
  | exit i => exact (den_fail h).elim
  | ret => exact (den_fail h).elim
  | pan t n => exact (den_fail h).elim
  | normal =>
  simp only at h
  rw [T.den_bind] at h
  cases hx1 : (runC P env lenv c1 s0).den with
  | none => rw [hx1] at h; cases h
  | some z1 =>
  obtain ⟨e1, s1⟩ := z1
  rw [hx1] at h
  simp only [Option.bind_some] at h
  have hin : ∀ caps w', (invoke (.fn (.func g) caps) #[]).run P w' = .ok (.enter g caps) w' := fun caps w' => by
    have h2 : ¬ fg.name = "runtime.NumGoroutine" := by simpa using hgn
    have h3 : ¬ fg.body = none := fun h => by rw [h] at hgb; cases hgb
    simp [invoke, callFunc, hg, h2, h3]
  refine calls_of_wp_defers hf hbody ?_
  have R0 := (entry_rel (fn := fn) hA hM).re (rt := []) (fun b hb => by simp at hb)
  refine wp_seq (wp_mono (runC_ok hmix hE c0 h0 _ _ s0 hx0 _ w _ w _ γ R0 (fun b hb => by show b < len es; rw [len_eq]; exact hb)) ?_)
  rintro ex a1 w1 ⟨rfl, F1, γ1, R1, hF1, _⟩
  refine wp_seq (wp_mono (runC_ok hmix hE c1 h1 s0 e1 s1 hx1 _ w a1 w1 F1 γ1 R1 hF1) ?_)
  rintro ex a2 w2 ⟨rfl, F2, γ2, R2, hF2, _⟩
  cases e1 with
  | exit i => exact (den_fail h).elim
  | pan t n => exact (den_fail h).elim
  | ret =>
    show Leaves P fn a2.tmps _ a2.defers .returning w2
    rw [R2.defers]
    exact fin_ret (fun u hu => hdec u r hu) hmkp hA hr0 h R2
  | normal =>
  simp only at h
  split at h
  case h_2 => exact (den_fail h).elim
  rename_i bs hbs htf1
  have htfs : tf < a2.tmps.size := by
    rw [R2.size, ← len_eq]
    exact of_decide_eq_true htf1
  obtain ⟨hbF, hcaps⟩ := capSt_vals R2 hbs
  rw [T.den_bind] at h
  cases hx2 : (runC P env lenv c2 { s1 with tmps := put s1.tmps tf anyS, rt := bs }).den with
  | none => rw [hx2] at h; cases h
  | some z2 =>
  obtain ⟨e2, s2⟩ := z2
  rw [hx2] at h
  simp only [Option.bind_some] at h
  -- the closure is made, and deferred
  obtain ⟨caps, hcap⟩ : ∃ caps : Array Value, caps = (cs.map fun c => a2.tmps.getD c undef).toArray := ⟨_, rfl⟩
  show (Code.seq (.region rid #[mk, df] false) c2).wp P _ a2 w2
  refine wp_seq (wp_region_list ?_)
  show wpList P #[mk, df] _ [mk, df] a2 w2
  refine wpList_step fun K hK => ?_
  rw [if_pos (by simp [Region.wanted, hmk2])]
  have hex1 : (execOp a2.eval mk).run P w2 = .ok (.value (.func (.func g) #[] caps)) w2 := by
    have e : (cs.map Operand.tmp).toArray.map a2.eval = caps := by
      rw [hcap]
      apply Array.ext'
      simp [Act.eval]
    have hmf : ∀ (fn : Fn) (first cap : Array Value) (w : World), (Instr.makeFunc fn first cap).run P w = .ok (.func fn first cap) w := fun _ _ _ _ => rfl
    simp [execOp, hmk1, e, hmf]
  unfold Oper.wp
  rw [hex1, Oper.upon_value]
  refine hK _ _ ?_
  refine wpList_step fun K2 hK2 => ?_
  rw [if_pos (by simp [Region.wanted, hdf2])]
  have hev : (a2.put mk.dst (.func (.func g) #[] caps)).eval (.tmp tf) = .func (.func g) #[] caps := by
    rw [hmk3]
    show (a2.put (some tf) _).tmps.getD tf undef = _
    rw [put_tmps, if_pos ⟨rfl, htfs⟩]
  have hex2 : (execOp (a2.put mk.dst (.func (.func g) #[] caps)).eval df).run P w2 = .ok (.defer { target := .fn (.func g) caps, args := #[] }) w2 := by
    simp [execOp, hdf1, resolve, hev, Deferred.ofValue]
  unfold Oper.wp
  rw [hex2, Oper.upon_defer]
  refine hK2 _ _ (wpList_nil ?_)
  rw [hdf3]
  obtain ⟨a3, ha3⟩ : ∃ a3 : Act, a3 = ({ a2.put mk.dst (.func (.func g) #[] caps) with defers := { target := .fn (.func g) caps, args := #[] } :: (a2.put mk.dst (.func (.func g) #[] caps)).defers } : Act).put none undef := ⟨_, rfl⟩
  rw [← ha3]
  show c2.wp P _ a3 w2
  have hd3 : a3.defers = [{ target := .fn (.func g) caps, args := #[] }] := by
    rw [ha3, put_defers0]
    show _ :: (a2.put mk.dst _).defers = _
    rw [put_defers0, R2.defers]
  have ht3 : ∀ t, a3.tmps.getD t undef = if t = tf then .func (.func g) #[] caps else a2.tmps.getD t undef := fun t => by
    rw [ha3, put_tmps, if_neg (by simp)]
    show (a2.put mk.dst _).tmps.getD t undef = _
    rw [hmk3, put_tmps]
    by_cases e : t = tf
    · subst e; rw [if_pos ⟨rfl, htfs⟩, if_pos rfl]
    · rw [if_neg (by simp; intro h; exact absurd h.symm e), if_neg e]
  have hs3 : a3.tmps.size = a2.tmps.size := by
    rw [ha3, put_size]
    show (a2.put mk.dst _).tmps.size = _
    rw [put_size]
  have R3 : Rel ⟨Z, ownedOf γ es, [{ target := .fn (.func g) caps, args := #[] }]⟩ w F2 γ2 { s1 with tmps := put s1.tmps tf anyS, rt := bs } a3 w2 :=
    { below := R2.below, memr := R2.memr, own := R2.own, nofr := R2.nofr, shr := R2.shr, bnd := R2.bnd, maps := R2.maps, zok := R2.zok, rts := hbF, defers := hd3,
      size := by rw [hs3, R2.size]; simp [put_eq],
      slots := fun t => by
        rw [ht3]
        simp only [nth_put]
        by_cases e : t = tf
        · subst e
          rw [if_pos ⟨rfl, by rw [← R2.size]; exact htfs⟩]
          exact trivial
        · rw [if_neg (fun h => e h.1), if_neg e]
          exact R2.slots t }
  refine wp_mono (runC_ok hmix hE c2 h2 _ e2 s2 hx2 _ w a3 w2 F2 γ2 R3 hF2) ?_
  rintro ex a4 w4 ⟨rfl, F4, γ4, R4, hF4, hrt4⟩
  have hrt4 : s2.rt.map γ4 = bs.map γ2 := hrt4
  -- behind a return
  have back : (finR P fn es sp.args sp.res dec s2).den = some r → Leaves P fn a4.tmps (fun en w' => ∃ V, en = .returned V ∧ AnsAt sp.args sp.res (sp.enc r) Z γ es w V w') a4.defers .returning w4 := fun h => by
    rw [R4.defers]
    refine leaves_cons (by simp) (hin caps w4) ((hq caps w4 (by rw [hcap]; simp)).mono ?_)
    rintro e u' w' ⟨⟨v, rfl⟩, rfl, hbel⟩
    obtain ⟨v, q1, q2⟩ := fin_ret (fun u hu => hdec u r hu) hmkp hA hr0 h (R4.calm hbel)
    exact ⟨v, q1, q2⟩
  cases e2 with
  | exit i => exact (den_fail h).elim
  | ret => exact back h
  | normal => exact back h
  | pan t n =>
    simp only at h
    split at h
    case h_2 => exact (den_fail h).elim
    rename_i bs2 ht hbs2
    obtain rfl : t = t0 := by simpa using ht
    split at h
    case h_2 => exact (den_fail h).elim
    rename_i heq
    obtain rfl := listEq_spec heq
    rw [T.den_bind] at h
    cases hxc : (exCall (some (gs n)) (cs.map fun c => nth undefS s2.tmps c) s2.mem s2.nx).den with
    | none => rw [hxc] at h; cases h
    | some o =>
    rw [hxc] at h
    simp only [Option.bind_some] at h
    obtain ⟨ps2, us2, as2, r2, vs2, es2, ru2, k1, k2, k3, k4, k5, k6, k7, k8, rfl⟩ := exCall_den hxc
    obtain ⟨hbF2, hcaps2⟩ := capSt_vals R4 hbs2
    have hcapeq : (cs.map fun c => a4.tmps.getD c undef).toArray = caps := by
      rw [hcap, hcaps2, hcaps]
      congr 1
      have : ∀ (l m : List Nat), l.map γ4 = m.map γ2 → (l.map fun b => match γ4 b with | some (g, base) => Value.pointer (some ⟨g, base, none⟩) | none => undef) = m.map fun b => match γ2 b with | some (g, base) => Value.pointer (some ⟨g, base, none⟩) | none => undef := by
        intro l
        induction l with
        | nil => intro m hm; cases m with | nil => rfl | cons b m => simp at hm
        | cons b l ih =>
          intro m hm
          cases m with
          | nil => simp at hm
          | cons c m =>
            simp only [List.map_cons, List.cons.injEq] at hm
            simp only [List.map_cons, hm.1, ih m hm.2]
      exact this _ _ hrt4
    obtain ⟨Zc, γ0, ps', es', j1, j2, j3, j4⟩ := call_rel R4 (nid := s2.nx) (fun q h1 h2 hb => by have := hF4 q hb; omega) (slots_rel R4 cs) k1 k2 k3 k4 k6 k7 k8
    show Leaves P fn a4.tmps _ a4.defers (.panicking [{ v := .iface t (.int .i64 n), recovered := false }]) w4
    rw [R4.defers]
    refine leaves_cons (by simp) (hin caps w4) ?_
    rw [← hcapeq]
    refine (hm n us2 r2 k5 Zc γ0 w4 _ ps' es' j1 j2 j3).mono ?_
    rintro e u' w' ⟨rfl, V, rfl, hans⟩
    obtain ⟨F5, γ5, R5, _, _⟩ := j4 V w' hans none
    have R5 : Rel _ w F5 γ5 _ a4 w' := R5
    obtain ⟨v, q1, q2⟩ := fin_ret (fun u hu => hdec u r hu) hmkp hA hr0 h R5
    exact ⟨v, q1, q2⟩
/-- The closure behind its recover, at a return. -/
def quietR (P : Program) (env : FuncId → Option Spec) (lenv : Nat → Option LS) (nt tr : Nat) (c : Code) : Bool :=
  match (runC P env lenv c ⟨put (List.replicate nt anyS) tr (.pv (.one (.val .nilIface))), fun _ => none, 0, []⟩).den with
  | some (.normal, _) => true
  | some (.ret, _) => true
  | _ => false
/-- The closure behind its recover, at a panic. -/
def runCl (P : Program) (env : FuncId → Option Spec) (lenv : Nat → Option LS) (fg : Func) (args : List PP) {β : Type} (c : Code) (tr : Nat) (v : Value) (dec : List U → Option β) (us : List U) : T β :=
  match mkPs 0 args us with
  | some (ps, es, []) => (runC P env lenv c ⟨put (ps.map .pv ++ List.replicate (fg.ntmps - len ps) undefS) tr (.pv (.one (.val v))), memOf es, len es, rootIds 0 args⟩).bind fun (e, s) => match e with
      | .exit _ => .fail
      | .pan _ _ => .fail
      | _ => endFs es args [] dec s []
  | _ => .fail
theorem rec_run {o : Oper} {a : Act} {w : World} (h : o.op = .call { callee := .builtin .recover, args := #[], argTypes := #[] }) : (execOp a.eval o).run P w = .ok .recover w := by
  simp [execOp, h, resolve, invoke, builtin]
theorem quiet_ok (hmix : P.follows .mixedOrders = true) (hE : EnvOk P env) {g : FuncId} {fg : Func} {r0 tr k : Nat} {rc : Oper} {c : Code} (hg : P.funcs[g]? = some fg) (hb : fg.body = some (.seq (.region r0 #[rc] false) c)) (hrc : rc.op = .call { callee := .builtin .recover, args := #[], argTypes := #[] }) (hr2 : rc.guard = none) (hr3 : rc.dst = some tr)
    (hres : fg.results = #[]) (hl : LpOk P lenv c) (hk : k ≤ fg.ntmps) (hR : quietR P env lenv fg.ntmps tr c = true) : Quiet P g k := by
  intro caps w hsz
  refine callsD_of_wpS hg hb fun c₀ cs hu => ?_
  obtain ⟨e, s', he, hx⟩ : ∃ e s', (e = .normal ∨ e = .ret) ∧ (runC P env lenv c ⟨put (List.replicate fg.ntmps anyS) tr (.pv (.one (.val .nilIface))), fun _ => none, 0, []⟩).den = some (e, s') := by
    unfold quietR at hR
    split at hR
    · rename_i s' h; exact ⟨.normal, s', .inl rfl, h⟩
    · rename_i s' h; exact ⟨.ret, s', .inr rfl, h⟩
    · cases hR
  refine wpS_seq (wpS_region ?_)
  obtain ⟨a0, ha0⟩ : ∃ a0 : Act, a0 = { tmps := caps ++ Array.replicate (fg.ntmps - caps.size) undef, defers := [] } := ⟨_, rfl⟩
  rw [← ha0]
  have hrd : recoverD (c₀ :: cs) = none := by simp [recoverD, hu]
  have hstep : wpOpsS P #[rc] (Exit.thenS (c.wpS P (bodyPostS P fg c₀ cs fun e u' w' => (∃ v, e = .returned v) ∧ u' = .returning ∧ Bel (fun _ => False) w.heap.size w w')) (bodyPostS P fg c₀ cs fun e u' w' => (∃ v, e = .returned v) ∧ u' = .returning ∧ Bel (fun _ => False) w.heap.size w w')) [0] a0 (c₀ :: cs) w := by
    have hw : Region.wanted rc (yielded #[rc] a0.tmps) = true := by simp [Region.wanted, hr2]
    simp only [wpOpsS, List.getElem?_toArray, List.getElem?_cons_zero, hw, if_true, rec_run hrc, hrd]
    show c.wpS P _ (a0.put rc.dst .nilIface) (c₀ :: cs) w
    refine wpS_of_wp ?_
    have R : Rel ⟨fun _ => False, fun _ => False, []⟩ w ⟨fun _ => False, fun _ => False⟩ (fun _ => none) ⟨put (List.replicate fg.ntmps anyS) tr (.pv (.one (.val .nilIface))), fun _ => none, 0, []⟩ (a0.put rc.dst .nilIface) w :=
      { below := Bel.refl _ _, memr := fun b e h => (by cases h), own := fun b e g base h => (by cases h), nofr := fun b e g base h => (by cases h), shr := fun b e g base h => (by cases h), bnd := fun b e g base h => (by cases h), maps := fun b o kk vk es g base h => (by cases h), zok := fun g h => h.elim, rts := fun b h => (by simp at h),
        defers := by rw [put_defers0, ha0], size := by rw [put_size, ha0]; simp [put_eq]; omega,
        slots := fun t => by
          rw [hr3, put_tmps]
          simp only [nth_put]
          have hs : a0.tmps.size = fg.ntmps := by rw [ha0]; simp; omega
          by_cases h : t = tr ∧ tr < fg.ntmps
          · rw [if_pos (by simpa using h), if_pos ⟨by rw [h.1], by rw [hs, h.1]; exact h.2⟩]
            exact rfl
          · rw [if_neg (by simpa using h), if_neg (fun h2 => h ⟨(Option.some.inj h2.1).symm, by rw [Option.some.inj h2.1, ← hs]; exact h2.2⟩), nth_eq, List.getD_eq_getElem?_getD, List.getElem?_replicate]
            split
            · exact trivial
            · rename_i hlt
              rw [Array.getD_eq_getD_getElem?, Array.getElem?_eq_none (by rw [hs]; omega)]
              exact rfl }
    refine wp_mono (runC_ok hmix hE c hl _ e s' hx _ w _ w _ _ R (fun b hb => hb.elim)) ?_
    rintro ex a' w' ⟨rfl, F', γ', R', _, _⟩
    have fin : a'.defers = [] ∧ ∃ u', (c₀ :: cs) = { c₀ with mode := u' } :: cs ∧ ∃ v, (results fg a'.tmps).run P w' = .ok v w' ∧ (∃ v0, Ending.returned v = .returned v0) ∧ u' = .returning ∧ Bel (fun _ => False) w.heap.size w w' :=
      ⟨R'.defers, .returning, by rw [← hu], .tuple #[], by simp [results, hres], ⟨_, rfl⟩, rfl, R'.below⟩
    rcases he with rfl | rfl
    · exact fin
    · exact fin
  simpa using hstep
theorem mends_ok (hmix : P.follows .mixedOrders = true) (hE : EnvOk P env) {g : FuncId} {fg : Func} {r0 tr t0 : Nat} {rc : Oper} {c : Code} {gs : Int → Spec} (hg : P.funcs[g]? = some fg) (hb : fg.body = some (.seq (.region r0 #[rc] false) c)) (hrc : rc.op = .call { callee := .builtin .recover, args := #[], argTypes := #[] }) (hr2 : rc.guard = none) (hr3 : rc.dst = some tr)
    (hres : fg.results = #[]) (hl : LpOk P lenv c) (hres2 : ∀ n, (gs n).res = []) {dec : ∀ n, List U → Option (gs n).β} (hdec : ∀ n u r, dec n u = some r → (gs n).enc r = u)
    (hS : ∀ n us r, (gs n).G us = some r → (runCl P env lenv fg (gs n).args c tr (.iface t0 (.int .i64 n)) (dec n) us).den = some r) : Mends P g t0 gs := by
  intro n us r hG Z γ w Vs ps es hmk hA hM
  have h := hS n us r hG
  unfold runCl at h
  rw [hmk] at h
  simp only at h
  rw [T.den_bind] at h
  cases hx : (runC P env lenv c ⟨put (ps.map .pv ++ List.replicate (fg.ntmps - len ps) undefS) tr (.pv (.one (.val (.iface t0 (.int .i64 n))))), memOf es, len es, rootIds 0 (gs n).args⟩).den with
  | none => rw [hx] at h; cases h
  | some z =>
  obtain ⟨e, s'⟩ := z
  rw [hx] at h
  simp only [Option.bind_some] at h
  have h2 : ((resPVs P s' fg.results.toList).bind fun vs => endFs es (gs n).args (gs n).res (dec n) s' vs).den = some r := by
    rw [hres, hres2]
    cases e with
    | normal => exact h
    | ret => exact h
    | exit i => exact (den_fail h).elim
    | pan t k => exact (den_fail h).elim
  have he : e = .normal ∨ e = .ret := by
    cases e with
    | normal => exact .inl rfl
    | ret => exact .inr rfl
    | exit i => exact (den_fail h).elim
    | pan t k => exact (den_fail h).elim
  refine callsD_of_wpS hg hb fun c₀ cs hu => ?_
  refine wpS_seq (wpS_region ?_)
  obtain ⟨a0, ha0⟩ : ∃ a0 : Act, a0 = { tmps := Vs.toArray ++ Array.replicate (fg.ntmps - Vs.toArray.size) undef, defers := [] } := ⟨_, rfl⟩
  rw [← ha0]
  have E := entry_rel (fn := fg) hA hM
  rw [← ha0] at E
  obtain ⟨pe, hpe⟩ : ∃ pe : List PanicEntry, pe = [{ v := .iface t0 (.int .i64 n), recovered := true }] := ⟨_, rfl⟩
  have hrd : recoverD (c₀ :: cs) = some (.iface t0 (.int .i64 n), { c₀ with mode := .panicking pe } :: cs) := by rw [hpe]; simp [recoverD, hu]
  rw [← hpe]
  have hstep : wpOpsS P #[rc] (Exit.thenS (c.wpS P (bodyPostS P fg c₀ cs fun e u' w' => u' = .panicking pe ∧ ∃ V, e = .returned V ∧ AnsAt (gs n).args (gs n).res ((gs n).enc r) Z γ es w V w')) (bodyPostS P fg c₀ cs fun e u' w' => u' = .panicking pe ∧ ∃ V, e = .returned V ∧ AnsAt (gs n).args (gs n).res ((gs n).enc r) Z γ es w V w')) [0] a0 (c₀ :: cs) w := by
    have hw : Region.wanted rc (yielded #[rc] a0.tmps) = true := by simp [Region.wanted, hr2]
    simp only [wpOpsS, List.getElem?_toArray, List.getElem?_cons_zero, hw, if_true, rec_run hrc, hrd]
    show c.wpS P _ (a0.put rc.dst (.iface t0 (.int .i64 n))) ({ c₀ with mode := .panicking pe } :: cs) w
    refine wpS_of_wp ?_
    have R : Rel ⟨Z, ownedOf γ es, []⟩ w ⟨fun b => b < es.length, Z⟩ γ ⟨put (ps.map .pv ++ List.replicate (fg.ntmps - len ps) undefS) tr (.pv (.one (.val (.iface t0 (.int .i64 n))))), memOf es, len es, rootIds 0 (gs n).args⟩ (a0.put rc.dst (.iface t0 (.int .i64 n))) w := by
      have := E.putV (some tr) (v := .pv (.one (.val (.iface t0 (.int .i64 n))))) (V := .iface t0 (.int .i64 n)) rfl
      rw [hr3]
      exact this
    refine wp_mono (runC_ok hmix hE c hl _ e s' hx _ w _ w _ γ R (fun b hb => by show b < len es; rw [len_eq]; exact hb)) ?_
    rintro ex a' w' ⟨rfl, F', γ', R', _, hrt⟩
    obtain ⟨v, q1, q2⟩ := answers (fn := fg) (fun u hu => hdec n u r hu) hmk hA h2 R' hrt
    have fin : a'.defers = [] ∧ ∃ u', ({ c₀ with mode := .panicking pe } :: cs) = { c₀ with mode := u' } :: cs ∧ ∃ v, (results fg a'.tmps).run P w' = .ok v w' ∧ u' = .panicking pe ∧ ∃ V, Ending.returned v = .returned V ∧ AnsAt (gs n).args (gs n).res ((gs n).enc r) Z γ es w V w' :=
      ⟨R'.defers, _, rfl, v, q1, rfl, q2⟩
    rcases he with rfl | rfl
    · exact fin
    · exact fin
  simpa using hstep
end
end Go.Proofs.Ytmmaechogibodaa.Vm
