/- What a printed text stands on: functions told one behind the other, the loops of a text. Conditions: none here. -/
import Derived.Test.YtmmaechogibodaaVmW
set_option linter.unusedVariables false
set_option linter.unusedSimpArgs false
namespace Go.Proofs.Ytmmaechogibodaa.Vm
open Go Go.RowKit

section
variable {P : Program} {env : FuncId → Option Spec} {lenv : Nat → Option LS}
def env0 : FuncId → Option Spec := fun _ => none
def addS (e : FuncId → Option Spec) (f : FuncId) (s : Spec) : FuncId → Option Spec := fun g => match g == f with | true => some s | false => e g
def lenv0 : Nat → Option LS := fun _ => none
def addL (e : Nat → Option LS) (k : Nat) (l : LS) : Nat → Option LS := fun g => match g == k with | true => some l | false => e g
theorem env0_ok : EnvOk P env0 := fun f sp h => by cases h
theorem addS_ok {f : FuncId} {s : Spec} (hE : EnvOk P env) (h : (Callable P (f % 1000000) ∧ FnOk P (f % 1000000) s) ∨ ExtOk P (f % 1000000) s) (hf : f < 2000000 := by decide) : EnvOk P (addS env f s) := fun g sp hg => by
  unfold addS at hg
  split at hg
  · rename_i hgf
    obtain rfl := Option.some.inj hg
    obtain rfl : g = f := by simpa using hgf
    exact ⟨fun _ => h, fun h2 => absurd hf (Nat.not_lt.2 h2)⟩
  · exact hE g sp hg
/-- A function that may panic stands apart. -/
def addP (e : FuncId → Option Spec) (f : FuncId) (s : Spec) : FuncId → Option Spec := fun g => match g == f + 2000000 with | true => some s | false => e g
theorem addP_ok {f : FuncId} {s : Spec} (hE : EnvOk P env) (h : Callable P f ∧ PFnOk P f s) (hf : f < 1000000 := by decide) : EnvOk P (addP env f s) := fun g sp hg => by
  unfold addP at hg
  split at hg
  · rename_i hgf
    obtain rfl := Option.some.inj hg
    obtain rfl : g = f + 2000000 := by simpa using hgf
    exact ⟨fun h2 => absurd h2 (Nat.not_lt.2 (Nat.le_add_left _ _)), fun _ => by rw [pkey_mod f hf]; exact h⟩
  · exact hE g sp hg
theorem callable {f : FuncId} {fn : Func} (hf : P.funcs[f]? = some fn) (h1 : (fn.name == "runtime.NumGoroutine") = false) (h2 : fn.body.isNone = false) : Callable P f := ⟨fn, hf, h1, h2⟩
/-- Which of two: told apart by the kernel at once. -/
abbrev bi {α : Type} (c : Bool) (a b : α) : α := match c with | true => a | false => b
theorem bi_eq {α : Type} (c : Bool) (a b : α) : bi c a b = if c = true then a else b := by cases c <;> rfl
def T.den2 {α : Type} : T α → Option α
  | .ret a => some a
  | .fail => none
  | .ite c t e => bi c t.den2 e.den2
  | .bnd o k => o.bind fun r => (k r).den2
  | .cas o k l => casO o (fun r => (k r).den2) (fun r => (l r).den2)
  | .opn o => o
theorem den2_eq {α : Type} (t : T α) : t.den2 = t.den := by
  induction t with
  | ret a => rfl
  | fail => rfl
  | ite c t e iht ihe => simp only [T.den2, T.den, bi_eq, iht, ihe]
  | bnd o k ih => simp only [T.den2, T.den, ih]
  | cas o k l ihk ihl => simp only [T.den2, T.den, ihk, ihl]
  | opn o => rfl
/-- The text of a function. -/
def bodyOf (fn : Func) : Code := match fn.body with | some c => c | none => .skip
/-- The loops of a text that stand in no other one. -/
def loopsOf : Code → List Code
  | .seq a b => loopsOf a ++ loopsOf b
  | .cond _ a b => loopsOf a ++ loopsOf b
  | .block _ c => loopsOf c
  | .loop c => [c]
  | _ => []
def lp (c : Code) (i : Nat) : Code := nth .skip (loopsOf c) i
theorem lpOk_of : ∀ (c : Code), (∀ b ∈ loopsOf c, ∀ k ls, key b = some k → lenv k = some ls → LoopOk P b ls) → LpOk P lenv c
  | .seq a b, h => ⟨lpOk_of a fun x hx => h x (by simp [loopsOf, hx]), lpOk_of b fun x hx => h x (by simp [loopsOf, hx])⟩
  | .cond _ a b, h => ⟨lpOk_of a fun x hx => h x (by simp [loopsOf, hx]), lpOk_of b fun x hx => h x (by simp [loopsOf, hx])⟩
  | .block _ c, h => lpOk_of c h
  | .loop c, h => h c (by simp [loopsOf])
  | .skip, _ => trivial
  | .region .., _ => trivial
  | .rangeFunc .., _ => trivial
  | .exit _, _ => trivial
  | .scope _, _ => trivial
  | .label _, _ => trivial
  | .goto _, _ => trivial
  | .ret, _ => trivial
  | .refuse _, _ => trivial
/-- What is known of some loops. -/
def LoopsAre (P : Program) (lenv : Nat → Option LS) : List Code → Prop
  | [] => True
  | b :: l => (∃ k ls, key b = some k ∧ lenv k = some ls ∧ LoopOk P b ls) ∧ LoopsAre P lenv l
theorem loopsAre_mem : ∀ {l : List Code}, LoopsAre P lenv l → ∀ b ∈ l, ∀ k ls, key b = some k → lenv k = some ls → LoopOk P b ls
  | [], _, b, hb, _, _, _, _ => by simp at hb
  | c :: l, ⟨⟨k0, ls0, h1, h2, h3⟩, h⟩, b, hb, k, ls, hk, hls => by
    rcases List.mem_cons.1 hb with rfl | hb
    · rw [h1] at hk; obtain rfl := Option.some.inj hk
      rw [h2] at hls; obtain rfl := Option.some.inj hls
      exact h3
    · exact loopsAre_mem h b hb k ls hk hls
theorem lps_ok {c : Code} {l : List Code} (hl : loopsOf c = l) (h : LoopsAre P lenv l) : LpOk P lenv c := lpOk_of c (hl ▸ loopsAre_mem h)
theorem lps_fn {fn : Func} {l : List Code} (hl : loopsOf (bodyOf fn) = l) (h : LoopsAre P lenv l) : ∀ c, fn.body = some c → LpOk P lenv c := fun c hc => by
  have : bodyOf fn = c := by unfold bodyOf; rw [hc]
  rw [this] at hl
  exact lps_ok hl h
/-- 'fn_ok' with the parts of what is known said one by one. -/
theorem fn_ok' {env : FuncId → Option Spec} (hmix : P.follows .mixedOrders = true) (hE : EnvOk P env) {f : FuncId} {fn : Func} {args res : List PP} {β : Type} {G : List U → Option β} {enc : β → List U} {dec : List U → Option β} (hf : P.funcs[f]? = some fn) (hlp : ∀ c, fn.body = some c → LpOk P lenv c)
    (hdec : ∀ u r, dec u = some r → enc r = u) (hS : ∀ us r, G us = some r → (runF P env lenv fn args res dec us).den = some r) : FnOk P f ⟨args, res, β, G, enc⟩ :=
  fn_ok (sp := ⟨args, res, β, G, enc⟩) hmix hE hf hlp (dec := dec) hdec hS
theorem fnP_ok' {env : FuncId → Option Spec} (hmix : P.follows .mixedOrders = true) (hE : EnvOk P env) {f : FuncId} {fn : Func} {args res : List PP} {β : Type} {G : List U → Option β} {enc : β → List U} {t0 : Nat} {junk : List U} {dec : Bool → Int → List U → Option β} (hf : P.funcs[f]? = some fn) (hlp : ∀ c, fn.body = some c → LpOk P lenv c)
    (hdec : ∀ ok n u r, dec ok n u = some r → enc r = .b ok :: .i t0 :: .i n :: u) (hS : ∀ us r, G us = some r → (runFP P env lenv fn args res t0 dec junk us).den = some r) : PFnOk P f ⟨args, res, β, G, enc⟩ :=
  fnP_ok (sp := ⟨args, res, β, G, enc⟩) hmix hE hf hlp (dec := dec) hdec hS
end
end Go.Proofs.Ytmmaechogibodaa.Vm
