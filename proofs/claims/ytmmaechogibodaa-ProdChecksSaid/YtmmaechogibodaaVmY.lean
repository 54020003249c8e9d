-- VmY: what is known of math/bits' two functions without a Go body
import Derived.Test.YtmmaechogibodaaVmX
import Derived.Laws.Externs
namespace Go.Proofs.Ytmmaechogibodaa.Vm
open Go
variable {P : Program}
/-- The table of math/bits.Len8. -/
def len8tab : ByteArray := ⟨#[0, 1, 2, 2, 3, 3, 3, 3, 4, 4, 4, 4, 4, 4, 4, 4, 5, 5, 5, 5, 5, 5, 5, 5, 5, 5, 5, 5, 5, 5, 5, 5, 6, 6, 6, 6, 6, 6, 6, 6, 6, 6, 6, 6, 6, 6, 6, 6, 6, 6, 6, 6, 6, 6, 6, 6, 6, 6, 6, 6, 6, 6, 6, 6,
  7, 7, 7, 7, 7, 7, 7, 7, 7, 7, 7, 7, 7, 7, 7, 7, 7, 7, 7, 7, 7, 7, 7, 7, 7, 7, 7, 7, 7, 7, 7, 7, 7, 7, 7, 7, 7, 7, 7, 7, 7, 7, 7, 7, 7, 7, 7, 7, 7, 7, 7, 7, 7, 7, 7, 7, 7, 7, 7, 7, 7, 7, 7, 7,
  8, 8, 8, 8, 8, 8, 8, 8, 8, 8, 8, 8, 8, 8, 8, 8, 8, 8, 8, 8, 8, 8, 8, 8, 8, 8, 8, 8, 8, 8, 8, 8, 8, 8, 8, 8, 8, 8, 8, 8, 8, 8, 8, 8, 8, 8, 8, 8, 8, 8, 8, 8, 8, 8, 8, 8, 8, 8, 8, 8, 8, 8, 8, 8,
  8, 8, 8, 8, 8, 8, 8, 8, 8, 8, 8, 8, 8, 8, 8, 8, 8, 8, 8, 8, 8, 8, 8, 8, 8, 8, 8, 8, 8, 8, 8, 8, 8, 8, 8, 8, 8, 8, 8, 8, 8, 8, 8, 8, 8, 8, 8, 8, 8, 8, 8, 8, 8, 8, 8, 8, 8, 8, 8, 8, 8, 8, 8, 8]⟩
abbrev m64 : Int := 18446744073709551616
def add64 (x y c : Int) : Option (Int × Int) := if decide (0 ≤ x) && decide (0 ≤ y) && decide (0 ≤ c) && decide (c ≤ 1) then some ((x + y + c) % m64, (x + y + c) / m64) else none
def add64G : List U → Option (Int × Int)
  | [.i x, .i y, .i c] => add64 x y c
  | _ => none
def sub64 (x y c : Int) : Option (Int × Int) := if decide (0 ≤ x) && decide (0 ≤ y) && decide (y < m64) && decide (0 ≤ c) && decide (c ≤ 1) then some ((x - y - c) % m64, if x < y + c then 1 else 0) else none
def sub64G : List U → Option (Int × Int)
  | [.i x, .i y, .i c] => sub64 x y c
  | _ => none
def add64S : Spec := ⟨[.one (.int .u64), .one (.int .u64), .one (.int .u64)], [.one (.int .u64), .one (.int .u64)], Int × Int, add64G, fun r => [.i r.1, .i r.2]⟩
def sub64S : Spec := ⟨[.one (.int .u64), .one (.int .u64), .one (.int .u64)], [.one (.int .u64), .one (.int .u64)], Int × Int, sub64G, fun r => [.i r.1, .i r.2]⟩
def sub64Entry : Array Value → Sem Value := fun args => do
  let (x, y, b) ← Extern.MathBitsCarry.three "Sub64" args
  pure (Extern.MathBitsCarry.pair ((x + Extern.MathBitsCarry.m64 - y - b) % Extern.MathBitsCarry.m64) (if x < y + b then 1 else 0))
theorem run_sub64 (x y b : Nat) (hb : b ≤ 1) (w : World) : (sub64Entry #[.int .u64 x, .int .u64 y, .int .u64 b]).run P w = .ok (.tuple #[.int .u64 (((x + 18446744073709551616 - y - b) % 18446744073709551616 : Nat) : Int), .int .u64 ((if x < y + b then 1 else 0 : Nat) : Int)]) w := by
  have : b = 0 ∨ b = 1 := by omega
  rcases this with rfl | rfl <;> rfl
theorem three_ok {f : FuncId} {G : List U → Option (Int × Int)} (h : ∀ x y c r, G [.i x, .i y, .i c] = some r → ∀ w, (callFunc f #[.int .u64 x, .int .u64 y, .int .u64 c]).run P w = .ok (.value (.tuple #[.int .u64 r.1, .int .u64 r.2])) w) :
    (hG : ∀ us r, G us = some r → ∃ x y c, us = [.i x, .i y, .i c]) →
    ExtOk P f ⟨[.one (.int .u64), .one (.int .u64), .one (.int .u64)], [.one (.int .u64), .one (.int .u64)], Int × Int, G, fun r => [.i r.1, .i r.2]⟩ := by
  intro hG
  refine ⟨rfl, fun us r hr ps es hps => ?_⟩
  obtain ⟨x, y, c, rfl⟩ := hG us r hr
  have e : mkPs 0 [.one (.int .u64), .one (.int .u64), .one (.int .u64)] [.i x, .i y, .i c] = some ([.one (.val (.int .u64 x)), .one (.val (.int .u64 y)), .one (.val (.int .u64 c))], [], []) := rfl
  rw [e] at hps
  obtain ⟨rfl, rfl⟩ := by simpa using hps
  exact ⟨[.int .u64 x, .int .u64 y, .int .u64 c], .tuple #[.int .u64 r.1, .int .u64 r.2], [.one (.val (.int .u64 r.1)), .one (.val (.int .u64 r.2))], rfl, rfl, fun w => h x y c r hr w, rfl, fun q => rfl, fun F γ m w => ⟨_, rfl, rfl, rfl, trivial⟩⟩
theorem add64_ext {f : FuncId} {fn : Func} (hf : P.funcs[f]? = some fn) (hname : (fn.name == "runtime.NumGoroutine") = false) (hb : fn.body.isNone = true) (hn : Extern.findNext fn = none) (he : Extern.find fn = some add64Entry) : ExtOk P f add64S := by
  refine three_ok (G := add64G) ?_ ?_
  · intro x y c r h w
    simp only [add64G, add64] at h; split at h
    · next hc =>
      obtain rfl := Option.some.inj h
      simp only [Bool.and_eq_true, decide_eq_true_eq] at hc
      rw [run_callFunc_extern hf hname hb hn he, run_add64 x y c hc.1.1.1 hc.1.1.2 hc.1.2 hc.2]
      rfl
    · cases h
  · intro us r h
    unfold add64G at h; split at h
    · exact ⟨_, _, _, rfl⟩
    · cases h
theorem sub64_ext {f : FuncId} {fn : Func} (hf : P.funcs[f]? = some fn) (hname : (fn.name == "runtime.NumGoroutine") = false) (hb : fn.body.isNone = true) (hn : Extern.findNext fn = none) (he : Extern.find fn = some sub64Entry) : ExtOk P f sub64S := by
  refine three_ok (G := sub64G) ?_ ?_
  · intro x y c r h w
    simp only [sub64G, sub64] at h; split at h
    · next hc =>
      obtain rfl := Option.some.inj h
      simp only [Bool.and_eq_true, decide_eq_true_eq] at hc
      obtain ⟨⟨⟨⟨h1, h2⟩, h3⟩, h4⟩, h5⟩ := hc
      obtain ⟨x, rfl⟩ := Int.eq_ofNat_of_zero_le h1
      obtain ⟨y, rfl⟩ := Int.eq_ofNat_of_zero_le h2
      obtain ⟨b, rfl⟩ := Int.eq_ofNat_of_zero_le h4
      have e1 : (((x + 18446744073709551616 - y - b) % 18446744073709551616 : Nat) : Int) = ((x : Int) - y - b) % 18446744073709551616 := by unfold m64 at h3; omega
      have e2 : ((if x < y + b then 1 else 0 : Nat) : Int) = if (x : Int) < y + b then 1 else 0 := by split <;> split <;> omega
      rw [run_callFunc_extern hf hname hb hn he, run_sub64 x y b (by omega), e1, e2]
      rfl
    · cases h
  · intro us r h
    unfold sub64G at h; split at h
    · exact ⟨_, _, _, rfl⟩
    · cases h
end Go.Proofs.Ytmmaechogibodaa.Vm
