import Derived.Test.YtmmaechogibodaaVmY
import Derived.Test.YtmmaechogibodaaVmRc
import Derived.Test.YtmmaechogibodaaVmCl
import Derived.Test.YtmmaechogibodaaProg
import Derived.Test.YtmmaechogibodaaVmRg
import Derived.Test.YtmmaechogibodaaFA
import Derived.Test.YtmmaechogibodaaFB
import Derived.Test.YtmmaechogibodaaFV
import Derived.Test.YtmmaechogibodaaFC
import Derived.Test.YtmmaechogibodaaFD
import Derived.Test.YtmmaechogibodaaFE
import Derived.Test.YtmmaechogibodaaFG
import Derived.Test.YtmmaechogibodaaFH
namespace Go.Proofs.Ytmmaechogibodaa.F
open Go Go.Proofs.Ytmmaechogibodaa.Vm
set_option maxRecDepth 1000000
set_option linter.unusedVariables false
set_option linter.unusedSimpArgs false
noncomputable section
namespace At
variable {F : NS} {γ : GM} {s : St} {a : Act} {ws : World} {A : Ctx} {w0 : World}
theorem notIn {n : Nat} {t : Act} {W : World} {K : Act → World → Prop} {Q : Exit → Act → World → Prop} {b : Bool} (h : t.tmps.getD 17 undef = .bool b) (hK : K (t.put (some 18) (.bool (!b))) W) : opN.wpIn Fence.wide n P t W K Q := by
  obtain ⟨o1, o2, o3⟩ := opN_eq
  have e : (execOp t.eval opN).run P W = .ok (.value (.bool (!b))) W := by
    have h' : t.eval (.tmp 17) = .bool b := h
    simp only [execOp, o1, h']
    rfl
  unfold Oper.wpIn
  refine ⟨fun _ _ => trivial, ?_⟩
  show opN.uponIn Fence.wide n P t K Q ((execOp t.eval opN).run P W)
  rw [e]
  show K (t.put opN.dst (.bool (!b))) W
  rw [o3]; exact hK
theorem yieldIn {n : Nat} {t : Act} {W : World} {K : Act → World → Prop} {Q : Exit → Act → World → Prop} {l fn : Nat} {tm : Array Value} {asc bd : Code} {v1 v2 : Value} (h11 : t.tmps.getD 11 undef = .func (.yield l) #[] #[]) (h12 : t.tmps.getD 12 undef = v1) (h16 : t.tmps.getD 16 undef = v2)
    (hy : (Instr.yield l #[v1, v2]).run P W = .ok (.round l fn tm asc bd) W) (hR : RoundIn Fence.wide (n - 1) P l fn tm asc bd W fun e W' => ∃ b, e = .returned (.bool b) ∧ K (t.put (some 17) (.bool b)) W') : opY.wpIn Fence.wide n P t W K Q := by
  obtain ⟨o1, o2, o3⟩ := opY_eq
  have e : (execOp t.eval opY).run P W = .ok (.round l fn tm asc bd) W := by
    have h1 : t.eval (.tmp 11) = .func (.yield l) #[] #[] := h11
    have h2 : t.eval (.tmp 12) = v1 := h12
    have h3 : t.eval (.tmp 16) = v2 := h16
    simp only [execOp, o1, resolve, h1, Deferred.ofValue, Sem.run_bind, Sem.run_pure, Result.andThen_ok, invoke, List.map_toArray, List.map_cons, List.map_nil, h2, h3]
    simp only [Array.empty_append, Array.append_empty]
    exact hy
  unfold Oper.wpIn
  refine ⟨fun _ _ => trivial, ?_⟩
  show opY.uponIn Fence.wide n P t K Q ((execOp t.eval opY).run P W)
  rw [e]
  refine ⟨fun h => (by cases h), hR.mono fun e W' he => ?_⟩
  obtain ⟨b, rfl, hk⟩ := he
  show K (t.put opY.dst (.bool b)) W'
  rw [o3]; exact hk
end At
end
end Go.Proofs.Ytmmaechogibodaa.F
