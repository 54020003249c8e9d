/- The laws of package dec: every sum, difference, order, sign and opposite. Conditions: a decimal's parts are int64 and uint64, a scale is an int64. -/
import Derived.Test.YtelnigjdfgdapaaPLc
set_option linter.unusedVariables false
set_option linter.unusedSimpArgs false
namespace Go.Proofs.Ytelnigjdfgdapaa.Wide
open Go Go.RowKit Go.Proofs.Ytelnigjdfgdapaa.Vm
theorem DecSums {K : Nat} (hK : 40000 ≤ K) {a0 a1 a2 b0 b1 b2 : Int} (ia : I64 a0) (la : Word a1) (ib : I64 b0) (lb : Word b1) : F.law01_DecSums K a0 a1 a2 b0 b1 b2 = some true := by
  have e1 := dadd_ok (by omega : 400 ≤ K) ia la ib lb (a2 := a2) (b2 := b2)
  have e2 := docadd_ok hK ia la ib lb (a2 := a2) (b2 := b2) (sub := false)
  have e3 := dsub_ok (by omega : 400 ≤ K) ia la ib lb (a2 := a2) (b2 := b2)
  have e4 := docadd_ok hK ia la ib lb (a2 := a2) (b2 := b2) (sub := true)
  simp only [Bool.false_eq_true, if_false, if_true] at e2 e4
  rw [← Int.sub_eq_add_neg, ← e3] at e4
  rw [← e1] at e2
  have e5 := dcmp_ok (by omega : 400 ≤ K) ia la ib lb (a2 := a2) (b2 := b2)
  have e6 := doccmp_ok hK ia la ib lb (a2 := a2) (b2 := b2)
  have e7 := neg_ok (by omega : 7 ≤ K) ia la (sc := a2)
  have e8 := docneg_ok hK ia la (a2 := a2)
  have e9 := sign_ok K ia la (sc := a2)
  have e10 := docsign_ok hK ia la (a2 := a2)
  unfold F.law01_DecSums
  rw [e2, e4, e5, e6, e7, e8, e9, e10, e1, e3, check_ok, form_ok, awake_ok (by omega)]
  simp only [Option.bind_some]
  by_cases d : Fm a0 a1 a2 <;> simp [d]
namespace L
theorem DecSums {a0 a1 a2 b0 b1 b2 : Int} (w0 : (Lit.int .i64 a0).wf = true) (w1 : (Lit.int .u64 a1).wf = true) (w2 : (Lit.int .i64 a2).wf = true) (v0 : (Lit.int .i64 b0).wf = true) (v1 : (Lit.int .u64 b1).wf = true) (v2 : (Lit.int .i64 b2).wf = true) : F.law01_DecSums 100000 a0 a1 a2 b0 b1 b2 = some true :=
  Wide.DecSums (by decide) (wfI64 w0) (wfU64 w1) (wfI64 v0) (wfU64 v1)
end L
end Go.Proofs.Ytelnigjdfgdapaa.Wide
