/- The laws of package dec: sums, products, quotients, rounding, whole numbers are the reference's. Conditions: a decimal's parts are int64 and uint64, a scale is an int64. -/
import Derived.Test.YtelnigjdfgdapaaFC
import Derived.Test.YtelnigjdfgdapaaPRj
set_option linter.unusedVariables false
set_option linter.unusedSimpArgs false
namespace Go.Proofs.Ytelnigjdfgdapaa.Wide
open Go Go.RowKit Go.Proofs.Ytelnigjdfgdapaa.Vm
-- numbers within their kinds
theorem wfI64 {x : Int} (h : (Lit.int .i64 x).wf = true) : I64 x := by simp [Lit.wf, IntKind.min, IntKind.max, IntKind.signed, IntKind.bits] at h; unfold I64; omega
theorem wfU64 {x : Int} (h : (Lit.int .u64 x).wf = true) : Word x := by simp [Lit.wf, IntKind.min, IntKind.max, IntKind.signed, IntKind.bits] at h; unfold Word; omega
theorem wfI32 {x : Int} (h : (Lit.int .i32 x).wf = true) : -2147483648 ≤ x ∧ x ≤ 2147483647 := by simp [Lit.wf, IntKind.min, IntKind.max, IntKind.signed, IntKind.bits] at h; omega
theorem wfU8 {x : Int} (h : (Lit.int .u8 x).wf = true) : 0 ≤ x ∧ x ≤ 255 := by simp [Lit.wf, IntKind.min, IntKind.max, IntKind.signed, IntKind.bits] at h; omega
theorem awake_ok {K : Nat} (hK : 400 ≤ K) : F.law01_awake K = some true := by
  have e1 : F.dec_Add K 0 15 1 0 25 2 = some (0, 175, 2, 0) := by rw [dadd_ok hK (by decide) (by decide) (by decide) (by decide)]; rfl
  have e2 : F.dec_Quo K 0 1 0 0 3 0 4 1 = some (0, 3334, 4, 0) := by rw [dquo_ok hK (by decide) (by decide) (by decide) (by decide)]; rfl
  have e3 : F.dec_Rescale K (-1) 18446744073709551591 1 0 2 = some (-1, 18446744073709551613, 0, 0) := by rw [drescale_ok hK (by decide) (by decide)]; rfl
  unfold F.law01_awake
  rw [e1, Option.bind_some, e2, Option.bind_some, e3, Option.bind_some]
  rfl
theorem DecRounds {K : Nat} (hK : 40000 ≤ K) {a0 a1 a2 s m : Int} (ia : I64 a0) (la : Word a1) : F.law01_DecRounds K a0 a1 a2 s m = some true := by
  unfold F.law01_DecRounds
  rw [drescale_ok (by omega) ia la, Option.bind_some, docrescale_ok hK ia la, Option.bind_some, awake_ok (by omega), Option.bind_some]
  simp
theorem DecQuotients {K : Nat} (hK : 40000 ≤ K) {a0 a1 a2 b0 b1 b2 s m : Int} (ia : I64 a0) (la : Word a1) (ib : I64 b0) (lb : Word b1) : F.law01_DecQuotients K a0 a1 a2 b0 b1 b2 s m = some true := by
  unfold F.law01_DecQuotients
  rw [dquo_ok (by omega) ia la ib lb, Option.bind_some, docquo_ok hK ia la ib lb, Option.bind_some, awake_ok (by omega), Option.bind_some]
  simp
theorem DecProducts {K : Nat} (hK : 40000 ≤ K) {a0 a1 a2 b0 b1 b2 s m : Int} (ia : I64 a0) (la : Word a1) (ib : I64 b0) (lb : Word b1) : F.law01_DecProducts K a0 a1 a2 b0 b1 b2 s m = some true := by
  unfold F.law01_DecProducts
  rw [dmul_ok (by omega) ia la ib lb, Option.bind_some, docmul_ok hK ia la ib lb, Option.bind_some, awake_ok (by omega), Option.bind_some]
  simp
theorem DecWholes {K : Nat} (hK : 40000 ≤ K) {n s a0 a1 a2 : Int} (hn : I64 n) (ia : I64 a0) (la : Word a1) : F.law01_DecWholes K n s a0 a1 a2 = some true := by
  unfold F.law01_DecWholes
  rw [decof_ok K hn, Option.bind_some, docof_ok hK hn, Option.bind_some, dint_ok (by omega) ia la, Option.bind_some, docint_ok hK ia la, Option.bind_some, awake_ok (by omega), Option.bind_some]
  simp
namespace L
theorem DecRounds {a0 a1 a2 s m : Int} (w0 : (Lit.int .i64 a0).wf = true) (w1 : (Lit.int .u64 a1).wf = true) (w2 : (Lit.int .i64 a2).wf = true) (w3 : (Lit.int .i64 s).wf = true) (w4 : (Lit.int .i64 m).wf = true) : F.law01_DecRounds 100000 a0 a1 a2 s m = some true :=
  Wide.DecRounds (by decide) (wfI64 w0) (wfU64 w1)
theorem DecQuotients {a0 a1 a2 b0 b1 b2 s m : Int} (w0 : (Lit.int .i64 a0).wf = true) (w1 : (Lit.int .u64 a1).wf = true) (w2 : (Lit.int .i64 a2).wf = true) (v0 : (Lit.int .i64 b0).wf = true) (v1 : (Lit.int .u64 b1).wf = true) (v2 : (Lit.int .i64 b2).wf = true) (w3 : (Lit.int .i64 s).wf = true) (w4 : (Lit.int .i64 m).wf = true) : F.law01_DecQuotients 100000 a0 a1 a2 b0 b1 b2 s m = some true :=
  Wide.DecQuotients (by decide) (wfI64 w0) (wfU64 w1) (wfI64 v0) (wfU64 v1)
theorem DecProducts {a0 a1 a2 b0 b1 b2 s m : Int} (w0 : (Lit.int .i64 a0).wf = true) (w1 : (Lit.int .u64 a1).wf = true) (w2 : (Lit.int .i64 a2).wf = true) (v0 : (Lit.int .i64 b0).wf = true) (v1 : (Lit.int .u64 b1).wf = true) (v2 : (Lit.int .i64 b2).wf = true) (w3 : (Lit.int .i64 s).wf = true) (w4 : (Lit.int .i64 m).wf = true) : F.law01_DecProducts 100000 a0 a1 a2 b0 b1 b2 s m = some true :=
  Wide.DecProducts (by decide) (wfI64 w0) (wfU64 w1) (wfI64 v0) (wfU64 v1)
theorem DecWholes {n s a0 a1 a2 : Int} (w0 : (Lit.int .i64 n).wf = true) (w1 : (Lit.int .i64 s).wf = true) (w2 : (Lit.int .i64 a0).wf = true) (w3 : (Lit.int .u64 a1).wf = true) (w4 : (Lit.int .i64 a2).wf = true) : F.law01_DecWholes 100000 n s a0 a1 a2 = some true :=
  Wide.DecWholes (by decide) (wfI64 w0) (wfI64 w2) (wfU64 w3)
end L
end Go.Proofs.Ytelnigjdfgdapaa.Wide
