/- Money: the document's examples; checks, sums, order. Conditions: none here. -/
import Derived.Test.YtfeifhlnidkbbaaFE
import Derived.Test.YtfeifhlnidkbbaaPWa
import Derived.KernelRfl
set_option linter.unusedVariables false
set_option linter.unusedSimpArgs false
namespace Go.Proofs.Ytfeifhlnidkbbaa.Wide
open Go Go.RowKit Go.Proofs.Ytfeifhlnidkbbaa.Vm
theorem awake05 : F.law05_awake 1000 = some true := by kernel_rfl
/-- Is it a currency; is it an amount? -/
def Cu (c : Int) : Prop := 0 ≤ c ∧ c ≤ 3
def Am (n : Int) : Prop := -10000000000000 ≤ n ∧ n ≤ 10000000000000
instance (c : Int) : Decidable (Cu c) := inferInstanceAs (Decidable (0 ≤ c ∧ c ≤ 3))
instance (n : Int) : Decidable (Am n) := inferInstanceAs (Decidable (-10000000000000 ≤ n ∧ n ≤ 10000000000000))
theorem within_ok (K : Nat) (n : Int) : F.money_within K n = some (decide (Am n)) := by
  unfold F.money_within
  rw [bi_eq]
  by_cases h : n ≥ -10000000000000
  · rw [if_pos (by simpa using h)]
    congr 1
    apply decide_eq_decide.2
    unfold Am
    omega
  · rw [if_neg (by simpa using h)]
    have : ¬ Am n := by unfold Am; omega
    simp [this]
theorem name_in (K : Nat) {c : Int} (h : Cu c) : ∃ s, F.money_name K c = some s ∧ sEq s ⟨#[]⟩ = false ∧ s.size = 3 := by
  unfold F.money_name Cu at *
  simp only [bi_eq]
  obtain rfl | rfl | rfl | rfl : c = 0 ∨ c = 1 ∨ c = 2 ∨ c = 3 := by omega
  · exact ⟨_, by rw [if_pos (by decide)], by decide +kernel, rfl⟩
  · exact ⟨_, by rw [if_neg (by decide), if_pos (by decide)], by decide +kernel, rfl⟩
  · exact ⟨_, by rw [if_neg (by decide), if_neg (by decide), if_pos (by decide)], by decide +kernel, rfl⟩
  · exact ⟨_, by rw [if_neg (by decide), if_neg (by decide), if_neg (by decide), if_pos (by decide)], by decide +kernel, rfl⟩
theorem name_out (K : Nat) {c : Int} (h : ¬ Cu c) : F.money_name K c = some ⟨#[]⟩ := by
  unfold F.money_name Cu at *
  simp only [bi_eq]
  rw [if_neg (by simp; omega), if_neg (by simp; omega), if_neg (by simp; omega), if_neg (by simp; omega)]
theorem seq_nil : sEq ⟨#[]⟩ ⟨#[]⟩ = true := by decide +kernel
theorem mcheck_ok (K : Nat) (c n : Int) : F.money_Check K c n = some (if Cu c ∧ Am n then 0 else 3) := by
  unfold F.money_Check
  by_cases h : Cu c
  · obtain ⟨s, e1, e2, _⟩ := name_in K h
    rw [e1, Option.bind_some, bi_eq, if_neg (by rw [e2]; decide), within_ok, Option.bind_some, bi_eq]
    by_cases h2 : Am n
    · rw [if_neg (by simp [h2]), if_pos ⟨h, h2⟩]
    · rw [if_pos (by simp [h2]), if_neg fun k => h2 k.2]
  · rw [name_out K h, Option.bind_some, bi_eq, if_pos seq_nil, if_neg fun k => h k.1]
theorem mboth_ok (K : Nat) (c n d m : Int) : F.money_both K c n d m = some (if (Cu c ∧ Am n) ∧ (Cu d ∧ Am m) then (if c = d then 0 else 10) else 3) := by
  unfold F.money_both
  rw [mcheck_ok, Option.bind_some, bi_eq]
  by_cases h1 : Cu c ∧ Am n
  · rw [if_pos h1, if_neg (by decide), mcheck_ok, Option.bind_some, bi_eq]
    by_cases h2 : Cu d ∧ Am m
    · rw [if_pos h2, if_neg (by decide), bi_eq, if_pos (⟨h1, h2⟩ : (Cu c ∧ Am n) ∧ (Cu d ∧ Am m))]
      by_cases h3 : c = d
      · rw [if_neg (by simp [h3]), if_pos h3]
      · rw [if_pos (by simp [h3]), if_neg h3]
    · rw [if_neg h2, if_pos (by decide), if_neg fun k => h2 k.2]
  · rw [if_neg h1, if_pos (by decide), if_neg fun k => h1 k.1]
theorem mmade_ok (K : Nat) (c n : Int) : F.money_made K c n = some (if Am n then (c, n, 0) else (0, 0, 4)) := by
  unfold F.money_made
  rw [within_ok, Option.bind_some, bi_eq]
  by_cases h : Am n
  · rw [if_neg (by simp [h]), if_pos h]
  · rw [if_pos (by simp [h]), if_neg h]
/-- Of one currency, in form: the sum, the difference, the order. -/
theorem madd_ok (K : Nat) {c n m : Int} (hc : Cu c) (hn : Am n) (hm : Am m) : F.money_Add K c n c m = some (if Am (n + m) then (c, n + m, 0) else (0, 0, 4)) := by
  unfold F.money_Add
  rw [mboth_ok, Option.bind_some, bi_eq, if_pos (⟨⟨hc, hn⟩, hc, hm⟩ : (Cu c ∧ Am n) ∧ (Cu c ∧ Am m)), if_pos rfl, if_neg (by decide), iw (x := n + m) (by unfold Am at hn hm; omega) (by unfold Am at hn hm; omega), mmade_ok, Option.bind_some]
theorem msub_ok (K : Nat) {c n m : Int} (hc : Cu c) (hn : Am n) (hm : Am m) : F.money_Sub K c n c m = some (if Am (n - m) then (c, n - m, 0) else (0, 0, 4)) := by
  unfold F.money_Sub
  rw [mboth_ok, Option.bind_some, bi_eq, if_pos (⟨⟨hc, hn⟩, hc, hm⟩ : (Cu c ∧ Am n) ∧ (Cu c ∧ Am m)), if_pos rfl, if_neg (by decide), iw (x := n - m) (by unfold Am at hn hm; omega) (by unfold Am at hn hm; omega), mmade_ok, Option.bind_some]
def cmp3' (a b : Int) : Int := if a < b then -1 else if a > b then 1 else 0
theorem ccompare_ok (K : Nat) (a b : Int) : F.cmp_Compare_int64_ K a b = some (cmp3' a b) := by
  unfold F.cmp_Compare_int64_ F.cmp_isNaN_int64_ cmp3'
  simp only [Option.bind_some, bi_eq, bne_self_eq_false, Bool.false_eq_true, if_false]
  by_cases h : a < b
  · rw [if_pos (by simpa using h), if_pos h]
  · rw [if_neg (by simpa using h), if_neg h]
    by_cases h2 : a > b
    · rw [if_pos (by simpa using h2), if_pos h2]
    · rw [if_neg (by simpa using h2), if_neg h2]
theorem mcmp_ok (K : Nat) {c n m : Int} (hc : Cu c) (hn : Am n) (hm : Am m) : F.money_Cmp K c n c m = some (cmp3' n m, 0) := by
  unfold F.money_Cmp
  rw [mboth_ok, Option.bind_some, bi_eq, if_pos (⟨⟨hc, hn⟩, hc, hm⟩ : (Cu c ∧ Am n) ∧ (Cu c ∧ Am m)), if_pos rfl, if_neg (by decide), ccompare_ok, Option.bind_some]
theorem tm_bd (a : Int) : -5000000000000 < a.tmod 5000000000000 ∧ a.tmod 5000000000000 < 5000000000000 := by
  rcases Int.le_total 0 a with h | h
  · rw [Int.tmod_eq_emod_of_nonneg h]; omega
  · have : a.tmod 5000000000000 = -((-a).tmod 5000000000000) := by rw [Int.neg_tmod]; omega
    rw [this, Int.tmod_eq_emod_of_nonneg (by omega)]; omega
theorem MoneyOrder {x0 x1 x2 x3 : Int} (h3 : 0 ≤ x3 ∧ x3 ≤ 255) : F.law05_MoneyOrder 1000 x0 x1 x2 x3 = some true := by
  have ba := tm_bd x0; have bb := tm_bd x1; have bc := tm_bd x2
  generalize hx : x0.tmod 5000000000000 = x at ba
  generalize hy : x1.tmod 5000000000000 = y at bb
  generalize hz : x2.tmod 5000000000000 = z at bc
  have hk : IntKind.i64.wrap (x3.tmod 4) = x3 % 4 := by rw [tm _ h3.1, iw (by omega) (by omega)]
  have hc : Cu (x3 % 4) := by unfold Cu; omega
  have ax : Am x := by unfold Am; omega
  have ay : Am y := by unfold Am; omega
  have az : Am z := by unfold Am; omega
  have axz : Am (x + z) := by unfold Am; omega
  have ayz : Am (y + z) := by unfold Am; omega
  have ab : Am (x + z - z) := by unfold Am; omega
  unfold F.law05_MoneyOrder
  rw [awake05, Option.bind_some, bi_eq, if_neg (by decide), hk, hx, hy, hz, madd_ok _ hc ax az, if_pos axz, Option.bind_some, madd_ok _ hc ay az, if_pos ayz, Option.bind_some]
  simp only
  rw [msub_ok _ hc axz az, if_pos ab, Option.bind_some, mcmp_ok _ hc ax ay, Option.bind_some, mcmp_ok _ hc axz ayz, Option.bind_some]
  simp only [bi_eq]
  have e1 : cmp3' (x + z) (y + z) = cmp3' x y := by
    unfold cmp3'
    by_cases h : x < y
    · rw [if_pos h, if_pos (by omega)]
    · rw [if_neg h, if_neg (by omega)]
      by_cases h2 : x > y
      · rw [if_pos h2, if_pos (by omega)]
      · rw [if_neg h2, if_neg (by omega)]
  have e2 : (cmp3' x y == 0) = (x == y) := by
    unfold cmp3'
    by_cases h : x < y
    · rw [if_pos h]
      have : ¬ x = y := by omega
      simp [this]
    · rw [if_neg h]
      by_cases h2 : x > y
      · rw [if_pos h2]
        have : ¬ x = y := by omega
        simp [this]
      · rw [if_neg h2]
        have : x = y := by omega
        simp [this]
  have e3 : x + z - z = x := by omega
  rw [e1, e3, e2]
  simp
namespace L
theorem MoneyOrder {a b c d : Int} (w0 : (Lit.int .i64 a).wf = true) (w1 : (Lit.int .i64 b).wf = true) (w2 : (Lit.int .i64 c).wf = true) (w3 : (Lit.int .u8 d).wf = true) : F.law05_MoneyOrder 1000 a b c d = some true :=
  Wide.MoneyOrder (by simp [Lit.wf, IntKind.min, IntKind.max, IntKind.signed, IntKind.bits] at w3; omega)
end L
end Go.Proofs.Ytfeifhlnidkbbaa.Wide
