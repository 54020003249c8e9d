/- Money: the law MoneySums. Conditions: none here. -/
import Derived.Test.YtfeifhlnidkbbaaPMa
set_option linter.unusedVariables false
set_option linter.unusedSimpArgs false
namespace Go.Proofs.Ytfeifhlnidkbbaa.Wide
open Go Go.RowKit Go.Proofs.Ytfeifhlnidkbbaa.Vm
theorem rcur_ok (K : Nat) (c : Int) : F.ref05_Cur K c = some (decide (Cu c)) := by
  unfold F.ref05_Cur
  rw [bi_eq]
  by_cases h : c ≥ 0
  · rw [if_pos (by simpa using h)]
    congr 1
    apply decide_eq_decide.2
    unfold Cu
    omega
  · rw [if_neg (by simpa using h)]
    have : ¬ Cu c := by unfold Cu; omega
    simp [this]
theorem ramount_ok (K : Nat) (n : Int) : F.ref05_Amount K n = some (decide (Am n)) := within_ok K n
theorem rform_ok (K : Nat) (c n : Int) : F.ref05_Form K c n = some (decide (Cu c ∧ Am n)) := by
  unfold F.ref05_Form
  rw [rcur_ok, Option.bind_some, bi_eq]
  by_cases h : Cu c
  · rw [if_pos (by simpa using h), ramount_ok, Option.bind_some]
    simp [h]
  · rw [if_neg (by simpa using h)]
    simp [h]
theorem digits5 (K : Nat) (c : Int) : F.ref05_DocDigits K c = F.money_Digits K c := by
  unfold F.ref05_DocDigits F.money_Digits
  rw [rcur_ok, Option.bind_some]
  by_cases h : Cu c
  · obtain ⟨s, e1, e2, _⟩ := name_in K h
    rw [e1, Option.bind_some, bi_eq, if_neg (by simp [h]), bi_eq, if_neg (by rw [e2]; decide)]
    congr 1
    unfold Cu at h
    obtain rfl | rfl | rfl | rfl : c = 0 ∨ c = 1 ∨ c = 2 ∨ c = 3 := by omega
    all_goals (unfold F.ref05_Digits F.money_figures; decide +kernel)
  · rw [name_out K h, Option.bind_some, bi_eq, if_pos (by simp [h]), bi_eq, if_pos seq_nil]
/-- What a sum or difference comes to. -/
def two (c n d m x : Int) : Int × Int × Int := if (Cu c ∧ Am n) ∧ (Cu d ∧ Am m) then (if c = d then (if Am x then (c, x, 0) else (0, 0, 4)) else (0, 0, 10)) else (0, 0, 3)
def ord (c n d m : Int) : Int × Int := if (Cu c ∧ Am n) ∧ (Cu d ∧ Am m) then (if c = d then (cmp3' n m, 0) else (0, 10)) else (0, 3)
theorem madd_gen (K : Nat) (c n d m : Int) : F.money_Add K c n d m = some (two c n d m (n + m)) := by
  unfold two
  by_cases h : (Cu c ∧ Am n) ∧ (Cu d ∧ Am m)
  · rw [if_pos h]
    by_cases e : c = d
    · subst e; rw [if_pos rfl, madd_ok K h.1.1 h.1.2 h.2.2]
    · unfold F.money_Add
      rw [mboth_ok, if_pos h, if_neg e, if_neg e, Option.bind_some, bi_eq, if_pos (by decide)]
  · unfold F.money_Add
    rw [mboth_ok, if_neg h, if_neg h, Option.bind_some, bi_eq, if_pos (by decide)]
theorem msub_gen (K : Nat) (c n d m : Int) : F.money_Sub K c n d m = some (two c n d m (n - m)) := by
  unfold two
  by_cases h : (Cu c ∧ Am n) ∧ (Cu d ∧ Am m)
  · rw [if_pos h]
    by_cases e : c = d
    · subst e; rw [if_pos rfl, msub_ok K h.1.1 h.1.2 h.2.2]
    · unfold F.money_Sub
      rw [mboth_ok, if_pos h, if_neg e, if_neg e, Option.bind_some, bi_eq, if_pos (by decide)]
  · unfold F.money_Sub
    rw [mboth_ok, if_neg h, if_neg h, Option.bind_some, bi_eq, if_pos (by decide)]
theorem mcmp_gen (K : Nat) (c n d m : Int) : F.money_Cmp K c n d m = some (ord c n d m) := by
  unfold ord
  by_cases h : (Cu c ∧ Am n) ∧ (Cu d ∧ Am m)
  · rw [if_pos h]
    by_cases e : c = d
    · subst e; rw [if_pos rfl, mcmp_ok K h.1.1 h.1.2 h.2.2]
    · unfold F.money_Cmp
      rw [mboth_ok, if_pos h, if_neg e, if_neg e, Option.bind_some, bi_eq, if_pos (by decide)]
  · unfold F.money_Cmp
    rw [mboth_ok, if_neg h, if_neg h, Option.bind_some, bi_eq, if_pos (by decide)]
theorem dtwo_gen (K : Nat) (c n d m s : Int) (hs : s = 1 ∨ s = -1) : F.ref05_DocTwo K c n d m s = some (two c n d m (n + s * m)) := by
  unfold F.ref05_DocTwo two
  rw [rform_ok, Option.bind_some, bi_eq]
  by_cases h1 : Cu c ∧ Am n
  · rw [if_neg (by simp [h1]), rform_ok, Option.bind_some, bi_eq]
    by_cases h2 : Cu d ∧ Am m
    · have a1 := h1.2; have a2 := h2.2
      unfold Am at a1 a2
      rw [if_neg (by simp [h2]), if_pos (⟨h1, h2⟩ : (Cu c ∧ Am n) ∧ (Cu d ∧ Am m)), bi_eq]
      by_cases e : c = d
      · have w1 : IntKind.i64.wrap (s * m) = s * m := by rcases hs with rfl | rfl <;> exact iw (by omega) (by omega)
        have w2 : IntKind.i64.wrap (n + s * m) = n + s * m := by rcases hs with rfl | rfl <;> exact iw (by omega) (by omega)
        rw [if_neg (by simp [e]), if_pos e, w1, w2, ramount_ok, Option.bind_some, bi_eq]
        by_cases h3 : Am (n + s * m)
        · rw [if_neg (by simp [h3]), if_pos h3]
        · rw [if_pos (by simp [h3]), if_neg h3]
      · rw [if_pos (by simp [e]), if_neg e]
    · rw [if_pos (by simp [h2]), if_neg fun k => h2 k.2]
  · rw [if_pos (by simp [h1]), if_neg fun k => h1 k.1]
theorem dcmp_gen (K : Nat) (c n d m : Int) : F.ref05_DocCmp K c n d m = some (ord c n d m) := by
  unfold F.ref05_DocCmp ord
  rw [rform_ok, Option.bind_some, bi_eq]
  by_cases h1 : Cu c ∧ Am n
  · rw [if_neg (by simp [h1]), rform_ok, Option.bind_some, bi_eq]
    by_cases h2 : Cu d ∧ Am m
    · rw [if_neg (by simp [h2]), if_pos (⟨h1, h2⟩ : (Cu c ∧ Am n) ∧ (Cu d ∧ Am m)), bi_eq]
      by_cases e : c = d
      · rw [if_neg (by simp [e]), if_pos e, bi_eq]
        unfold cmp3'
        by_cases a : n < m
        · rw [if_pos (by simpa using a), if_pos a]
        · rw [if_neg (by simpa using a), if_neg a, bi_eq]
          by_cases b : n > m
          · rw [if_pos (by simpa using b), if_pos b]
          · rw [if_neg (by simpa using b), if_neg b]
      · rw [if_pos (by simp [e]), if_neg e]
    · rw [if_pos (by simp [h2]), if_neg fun k => h2 k.2]
  · rw [if_pos (by simp [h1]), if_neg fun k => h1 k.1]
theorem mdigits_some (K : Nat) (c : Int) : ∃ r, F.money_Digits K c = some r := by
  unfold F.money_Digits
  by_cases h : Cu c
  · obtain ⟨s, e1, e2, _⟩ := name_in K h
    rw [e1, Option.bind_some, bi_eq, if_neg (by rw [e2]; decide)]
    unfold F.money_figures
    simp only [bi_eq]
    split
    · exact ⟨_, rfl⟩
    · split <;> exact ⟨_, rfl⟩
  · exact ⟨(0, 1), by rw [name_out K h, Option.bind_some, bi_eq, if_pos seq_nil]⟩
theorem MoneySums (c n d m : Int) : F.law05_MoneySums 1000 c n d m = some true := by
  obtain ⟨r, hr⟩ := mdigits_some 1000 c
  unfold F.law05_MoneySums
  rw [madd_gen, Option.bind_some, dtwo_gen _ _ _ _ _ _ (.inl rfl), Option.bind_some, msub_gen, Option.bind_some, dtwo_gen _ _ _ _ _ _ (.inr rfl), Option.bind_some, mcmp_gen, Option.bind_some, dcmp_gen, Option.bind_some, hr, Option.bind_some, digits5, hr, Option.bind_some, awake05, Option.bind_some, mcheck_ok, rform_ok]
  have e1 : n + 1 * m = n + m := by omega
  have e2 : n + -1 * m = n - m := by omega
  rw [e1, e2]
  simp only [bi_eq, beq_self_eq_true, Bool.and_self, Bool.and_true, if_true, Option.bind_some]
  by_cases h : Cu c ∧ Am n
  · simp [h]
  · simp [h]
namespace L
theorem MoneySums {c n d m : Int} (w0 : (Lit.int .i64 c).wf = true) (w1 : (Lit.int .i64 n).wf = true) (w2 : (Lit.int .i64 d).wf = true) (w3 : (Lit.int .i64 m).wf = true) : F.law05_MoneySums 1000 c n d m = some true := Wide.MoneySums c n d m
end L
end Go.Proofs.Ytfeifhlnidkbbaa.Wide
