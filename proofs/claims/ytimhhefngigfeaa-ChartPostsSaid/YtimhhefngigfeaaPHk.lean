/- Chart: when two ledgers look alike. Conditions: none here. -/
import Derived.Test.YtimhhefngigfeaaPHx
import Derived.Test.YtimhhefngigfeaaPHy
import Derived.Test.YtimhhefngigfeaaFL
set_option linter.unusedVariables false
set_option linter.unusedSimpArgs false
namespace Go.Proofs.Ytimhhefngigfeaa.Wide
open Go Go.RowKit Go.Proofs.Ytimhhefngigfeaa.Vm
theorem alike4 {K : Nat} (b : Bool) (m : List (List Int × List Int)) (x : Int) (e : List D) : ∀ (k i : Nat) (q : List (List Int)) (n : Nat), q.length = n → n < 1000 → i ≤ n → n - i < k → F.law13_alike_l4 K k q b (n : Int) (i : Int) m x e = some (b, m, x, e) := by
  intro k
  induction k with
  | zero => intro i q n _ _ _ h; omega
  | succ k ih =>
    intro i q n hn h1 hi hk
    unfold F.law13_alike_l4
    simp only [bi_eq]
    by_cases c : i < n
    · rw [if_pos (by simp; omega), if_pos (by rw [hn]; exact inb c), wsucc (by omega)]
      exact ih (i + 1) _ n (by rw [List.length_set]; exact hn) h1 (by omega) (by omega)
    · rw [if_neg (by simp; omega)]
theorem alike13 {K : Nat} (hK : 40000 ≤ K) {m : List (List Int × List Int)} {β : Int → Int → Int} (h : LM okA m β) {e : List D} {n : Int} (he : RE e β n) (hb : ∀ c u, P36 (β c u)) : F.law13_alike K m n e = some (true, m, n, e) := by
  unfold F.law13_alike
  have hl := trL_len β
  have t1 := trial13 (K := K) (by omega) h n
  have t2 := rtrial13 (K := K) hK he.c7 hb
  have t3 := same13 (K := K) (asL_LQ (trL β)) (by omega) (by omega)
  have t4 : F.cL_Entries K m n = some (n, m, n) := rfl
  have t5 := alike4 (K := K) true m n e K 0 (trL β) _ rfl (by omega) (by omega) (by omega)
  have t6 : (n == (nth d0 e 72).toI) = true := by rw [he.n72]; simp
  simp only [t1, t2, toL_l, oB]
  rw [t3]
  simp only [oB, bi_eq, if_true, t4, t6]
  rw [show ((0 : Nat) : Int) = (0 : Int) from rfl] at t5
  rw [t5]
  simp only [oB, if_true, t1, t2]
  rw [t3]
  rfl
end Go.Proofs.Ytimhhefngigfeaa.Wide
