/- Chart: the law ChartNothingLost. Conditions: none here. -/
import Derived.Test.YtimhhefngigfeaaPHv
import Derived.Test.YtimhhefngigfeaaFR
set_option linter.unusedVariables false
set_option linter.unusedSimpArgs false
namespace Go.Proofs.Ytimhhefngigfeaa.Wide
open Go Go.RowKit Go.Proofs.Ytimhhefngigfeaa.Vm
def sumT (u : Int) : List (List Int) → Int
  | [] => 0
  | x :: q => (if nth 0 x 1 = u then cf (nth 0 x 2) (nth 0 x 3) else 0) + sumT u q
theorem sumT_app (u : Int) : ∀ a b, sumT u (a ++ b) = sumT u a + sumT u b
  | [], b => by simp [sumT]
  | x :: a, b => by simp only [List.cons_append, sumT, sumT_app u a b]; omega
theorem sumT_row (β : Int → Int → Int) (c v : Int) : ∀ (n : Nat) (u : Int), sumT v (rowT β c n u) = if u ≤ v ∧ v < u + n then β c v else 0
  | 0, u => by rw [if_neg (by omega)]; rfl
  | n + 1, u => by
    unfold rowT
    rw [sumT_app, sumT_row β c v n (u + 1)]
    by_cases z : β c u = 0
    · rw [if_pos z]
      simp only [sumT]
      by_cases e : v = u
      · subst e; rw [if_neg (by omega), if_pos (by omega), z]; rfl
      · by_cases g : u + 1 ≤ v ∧ v < u + 1 + n
        · rw [if_pos g, if_pos (by omega)]; omega
        · rw [if_neg g, if_neg (by omega)]; rfl
    · rw [if_neg z]
      simp only [sumT, nth, cf_dk]
      by_cases e : v = u
      · subst e; rw [if_pos rfl, if_neg (by omega), if_pos (by omega)]; omega
      · rw [if_neg (fun h => e h.symm)]
        by_cases g : u + 1 ≤ v ∧ v < u + 1 + n
        · rw [if_pos g, if_pos (by omega)]; omega
        · rw [if_neg g, if_neg (by omega)]; rfl
theorem sumT_tr (β : Int → Int → Int) {v : Int} (v0 : 0 ≤ v) (v1 : v ≤ 3) : ∀ (n : Nat) (c : Int), sumT v (trT β n c) = accT β v n c
  | 0, _ => rfl
  | n + 1, c => by
    unfold trT accT
    rw [sumT_app, sumT_row, if_pos (by omega), sumT_tr β v0 v1 n (c + 1)]
def lineT (x : List Int) : Prop := ∃ c u n, P36 n ∧ x = [c, u, n / 18446744073709551616, n % 18446744073709551616, 12]
theorem rowT_line {β : Int → Int → Int} (hb : ∀ c u, P36 (β c u)) (c : Int) : ∀ (n : Nat) (u : Int), ∀ x ∈ rowT β c n u, lineT x
  | 0, _, x, h => by cases h
  | n + 1, u, x, h => by
    unfold rowT at h
    rcases List.mem_append.1 h with h | h
    · split at h
      · cases h
      · obtain rfl := List.mem_singleton.1 h
        exact ⟨c, u, β c u, hb c u, rfl⟩
    · exact rowT_line hb c n (u + 1) x h
theorem trT_line {β : Int → Int → Int} (hb : ∀ c u, P36 (β c u)) : ∀ (n : Nat) (c : Int), ∀ x ∈ trT β n c, lineT x
  | 0, _, x, h => by cases h
  | n + 1, c, x, h => by
    unfold trT at h
    rcases List.mem_append.1 h with h | h
    · exact rowT_line hb c 4 0 x h
    · exact trT_line hb n (c + 1) x h
theorem lost16 {K : Nat} (hK : 400 ≤ K) {Q : List (List Int)} (hl : ∀ x ∈ Q, lineT x) (hq : Q.length ≤ 32) (v e x32 : Int) (m : List (List Int × List Int)) (x a0 a1 a2 : Int) : ∀ (k i : Nat) (p : Int), i ≤ Q.length → Q.length - i < k → -(i * 1000000000000000000000000000000000000) ≤ p → p ≤ i * 1000000000000000000000000000000000000 →
    F.law13_ChartNothingLost_l16 K k v e x32 Q (Q.length : Int) (i : Int) m x a0 a1 a2 (p / 18446744073709551616) (p % 18446744073709551616) 12 = some (.inl (e, x32, m, x, a0, a1, a2, (p + sumT v (Q.drop i)) / 18446744073709551616, (p + sumT v (Q.drop i)) % 18446744073709551616, 12)) := by
  intro k
  induction k with
  | zero => intro i p _ h; omega
  | succ k ih =>
    intro i p hi hk p0 p1
    unfold F.law13_ChartNothingLost_l16
    by_cases c : i < Q.length
    · simp only [bi_eq, Int.toNat_natCast, nth_lt [] c]
      rw [if_pos (by simp; omega), if_pos (inb c), wsucc (by omega)]
      obtain ⟨c', u, n, hn, hx⟩ := hl _ (List.getElem_mem c)
      rw [List.drop_eq_getElem_cons c]
      rw [hx]
      unfold P36 at hn
      simp only [sumT, nth, cf_dk, beq_iff_eq]
      by_cases g : u = v
      · simp only [if_pos g]
        rw [add_dk hK (by omega) (by omega) (by omega) (by omega) (by omega) (by omega), Option.bind_some]
        simp only
        rw [if_neg (by decide), ih (i + 1) (p + n) (by omega) (by omega) (by omega) (by omega), ← Int.add_assoc]
      · simp only [if_neg g]
        rw [ih (i + 1) p (by omega) (by omega) (by omega) (by omega), Int.zero_add]
    · have : i = Q.length := by omega
      subst this
      simp only [bi_eq]
      rw [if_neg (by simp), List.drop_length]
      simp [sumT]
theorem lost11 {K : Nat} (hK : 400 ≤ K) {m : List (List Int × List Int)} {β : Int → Int → Int} (h : LM okA m β) (hb : ∀ c u, P36 (β c u)) (ht : T0 β) (x : Int) : ∀ (k : Nat) (u : Int), 0 ≤ u → u ≤ 4 → (4 - u).toNat < k → F.law13_ChartNothingLost_l11 K k u m x = some (.inl ()) := by
  intro k
  induction k with
  | zero => intro u _ _ h; omega
  | succ k ih =>
    intro u u0 u1 hk
    unfold F.law13_ChartNothingLost_l11
    simp only [bi_eq]
    by_cases c : u < 4
    · have t2 := trial13 (K := K) (by omega) h x
      have hl := trL_len β
      have t3 := lost16 (K := K) hK (Q := trL β) (trT_line hb 8 1) hl u 0 u m x 0 0 12 K 0 0 (by omega) (by omega) (by omega) (by omega)
      rw [List.drop_zero, show sumT u (trL β) = 0 from (sumT_tr β u0 (by omega) 8 1).trans (ht u)] at t3
      rw [if_pos (decide_eq_true c), total13 hK h hb ht, if_pos (by omega), Option.bind_some]
      simp only
      rw [t2, Option.bind_some]
      simp only
      have t4 : F.law13_ChartNothingLost_l16 K K u 0 u (trL β) ((trL β).length : Int) 0 m x 0 0 12 0 0 12 = some (.inl (0, u, m, x, 0, 0, 12, 0, 0, 12)) := t3
      rw [t4]
      simp only [casO, Option.bind_some]
      rw [isucc u0 (by omega), ih (u + 1) (by omega) (by omega) (by omega)]
      rfl
    · rw [if_neg (by simpa using c)]
theorem lost5 {K : Nat} (hK : 3518437300000 ≤ K) {dd : List (List D)} (hd : DOk (.sl [.sl LSh]) (.l dd)) (hf : DFit reachBytes (.sl [.sl LSh]) (.l dd)) : ∀ (k i : Nat) (m : List (List Int × List Int)) (β : Int → Int → Int) (n : Int), i ≤ 60 → i ≤ dd.length → LM okA m β → T0 β → (∀ c u, P36 (β c u)) → 0 ≤ n → n ≤ i → 61 - i < k →
    ∃ m' β' n', F.law13_ChartNothingLost_l5 K k dd (dd.length : Int) (i : Int) m n = some (m', n') ∧ LM okA m' β' ∧ T0 β' ∧ (∀ c u, P36 (β' c u)) := by
  intro k
  induction k with
  | zero => intro i m β n _ _ _ _ _ _ _ h; omega
  | succ k ih =>
    intro i m β n hi hl hL ht hb n0 n1 hk
    unfold F.law13_ChartNothingLost_l5
    simp only [bi_eq]
    by_cases c : i < dd.length
    · rw [if_pos (by simp; omega), Int.toNat_natCast, if_pos (inb c)]
      by_cases c60 : i ≥ 60
      · rw [if_pos (by simp; omega)]
        exact ⟨m, β, n, rfl, hL, ht, hb⟩
      · rw [if_neg (by simp; omega)]
        have hw : WL (asQ (nth d0 (nth [] dd i) 0).toL) := entry_wl hd c
        have hft : (nth d0 (nth [] dd i) 0).toL.length * 40 ≤ 140737488351232 := entry_fit hf c
        have hql := asQ_len (nth d0 (nth [] dd i) 0).toL
        simp only [toL_l, List.nil_append]
        generalize (nth d0 (nth [] dd i) 0).toL = E at hw hft hql ⊢
        obtain ⟨m', p1, p2, p3⟩ := post13 (K := K) hw (by omega) (by omega) hL hb n0 (by omega)
        simp only [hql]
        rw [if_pos (decide_eq_true (by omega)), p1, Option.bind_some, wsucc (by omega)]
        exact ih (i + 1) m' _ (if codeP β (asQ E) = 0 then n + 1 else n) (by omega) (by omega) p2 (ht.next _) p3 (by split <;> omega) (by split <;> omega) (by omega)
    · rw [if_neg (by simp; omega)]
      exact ⟨m, β, n, rfl, hL, ht, hb⟩
namespace L
theorem ChartNothingLost {dd : List (List D)} (w0 : DOk (.sl [.sl LSh]) (.l dd)) (hf : UFit reachBytes (.ro [.sl LSh]) (.d dd)) : ∃ K, F.law13_ChartNothingLost K dd = some true := by
  refine ⟨3518437300000, ?_⟩
  unfold F.law13_ChartNothingLost
  have nw : F.chart_New 3518437300000 = some ([], 0) := rfl
  obtain ⟨m', β', n', h1, h2, h3, h4⟩ := lost5 (K := 3518437300000) (by omega) w0 hf 3518437300000 0 [] β0 0 (by omega) (by omega) (LM.empty okA) T0_0 β0_P (by omega) (by omega) (by omega)
  rw [awake13 (by omega)]
  simp only [Option.bind_some, nw, bi_eq, Bool.not_true, Bool.false_eq_true, if_false, toL_l]
  rw [show ((0 : Nat) : Int) = (0 : Int) from rfl] at h1
  rw [h1, Option.bind_some]
  simp only
  rw [lost11 (by omega) h2 h4 h3 n' 3518437300000 0 (by omega) (by omega) (by omega)]
  rfl
end L
end Go.Proofs.Ytimhhefngigfeaa.Wide
