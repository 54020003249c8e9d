/- Chart: the law ChartBalances. Conditions: none here. -/
import Derived.Test.YtimhhefngigfeaaPHv
import Derived.Test.YtimhhefngigfeaaPHy
import Derived.Test.YtimhhefngigfeaaFU
set_option linter.unusedVariables false
set_option linter.unusedSimpArgs false
namespace Go.Proofs.Ytimhhefngigfeaa.Wide
open Go Go.RowKit Go.Proofs.Ytimhhefngigfeaa.Vm
theorem docbal13 {K : Nat} (hK : 40000 ≤ K) {e : List D} {β : Int → Int → Int} (h7 : C7 e β) (hb : ∀ c u, P36 (β c u)) (c u : Int) : F.r13_DocBalance K e c u = some (if okA c u then (β c u / 18446744073709551616, β c u % 18446744073709551616, 12, 0, e) else (0, 0, 0, 1, e)) := by
  unfold F.r13_DocBalance
  rw [ris13, oB]
  simp only [bi_eq]
  by_cases o : okA c u
  · rw [decide_eq_true o, Bool.not_true, if_neg (by decide), if_pos o, rbal13 hK h7 hb (by have := o.1; omega) o.2.1 o.2.2.1 o.2.2.2]; rfl
  · rw [decide_eq_false o, Bool.not_false, if_pos rfl, if_neg o]
theorem balnil13 (K : Nat) (c u : Int) : F.cL_Balance_ro K c u = some (0, 0, 0, if okA c u then 7 else 1) := by
  unfold F.cL_Balance_ro
  rw [is13, oB]
  simp only [bi_eq]
  by_cases o : okA c u
  · rw [decide_eq_true o, Bool.not_true, if_neg (by decide), if_pos o]
  · rw [decide_eq_false o, Bool.not_false, if_pos rfl, if_neg o]
theorem docbaln13 (K : Nat) (c u : Int) : F.r13_DocBalance_ro K c u = some (0, 0, 0, if okA c u then 7 else 1) := by
  unfold F.r13_DocBalance_ro
  rw [ris13, oB]
  simp only [bi_eq]
  by_cases o : okA c u
  · rw [decide_eq_true o, Bool.not_true, if_neg (by decide), if_pos o]
  · rw [decide_eq_false o, Bool.not_false, if_pos rfl, if_neg o]
theorem totaln13 {K : Nat} (hK : 1 ≤ K) (u : Int) : F.cL_Total_ro K u = some (0, 0, 0, if 0 ≤ u ∧ u ≤ 3 then 7 else 1) := by
  unfold F.cL_Total_ro
  have hn : F.ct_nought K = some (0, 0, 12) := rfl
  rw [hn, oB]
  obtain ⟨k, hk⟩ : ∃ k, K = k + 1 := ⟨K - 1, by omega⟩
  have e : F.cL_Total_ro_l3 K (k + 1) u 1 0 0 0 0 0 12 = some (.inr ((if 0 ≤ u ∧ u ≤ 3 then 7 else 1), 0, 0, 0)) := by
    unfold F.cL_Total_ro_l3
    simp only [bi_eq]
    rw [if_pos (by decide), balnil13, oB]
    by_cases o : 0 ≤ u ∧ u ≤ 3
    · rw [if_pos o, if_pos (show okA 1 u from ⟨by omega, by omega, o.1, o.2⟩)]
      simp only
      rw [if_pos (by decide)]
    · rw [if_neg o, if_neg (show ¬ okA 1 u from fun h => o h.2.2)]
      simp only
      rw [if_pos (by decide)]
  rw [← hk] at e
  simp only
  rw [e]
  rfl
theorem bals_loop {K : Nat} (hK : 3518437300000 ≤ K) {dd : List (List D)} (hd : DOk (.sl [.sl LSh]) (.l dd)) (hf : DFit reachBytes (.sl [.sl LSh]) (.l dd)) (x1 x2 : Int) : ∀ (k i : Nat) (m : List (List Int × List Int)) (β : Int → Int → Int) (n : Int) (e : List D), i ≤ 30 → i ≤ dd.length → LM okA m β → RE e β n → Zb β → T0 β → (∀ c u, P36 (β c u)) → 0 ≤ n → n ≤ i → 31 - i < k →
    ∃ m' β' n' e', F.law13_ChartBalances_l5 K k x1 x2 dd (dd.length : Int) (i : Int) m n e = some (x1, x2, m', n', e') ∧ LM okA m' β' ∧ RE e' β' n' ∧ T0 β' ∧ (∀ c u, P36 (β' c u)) := by
  intro k
  induction k with
  | zero => intro i m β n e _ _ _ _ _ _ _ _ _ h; omega
  | succ k ih =>
    intro i m β n e hi hl hL he hz ht hb n0 n1 hk
    unfold F.law13_ChartBalances_l5
    simp only [bi_eq]
    by_cases c : i < dd.length
    · rw [if_pos (by simp; omega), Int.toNat_natCast, if_pos (inb c)]
      by_cases c60 : i ≥ 30
      · rw [if_pos (by simp; omega)]
        exact ⟨m, β, n, e, rfl, hL, he, ht, hb⟩
      · rw [if_neg (by simp; omega)]
        have hw : WL (asQ (nth d0 (nth [] dd i) 0).toL) := entry_wl hd c
        have hft : (nth d0 (nth [] dd i) 0).toL.length * 40 ≤ 140737488351232 := entry_fit hf c
        have hq := asQ_LQ (nth d0 (nth [] dd i) 0).toL
        have hql := asQ_len (nth d0 (nth [] dd i) 0).toL
        simp only [toL_l, List.nil_append]
        generalize (nth d0 (nth [] dd i) 0).toL = E at hw hft hq hql ⊢
        obtain ⟨m', p1, p2, p3⟩ := post13 (K := K) hw (by omega) (by omega) hL hb n0 (by omega)
        obtain ⟨e', d1, d2⟩ := docpost13 (K := K) hq hw (by omega) (by omega) he hz hb n0 (by omega)
        simp only [hql]
        rw [if_pos (decide_eq_true (by omega)), p1, oB, d1, oB, wsucc (by omega)]
        exact ih (i + 1) m' _ (if codeP β (asQ E) = 0 then n + 1 else n) e' (by omega) (by omega) p2 d2 (hz.next _) (ht.next _) p3 (by split <;> omega) (by split <;> omega) (by omega)
    · rw [if_neg (by simp; omega)]
      exact ⟨m, β, n, e, rfl, hL, he, ht, hb⟩
namespace L
theorem ChartBalances {dd : List (List D)} {x1 x2 : Int} (w0 : DOk (.sl [.sl LSh]) (.l dd)) (w1 : (Lit.int .i64 x1).wf = true) (w2 : (Lit.int .i64 x2).wf = true) (hf : UFit reachBytes (.ro [.sl LSh]) (.d dd)) : ∃ K, F.law13_ChartBalances K dd x1 x2 = some true := by
  refine ⟨3518437300000, ?_⟩
  have nw : F.ct_New 3518437300000 = some ([], 0) := rfl
  obtain ⟨m', β', n', e', h1, h2, h3, h4, h5⟩ := bals_loop (K := 3518437300000) (by omega) w0 hf x1 x2 3518437300000 0 [] β0 0 zl (by omega) (by omega) (LM.empty okA) ⟨zl7, zl72⟩ (fun _ _ _ => rfl) T0_0 β0_P (by omega) (by omega) (by omega)
  rw [show ((0 : Nat) : Int) = (0 : Int) from rfl] at h1
  unfold F.law13_ChartBalances
  rw [awake13 (by omega), oB, nw]
  show Option.bind (F.law13_ChartBalances_l5 3518437300000 3518437300000 x1 x2 dd (dd.length : Int) 0 [] 0 zl) _ = some true
  rw [h1, oB]
  have tn : F.cL_Trial_ro 3518437300000 = some [] := rfl
  have en : F.cL_Entries_ro 3518437300000 = some 0 := rfl
  simp only
  rw [bal13 _ h2, oB, docbal13 (by omega) h3.c7 h5, oB, balnil13, oB, docbaln13, oB]
  have f1 : ∀ a b c d : Int, ∀ (p : Prop) [Decidable p], (if p then (a, b, c, 0, m', n') else (0, 0, 0, 1, m', n') : Int × Int × Int × Int × List (List Int × List Int) × Int).2.2.2.2.1 = m' := fun a b c d p _ => by split <;> rfl
  have f2 : ∀ a b c d : Int, ∀ (p : Prop) [Decidable p], (if p then (a, b, c, 0, m', n') else (0, 0, 0, 1, m', n') : Int × Int × Int × Int × List (List Int × List Int) × Int).2.2.2.2.2 = n' := fun a b c d p _ => by split <;> rfl
  by_cases o : okA x1 x2
  · have u : 0 ≤ x2 ∧ x2 ≤ 3 := o.2.2
    simp only [if_pos o]
    rw [total13 (by omega) h2 h5 h4, if_pos u, oB, totaln13 (by omega), if_pos u, oB]
    simp only [tn, en, bi_eq, oB]
    rw [if_neg (by simp), if_neg (by decide), if_neg (by decide), if_neg (by decide), if_neg (by decide), if_neg (by decide), if_neg (by decide), if_neg (by simp; omega), if_neg (by simp; omega), if_pos (by decide), if_pos (by decide)]
    rfl
  · simp only [if_neg o]
    by_cases u : 0 ≤ x2 ∧ x2 ≤ 3
    · rw [total13 (by omega) h2 h5 h4, if_pos u, oB, totaln13 (by omega), if_pos u, oB]
      simp only [tn, en, bi_eq, oB]
      rw [if_neg (by decide), if_neg (by decide), if_neg (by decide), if_neg (by decide), if_neg (by decide), if_neg (by decide), if_neg (by decide), if_neg (by simp; omega), if_neg (by simp; omega), if_pos (by decide), if_pos (by decide)]
      rfl
    · rw [total13 (by omega) h2 h5 h4, if_neg u, oB, totaln13 (by omega), if_neg u, oB]
      simp only [tn, en, bi_eq, oB]
      rw [if_neg (by decide), if_neg (by decide), if_neg (by decide), if_neg (by decide), if_neg (by decide), if_neg (by decide), if_neg (by decide)]
      by_cases g : x2 < 0
      · rw [if_pos (decide_eq_true g), if_pos (by decide), if_pos (by decide)]; rfl
      · rw [if_neg (by simpa using g), if_pos (by simp; omega), if_pos (by decide), if_pos (by decide)]; rfl
end L
end Go.Proofs.Ytimhhefngigfeaa.Wide
