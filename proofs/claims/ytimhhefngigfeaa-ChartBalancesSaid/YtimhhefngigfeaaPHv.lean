/- Chart: totals of all codes. Conditions: none here. -/
import Derived.Test.YtimhhefngigfeaaPHs
set_option linter.unusedVariables false
set_option linter.unusedSimpArgs false
namespace Go.Proofs.Ytimhhefngigfeaa.Wide
open Go Go.RowKit Go.Proofs.Ytimhhefngigfeaa.Vm
def accT (β : Int → Int → Int) (u : Int) : Nat → Int → Int
  | 0, _ => 0
  | n + 1, c => β c u + accT β u n (c + 1)
def T0 (β : Int → Int → Int) : Prop := ∀ u, accT β u 8 1 = 0
theorem accT_add (β γ : Int → Int → Int) (u : Int) : ∀ n c, accT (fun c u => β c u + γ c u) u n c = accT β u n c + accT γ u n c
  | 0, _ => by simp [accT]
  | n + 1, c => by simp only [accT, accT_add β γ u n (c + 1)]; omega
theorem accT_zero (u : Int) : ∀ n c, accT (fun _ _ => 0) u n c = 0
  | 0, _ => rfl
  | n + 1, c => by simp only [accT, accT_zero u n (c + 1)]; rfl
theorem accT_sumL (u : Int) : ∀ {q : List (List Int)}, allA q = true → accT (fun c u => sumL c u q) u 8 1 = sumC u q
  | [], _ => by simp only [sumL, sumC]; exact accT_zero u 8 1
  | x :: q, h => by
    rw [allA_cons, Bool.and_eq_true] at h
    have hx : okA (nth 0 x 0) (nth 0 x 1) := by simpa using h.1
    have ih := accT_sumL u h.2
    simp only [sumL, sumC]
    rw [accT_add (fun c u => if nth 0 x 0 = c ∧ nth 0 x 1 = u then am x else 0) (fun c u => sumL c u q), ih]
    congr 1
    obtain ⟨h1, h2, _, _⟩ := hx
    generalize nth 0 x 0 = c at h1 h2 ⊢
    by_cases g : nth 0 x 1 = u
    · have : c = 1 ∨ c = 2 ∨ c = 3 ∨ c = 4 ∨ c = 5 ∨ c = 6 ∨ c = 7 ∨ c = 8 := by omega
      rcases this with rfl | rfl | rfl | rfl | rfl | rfl | rfl | rfl <;> simp [accT, g]
    · simp [accT, g]
theorem T0.next {β : Int → Int → Int} (h : T0 β) (q : List (List Int)) : T0 (nextP β q) := by
  unfold nextP
  split
  · rename_i h1
    obtain ⟨h2, _, h3⟩ := codeP_zero h1
    intro u
    have := accT_add β (fun c u => sumL c u q) u 8 1
    unfold addQ
    rw [this, h u, accT_sumL u (chk_zero h2).1, h3 u]; rfl
  · exact h
theorem T0_0 : T0 β0 := fun u => accT_zero u 8 1
theorem bal13 (K : Nat) {m : List (List Int × List Int)} {β : Int → Int → Int} (h : LM okA m β) (x c u : Int) : F.cL_Balance K m x c u = some (if okA c u then (β c u / 18446744073709551616, β c u % 18446744073709551616, 12, 0, m, x) else (0, 0, 0, 1, m, x)) := by
  unfold F.cL_Balance
  rw [is13, oB]
  simp only [bi_eq]
  by_cases o : okA c u
  · rw [decide_eq_true o, Bool.not_true, if_neg (by decide), if_pos o, at13 K h]; rfl
  · rw [decide_eq_false o, Bool.not_false, if_pos rfl, if_neg o]
theorem total_loop {K : Nat} (hK : 400 ≤ K) {m : List (List Int × List Int)} {β : Int → Int → Int} (h : LM okA m β) (hb : ∀ c u, P36 (β c u)) {u : Int} (u0 : 0 ≤ u) (u1 : u ≤ 3) (x y0 y1 y2 : Int) : ∀ (n k : Nat) (c p : Int), 1 ≤ c → c + n = 9 → n < k → -((c - 1) * 1000000000000000000000000000000000000) ≤ p → p ≤ (c - 1) * 1000000000000000000000000000000000000 →
    F.cL_Total_l3 K k u c m x y0 y1 y2 (p / 18446744073709551616) (p % 18446744073709551616) 12 = some (.inl (m, x, y0, y1, y2, (p + accT β u n c) / 18446744073709551616, (p + accT β u n c) % 18446744073709551616, 12)) := by
  intro n
  induction n with
  | zero =>
    intro k c p c0 cn hk p0 p1
    obtain ⟨k, rfl⟩ : ∃ j, k = j + 1 := ⟨k - 1, by omega⟩
    unfold F.cL_Total_l3
    simp only [bi_eq]
    rw [if_neg (by simp; omega)]
    simp [accT]
  | succ n ih =>
    intro k c p c0 cn hk p0 p1
    obtain ⟨k, rfl⟩ : ∃ j, k = j + 1 := ⟨k - 1, by omega⟩
    unfold F.cL_Total_l3
    simp only [bi_eq]
    have hp := hb c u
    unfold P36 at hp
    rw [if_pos (by simp; omega), bal13 K h, oB, if_pos (show okA c u from ⟨by omega, by omega, u0, u1⟩)]
    simp only
    rw [if_neg (by decide), add_dk hK (by omega) (by omega) (by omega) (by omega) (by omega) (by omega), oB, isucc (by omega) (by omega)]
    simp only
    rw [ih k (c + 1) (p + β c u) (by omega) (by omega) (by omega) (by omega) (by omega)]
    simp only [accT]
    rw [← Int.add_assoc]
theorem total13 {K : Nat} (hK : 400 ≤ K) {m : List (List Int × List Int)} {β : Int → Int → Int} (h : LM okA m β) (hb : ∀ c u, P36 (β c u)) (ht : T0 β) (x u : Int) : F.cL_Total K m x u = some (if 0 ≤ u ∧ u ≤ 3 then (0, 0, 12, 0, m, x) else (0, 0, 0, 1, m, x)) := by
  unfold F.cL_Total
  have hn : F.ct_nought K = some (0, 0, 12) := rfl
  rw [hn, oB]
  by_cases o : 0 ≤ u ∧ u ≤ 3
  · have := total_loop hK h hb o.1 o.2 x 0 0 0 8 K 1 0 (by omega) (by omega) (by omega) (by omega) (by omega)
    rw [ht u] at this
    rw [if_pos o]
    have e : F.cL_Total_l3 K K u 1 m x 0 0 0 0 0 12 = some (.inl (m, x, 0, 0, 0, 0, 0, 12)) := this
    simp only
    rw [e]
    rfl
  · rw [if_neg o]
    obtain ⟨k, hk⟩ : ∃ k, K = k + 1 := ⟨K - 1, by omega⟩
    have e : F.cL_Total_l3 K (k + 1) u 1 m x 0 0 0 0 0 12 = some (.inr (1, m, x, 0, 0, 0)) := by
      unfold F.cL_Total_l3
      simp only [bi_eq]
      rw [if_pos (by decide), bal13 K h, oB, if_neg (show ¬ okA 1 u from fun h => o h.2.2)]
      simp only
      rw [if_pos (by decide)]
    rw [← hk] at e
    simp only
    rw [e]
    rfl
end Go.Proofs.Ytimhhefngigfeaa.Wide
