/- Several of my texts in one: plain facts about the printed functions. Conditions: none here. -/
import Derived.Test.YtimhhefngigfeaaPHx
import Derived.Test.YtimhhefngigfeaaFK
set_option linter.unusedVariables false
set_option linter.unusedSimpArgs false
namespace Go.Proofs.Ytimhhefngigfeaa.Wide
open Go Go.RowKit Go.Proofs.Ytimhhefngigfeaa.Vm
theorem doc_loop {K : Nat} (hK : 40000 ≤ K) {L : List (List D)} {q : List (List Int)} (hLQ : LQ L q) (hw : WL q) (hq : q.length < 4000000000000000000) (dd1 : List (List D)) (e0 : List D) : ∀ (k i : Nat) (f : Bool) (e6 e7 : List D) (S : Int → Int) (β : Int → Int → Int) (n : Int), C6 e6 S → C7 e7 β → (nth d0 e7 72).toI = n → (∀ u, -(i * 100000000000000000000000000000000) ≤ S u ∧ S u ≤ i * 100000000000000000000000000000000) → (∀ c u, -(1000000000000000000000000000000000000 + i * 100000000000000000000000000000000) ≤ β c u ∧ β c u ≤ 1000000000000000000000000000000000000 + i * 100000000000000000000000000000000) → q.length - i < k → i ≤ q.length →
    (allA (q.drop i) = true ∧ ∃ e6' e7', F.r13_DocPost_l7 K k dd1 f L (q.length : Int) (i : Int) e0 e6 e7 = some (.inl (dd1, f && allM (q.drop i), e0, e6', e7')) ∧ C6 e6' (fun u => S u + sumC u (fM (q.drop i))) ∧ C7 e7' (addQ β (fM (q.drop i))) ∧ (nth d0 e7' 72).toI = n) ∨
    (allA (q.drop i) = false ∧ F.r13_DocPost_l7 K k dd1 f L (q.length : Int) (i : Int) e0 e6 e7 = some (.inr (1, e0))) := by
  intro k
  induction k with
  | zero => intro i f e6 e7 S β n _ _ _ _ _ h _; omega
  | succ k ih =>
    intro i f e6 e7 S β n h6 h7 hn hS hβ h hi
    unfold F.r13_DocPost_l7
    by_cases c : i < q.length
    · have hx : wl q[i] := hw _ (List.getElem_mem c)
      have hj : ∀ j, j < 5 → (nth d0 (nth [] L i) j).toI = nth 0 q[i] j := fun j hj => by rw [hLQ.2 i c j hj, nth_lt [] c]
      rw [hLQ.1] at *
      simp only [bi_eq, Int.toNat_natCast, hj 0 (by omega), hj 1 (by omega), hj 2 (by omega), hj 3 (by omega), hj 4 (by omega), toL_l, Nat.zero_add]
      rw [if_pos (by simp; omega), if_pos (inb c), ris13, oB, wsucc (by omega)]
      rw [List.drop_eq_getElem_cons c, allA_cons, allM_cons]
      generalize q[i] = x at hx ⊢
      by_cases a : okA (nth 0 x 0) (nth 0 x 1)
      · rw [decide_eq_true a, Bool.not_true, if_neg (by decide)]
        obtain ⟨s, v, hu, hv⟩ := units13 hK hx
        rw [hu, oB]
        simp only [Bool.true_and]
        by_cases o : okM x
        · obtain ⟨v0, v1, v2⟩ := hv o
          have hm3 := o.2.2
          obtain ⟨a1, a2, a3, a4⟩ := a
          rw [decide_eq_true o, fM_pos o]
          have hSu := hS (nth 0 x 1)
          have hβu := hβ (nth 0 x 0) (nth 0 x 1)
          obtain ⟨s6, w6, r1, r2, r3⟩ := cell_sum (K := K) (by omega) (h6 (nth 0 x 1) a3 a4) (by unfold TOP; omega) (by unfold TOP; omega) v0 (by unfold TOP; omega) v2
          obtain ⟨s7, w7, t1, t2, t3⟩ := cell_sum (K := K) (by omega) (h7 (nth 0 x 0) (nth 0 x 1) (by omega) a2 a3 a4) (by unfold TOP; omega) (by unfold TOP; omega) v0 (by unfold TOP; omega) v2
          simp only [if_true]
          rw [inr3 (n := 4) a3 (by omega), inr3 (n := 9) (c := nth 0 x 0) (by omega) (by omega)]
          simp only [if_true, r1, t1, oB]
          have h6' : C6 (setP (setP e6 ((nth 0 x 1).toNat * 2) (.b s6)) ((nth 0 x 1).toNat * 2 + 1) (.l (asD (rl w6)))) (fun u => if nth 0 x 1 = u then S (nth 0 x 1) + am x else S u) := by
            intro u u0 u1
            by_cases g : nth 0 x 1 = u
            · subst g
              simp only [if_true]
              exact cellI_set _ _ r2 r3
            · simp only [if_neg g]
              have : u.toNat ≠ (nth 0 x 1).toNat := by omega
              exact cellI_ne (h6 u u0 u1) (by omega) (by omega) (by omega)
          have h7' : C7 (setP (setP e7 ((nth 0 x 0).toNat * 8 + (nth 0 x 1).toNat * 2) (.b s7)) ((nth 0 x 0).toNat * 8 + (nth 0 x 1).toNat * 2 + 1) (.l (asD (rl w7)))) (fun c u => if nth 0 x 0 = c ∧ nth 0 x 1 = u then β (nth 0 x 0) (nth 0 x 1) + am x else β c u) := by
            intro c' u c0 c1 u0 u1
            by_cases g : nth 0 x 0 = c' ∧ nth 0 x 1 = u
            · obtain ⟨g1, g2⟩ := g
              subst g1 g2
              simp only [and_self, if_true]
              exact cellI_set _ _ t2 t3
            · simp only [if_neg g]
              have : c'.toNat ≠ (nth 0 x 0).toNat ∨ u.toNat ≠ (nth 0 x 1).toNat := by omega
              have q1 : (nth 0 x 0).toNat ≤ 8 ∧ (nth 0 x 1).toNat ≤ 3 ∧ u.toNat ≤ 3 := by omega
              exact cellI_ne (h7 c' u c0 c1 u0 u1) (by omega) (by omega) (by omega)
          have hn' : (nth d0 (setP (setP e7 ((nth 0 x 0).toNat * 8 + (nth 0 x 1).toNat * 2) (.b s7)) ((nth 0 x 0).toNat * 8 + (nth 0 x 1).toNat * 2 + 1) (.l (asD (rl w7)))) 72).toI = n := by
            rw [nth_setP, if_neg (by omega), nth_setP, if_neg (by omega)]; exact hn
          have hS' : ∀ u, -((i + 1 : Nat) * 100000000000000000000000000000000) ≤ (if nth 0 x 1 = u then S (nth 0 x 1) + am x else S u) ∧ (if nth 0 x 1 = u then S (nth 0 x 1) + am x else S u) ≤ (i + 1 : Nat) * 100000000000000000000000000000000 := fun u => by
            have := hS u
            split <;> omega
          have hβ' : ∀ c u, -(1000000000000000000000000000000000000 + (i + 1 : Nat) * 100000000000000000000000000000000) ≤ (if nth 0 x 0 = c ∧ nth 0 x 1 = u then β (nth 0 x 0) (nth 0 x 1) + am x else β c u) ∧ (if nth 0 x 0 = c ∧ nth 0 x 1 = u then β (nth 0 x 0) (nth 0 x 1) + am x else β c u) ≤ 1000000000000000000000000000000000000 + (i + 1 : Nat) * 100000000000000000000000000000000 := fun c u => by
            have := hβ c u
            split <;> omega
          have eS : ∀ u, (if nth 0 x 1 = u then S (nth 0 x 1) + am x else S u) + sumC u (fM (q.drop (i + 1))) = S u + sumC u (x :: fM (q.drop (i + 1))) := fun u => by
            simp only [sumC]
            by_cases g : nth 0 x 1 = u
            · rw [if_pos g, if_pos g, g]; omega
            · rw [if_neg g, if_neg g]; omega
          have eβ : ∀ c u, addQ (fun c u => if nth 0 x 0 = c ∧ nth 0 x 1 = u then β (nth 0 x 0) (nth 0 x 1) + am x else β c u) (fM (q.drop (i + 1))) c u = addQ β (x :: fM (q.drop (i + 1))) c u := fun c u => by
            unfold addQ
            simp only [sumL]
            by_cases g : nth 0 x 0 = c ∧ nth 0 x 1 = u
            · rw [if_pos g, if_pos g, g.1, g.2]; omega
            · rw [if_neg g, if_neg g]; omega
          have hif : ∀ {α : Type} (A : Bool → α), (if f = true then A true else A false) = A f := fun A => by cases f <;> rfl
          rw [hif (fun f => F.r13_DocPost_l7 K k dd1 f L (q.length : Int) ((i + 1 : Nat) : Int) e0 (setP (setP e6 ((nth 0 x 1).toNat * 2) (.b s6)) ((nth 0 x 1).toNat * 2 + 1) (.l (asD (rl w6)))) (setP (setP e7 ((nth 0 x 0).toNat * 8 + (nth 0 x 1).toNat * 2) (.b s7)) ((nth 0 x 0).toNat * 8 + (nth 0 x 1).toNat * 2 + 1) (.l (asD (rl w7)))))]
          rcases ih (i + 1) f _ _ _ _ n h6' h7' hn' hS' hβ' (by omega) (by omega) with ⟨j1, e6', e7', j2, j3, j4, j5⟩ | ⟨j1, j2⟩
          · refine .inl ⟨j1, e6', e7', by rw [j2, Bool.true_and], fun u u0 u1 => by have := j3 u u0 u1; simp only at this; rw [eS] at this; exact this, fun c u c0 c1 u0 u1 => by have := j4 c u c0 c1 u0 u1; rw [eβ] at this; exact this, j5⟩
          · exact .inr ⟨j1, j2⟩
        · rw [decide_eq_false o, fM_neg o]
          simp only [Bool.false_eq_true, if_false, Bool.false_and, Bool.and_false, ite_self]
          rcases ih (i + 1) false e6 e7 S β n h6 h7 hn (fun u => by have := hS u; omega) (fun c u => by have := hβ c u; omega) (by omega) (by omega) with ⟨j1, e6', e7', j2, j3, j4, j5⟩ | ⟨j1, j2⟩
          · rw [Bool.false_and] at j2
            exact .inl ⟨j1, e6', e7', j2, j3, j4, j5⟩
          · exact .inr ⟨j1, j2⟩
      · rw [decide_eq_false a, Bool.not_false, if_pos rfl]
        exact .inr ⟨rfl, rfl⟩
    · have : i = q.length := by omega
      subst this
      simp only [bi_eq]
      rw [if_neg (by simp), List.drop_length]
      exact .inl ⟨rfl, e6, e7, by simp [allM, toL_l], fun u u0 u1 => by have := h6 u u0 u1; simpa [fM, sumC] using this, fun c u c0 c1 u0 u1 => by have := h7 c u c0 c1 u0 u1; simpa [fM, addQ, sumL] using this, hn⟩
end Go.Proofs.Ytimhhefngigfeaa.Wide

namespace Go.Proofs.Ytimhhefngigfeaa.Wide
open Go Go.RowKit Go.Proofs.Ytimhhefngigfeaa.Vm
theorem doc27 {K : Nat} (hK : 40000 ≤ K) {e0 e6 e7 : List D} {β : Int → Int → Int} (h7 : C7 e7 β) (hβ : ∀ c u, -TOP < β c u ∧ β c u < TOP) {c x78 : Int} (c0 : 0 ≤ c) (c1 : c ≤ 8) : ∀ (k : Nat) (u : Int), 0 ≤ u → u ≤ 4 → (4 - u).toNat < k →
    (F.r13_DocPost_l27 K k c x78 u e0 e6 e7 = some (.inl (x78, e0, e6, e7)) ∧ ∀ u', u ≤ u' → u' ≤ 3 → P36 (β c u')) ∨ (F.r13_DocPost_l27 K k c x78 u e0 e6 e7 = some (.inr (4, e0)) ∧ ∃ u', ¬ P36 (β c u')) := by
  intro k
  induction k with
  | zero => intro u _ _ h; omega
  | succ k ih =>
    intro u u0 u1 h
    unfold F.r13_DocPost_l27
    simp only [bi_eq]
    by_cases g : u < 4
    · obtain ⟨s, v, g0, g1, g2, g3⟩ := h7 c u c0 c1 u0 (by omega)
      have gc := sgB_cases g0 g3
      have hb := hβ c u
      rw [if_pos (decide_eq_true g), inr3 (n := 9) c0 (by omega), inr3 (n := 4) u0 g, if_pos rfl, if_pos rfl, rten_ok (by omega) (by omega) (by omega), oB, Nat.zero_add, g2]
      simp only [toL_l]
      rw [compare_ro, compare_ok (by omega) g0 (by rw [p10z36]; omega) (Nat.le_trans (len_top (by omega)) (by decide)), oB, p10z36]
      have hc : (decide (cmp3 v 1000000000000000000000000000000000000 > 0)) = decide (¬ P36 (β c u)) := by
        rw [decide_eq_decide]
        unfold P36 cmp3
        split
        · omega
        · split <;> omega
      rw [hc]
      by_cases p : P36 (β c u)
      · rw [if_neg (by simpa using p), isucc u0 (by omega)]
        rcases ih (u + 1) (by omega) (by omega) (by omega) with ⟨j1, j2⟩ | ⟨j1, j2⟩
        · exact .inl ⟨j1, fun u' h1 h2 => by
            by_cases e : u' = u
            · rw [e]; exact p
            · exact j2 u' (by omega) h2⟩
        · exact .inr ⟨j1, j2⟩
      · rw [if_pos (by simpa using p)]
        exact .inr ⟨rfl, u, p⟩
    · rw [if_neg (by simpa using g)]
      exact .inl ⟨rfl, fun u' h1 h2 => by omega⟩
theorem doc24 {K : Nat} (hK : 40000 ≤ K) {e0 e6 e7 : List D} {β : Int → Int → Int} (h7 : C7 e7 β) (hβ : ∀ c u, -TOP < β c u ∧ β c u < TOP) : ∀ (k : Nat) (c : Int), 0 ≤ c → c ≤ 9 → (9 - c).toNat < k →
    (F.r13_DocPost_l24 K k c e0 e6 e7 = some (.inl (e0, e6, e7)) ∧ ∀ c' u', c ≤ c' → c' ≤ 8 → 0 ≤ u' → u' ≤ 3 → P36 (β c' u')) ∨ (F.r13_DocPost_l24 K k c e0 e6 e7 = some (.inr (4, e0)) ∧ ∃ c' u', ¬ P36 (β c' u')) := by
  intro k
  induction k with
  | zero => intro c _ _ h; omega
  | succ k ih =>
    intro c c0 c1 h
    unfold F.r13_DocPost_l24
    simp only [bi_eq]
    by_cases g : c < 9
    · rw [if_pos (decide_eq_true g)]
      rcases doc27 (K := K) (e0 := e0) (e6 := e6) (x78 := c) hK h7 hβ c0 (by omega) K 0 (by omega) (by omega) (by omega) with ⟨j1, j2⟩ | ⟨j1, j2⟩
      · rw [j1]
        simp only [casO, oB]
        rw [isucc c0 (by omega)]
        rcases ih (c + 1) (by omega) (by omega) (by omega) with ⟨i1, i2⟩ | ⟨i1, i2⟩
        · exact .inl ⟨i1, fun c' u' h1 h2 h3 h4 => by
            by_cases e : c' = c
            · rw [e]; exact j2 u' h3 h4
            · exact i2 c' u' (by omega) h2 h3 h4⟩
        · exact .inr ⟨i1, i2⟩
      · rw [j1]
        exact .inr ⟨rfl, c, j2⟩
    · rw [if_neg (by simpa using g)]
      exact .inl ⟨rfl, fun c' u' h1 h2 => by omega⟩
theorem doc34 {K : Nat} {e0 e6 e7 : List D} {S : Int → Int} (h6 : C6 e6 S) {a0 a1 a2 a3 : Bool} {v0 v1 v2 v3 : Int} (p0 : 0 ≤ v0) (p1 : 0 ≤ v1) (p2 : 0 ≤ v2) (p3 : 0 ≤ v3) (s0 : sgB a0 v0 = S 0) (s1 : sgB a1 v1 = S 1) (s2 : sgB a2 v2 = S 2) (s3 : sgB a3 v3 = S 3) : ∀ (k : Nat) (u : Int), 0 ≤ u → u ≤ 4 → (4 - u).toNat < k →
    (F.r13_DocPost_l34 K k a0 (asD (rl v0)) a1 (asD (rl v1)) a2 (asD (rl v2)) a3 (asD (rl v3)) u e0 e7 = some (.inl (e0, e7)) ∧ ∀ u', u ≤ u' → u' ≤ 3 → S u' = 0) ∨ (F.r13_DocPost_l34 K k a0 (asD (rl v0)) a1 (asD (rl v1)) a2 (asD (rl v2)) a3 (asD (rl v3)) u e0 e7 = some (.inr (15, e0)) ∧ ∃ u', S u' ≠ 0) := by
  intro k
  induction k with
  | zero => intro u _ _ h; omega
  | succ k ih =>
    intro u u0 u1 h
    unfold F.r13_DocPost_l34
    simp only [bi_eq, toL_l]
    by_cases g : u < 4
    · rw [if_pos (decide_eq_true g), inr3 (n := 4) u0 g, if_pos rfl, isucc u0 (by omega)]
      have fin : ∀ (r : Int), (r = 0 ↔ S u = 0) → ((if (r != 0) = true then some (Sum.inr (15, e0)) else F.r13_DocPost_l34 K k a0 (asD (rl v0)) a1 (asD (rl v1)) a2 (asD (rl v2)) a3 (asD (rl v3)) (u + 1) e0 e7) = some (.inl (e0, e7)) ∧ ∀ u', u ≤ u' → u' ≤ 3 → S u' = 0) ∨ ((if (r != 0) = true then some (Sum.inr (15, e0)) else F.r13_DocPost_l34 K k a0 (asD (rl v0)) a1 (asD (rl v1)) a2 (asD (rl v2)) a3 (asD (rl v3)) (u + 1) e0 e7) = some (.inr (15, e0)) ∧ ∃ u', S u' ≠ 0) := by
        intro r hr
        by_cases z : r = 0
        · rw [if_neg (by simpa using z)]
          rcases ih (u + 1) (by omega) (by omega) (by omega) with ⟨j1, j2⟩ | ⟨j1, j2⟩
          · exact .inl ⟨j1, fun u' h1 h2 => by
              by_cases e : u' = u
              · rw [e]; exact hr.1 z
              · exact j2 u' (by omega) h2⟩
          · exact .inr ⟨j1, j2⟩
        · rw [if_pos (by simpa using z)]
          exact .inr ⟨rfl, u, fun h => z (hr.2 h)⟩
      by_cases e3 : u = 3
      · subst e3
        obtain ⟨r, r1, r2⟩ := sign_cell K p3 s3
        rw [if_pos (by decide), r1, oB]
        exact fin r r2
      · rw [if_neg (by simpa using e3)]
        by_cases e2 : u = 2
        · subst e2
          obtain ⟨r, r1, r2⟩ := sign_cell K p2 s2
          rw [if_pos (by decide), r1, oB]
          exact fin r r2
        · rw [if_neg (by simpa using e2)]
          by_cases e1 : u = 1
          · subst e1
            obtain ⟨r, r1, r2⟩ := sign_cell K p1 s1
            rw [if_pos (by decide), r1, oB]
            exact fin r r2
          · rw [if_neg (by simpa using e1)]
            obtain rfl : u = 0 := by omega
            obtain ⟨r, r1, r2⟩ := sign_cell K p0 s0
            rw [if_pos (by decide), r1, oB]
            exact fin r r2
    · rw [if_neg (by simpa using g)]
      exact .inl ⟨rfl, fun u' h1 h2 => by omega⟩
structure RE (e : List D) (β : Int → Int → Int) (n : Int) : Prop where
  c7 : C7 e β
  n72 : (nth d0 e 72).toI = n
theorem sums_zero : C6 [D.b false, D.l [], D.b false, D.l [], D.b false, D.l [], D.b false, D.l []] fun _ => 0 := by
  intro u u0 u1
  have e : rl 0 = [] := rl_zero (by omega)
  have h : u = 0 ∨ u = 1 ∨ u = 2 ∨ u = 3 := by omega
  rcases h with rfl | rfl | rfl | rfl <;> exact ⟨false, 0, by omega, rfl, by rw [e]; rfl, rfl⟩
theorem docpost13 {K : Nat} {L : List (List D)} {q : List (List Int)} (hLQ : LQ L q) (hw : WL q) (hq : q.length < 4000000000000000000) (hK : q.length + 40000 < K) {e : List D} {β : Int → Int → Int} {n : Int} (he : RE e β n) (hz : Zb β) (hb : ∀ c u, P36 (β c u)) (n0 : 0 ≤ n) (n1 : n < 4000000000000000000) :
    ∃ e', F.r13_DocPost K e L = some (codeP β q, e') ∧ RE e' (nextP β q) (if codeP β q = 0 then n + 1 else n) := by
  unfold F.r13_DocPost
  simp only [toL_l]
  rcases doc_loop (K := K) (by omega) hLQ hw hq L e K 0 true _ e _ β n sums_zero he.c7 he.n72 (fun u => by simp) (fun c u => by have := hb c u; unfold P36 at this; omega) (by omega) (by omega) with ⟨j1, e6, e7, j2, j3, j4, j5⟩ | ⟨j1, j2⟩
  · rw [List.drop_zero] at j1 j2 j3 j4
    rw [hLQ.1, show (0 : Int) = ((0 : Nat) : Int) from rfl, j2]
    simp only [casO, oB, bi_eq, Bool.true_and, hLQ.1]
    by_cases l : q.length > 16
    · have hc : chk q = 2 := by unfold chk; rw [if_neg (by simp [j1]), if_pos l]
      have hcode : codeP β q = 2 := by unfold codeP; rw [hc, if_pos (by decide)]
      have hn : nextP β q = β := by unfold nextP; rw [hcode, if_neg (by decide)]
      rw [if_pos (by simp; omega), hcode, hn, if_neg (by decide)]
      exact ⟨e, rfl, he⟩
    · rw [if_neg (by simp; omega)]
      cases m : allM q with
      | false =>
        have hc : chk q = 3 := by unfold chk; rw [if_neg (by simp [j1]), if_neg l, m, if_neg (by decide)]
        have hcode : codeP β q = 3 := by unfold codeP; rw [hc, if_pos (by decide)]
        have hn : nextP β q = β := by unfold nextP; rw [hcode, if_neg (by decide)]
        rw [Bool.not_false, if_pos rfl, hcode, hn, if_neg (by decide)]
        exact ⟨e, rfl, he⟩
      | true =>
        have hc : chk q = 0 := by unfold chk; rw [if_neg (by simp [j1]), if_neg l, m, if_pos rfl]
        have bd := addQ_bd m (by omega) hb
        rw [fM_all m] at j3 j4
        rw [Bool.not_true, if_neg (by decide)]
        have hz' := hz.add j1
        rcases doc24 (K := K) (e0 := e) (e6 := e6) (by omega) j4 (fun c u => by have := bd c u; unfold TOP; omega) K 0 (by omega) (by omega) (by omega) with ⟨i1, i2⟩ | ⟨i1, i2⟩
        · rw [show ((0 : Nat) : Int) = (0 : Int) from rfl, i1]
          have g : ∀ c u, P36 (addQ β q c u) := fun c u => by
            by_cases o : okA c u
            · exact i2 c u (by have := o.1; omega) o.2.1 o.2.2.1 o.2.2.2
            · rw [hz' c u o]; unfold P36; omega
          simp only [oB]
          obtain ⟨a0, v0, p0, b0, d0', s0⟩ := j3 0 (by omega) (by omega)
          obtain ⟨a1, v1, p1, b1, d1', s1⟩ := j3 1 (by omega) (by omega)
          obtain ⟨a2, v2, p2, b2, d2', s2⟩ := j3 2 (by omega) (by omega)
          obtain ⟨a3, v3, p3, b3, d3', s3⟩ := j3 3 (by omega) (by omega)
          have b0 : (nth d0 e6 0).toB = a0 := b0
          have b1 : (nth d0 e6 2).toB = a1 := b1
          have b2 : (nth d0 e6 4).toB = a2 := b2
          have b3 : (nth d0 e6 6).toB = a3 := b3
          have d0' : (nth d0 e6 1).toL = asD (rl v0) := d0'
          have d1' : (nth d0 e6 3).toL = asD (rl v1) := d1'
          have d2' : (nth d0 e6 5).toL = asD (rl v2) := d2'
          have d3' : (nth d0 e6 7).toL = asD (rl v3) := d3'
          rw [b0, b1, b2, b3, d0', d1', d2', d3']
          rcases doc34 (K := K) (e0 := e) (e7 := e7) j3 p0 p1 p2 p3 s0 s1 s2 s3 K 0 (by omega) (by omega) (by omega) with ⟨t1, t2⟩ | ⟨t1, t2⟩
          · rw [t1]
            simp only [oB]
            have g2 : ∀ u, sumC u q = 0 := fun u => by
              by_cases o : 0 ≤ u ∧ u ≤ 3
              · have := t2 u o.1 o.2; omega
              · exact sumC_bad j1 o
            have hcode : codeP β q = 0 := by unfold codeP; rw [if_neg (by simpa using hc), if_neg (by simpa using g), if_neg (by simpa using g2)]
            have hn : nextP β q = addQ β q := by unfold nextP; rw [if_pos hcode]
            rw [hcode, hn, if_pos rfl, j5, iw (by omega) (by omega)]
            refine ⟨_, rfl, ⟨fun c u c0 c1 u0 u1 => ?_, ?_⟩⟩
            · obtain ⟨s, v, g0, g1, g2, g3⟩ := j4 c u c0 c1 u0 u1
              refine ⟨s, v, g0, ?_, ?_, g3⟩
              · rw [nth_setP, if_neg (by omega)]; exact g1
              · rw [nth_setP, if_neg (by omega)]; exact g2
            · rw [nth_setP, if_pos rfl]; rfl
          · rw [t1]
            have g2 : ¬ ∀ u, sumC u q = 0 := fun h => by
              obtain ⟨u, hu⟩ := t2
              exact hu (by rw [h u]; rfl)
            have hcode : codeP β q = 15 := by unfold codeP; rw [if_neg (by simpa using hc), if_neg (by simpa using g), if_pos g2]
            have hn : nextP β q = β := by unfold nextP; rw [hcode, if_neg (by decide)]
            rw [hcode, hn, if_neg (by decide)]
            exact ⟨e, rfl, he⟩
        · rw [show ((0 : Nat) : Int) = (0 : Int) from rfl, i1]
          have g : ¬ ∀ c u, P36 (addQ β q c u) := fun h => by obtain ⟨c, u, hu⟩ := i2; exact hu (h c u)
          have hcode : codeP β q = 4 := by unfold codeP; rw [if_neg (by simpa using hc), if_pos g]
          have hn : nextP β q = β := by unfold nextP; rw [hcode, if_neg (by decide)]
          rw [hcode, hn, if_neg (by decide)]
          exact ⟨e, rfl, he⟩
  · rw [List.drop_zero] at j1
    rw [hLQ.1, show (0 : Int) = ((0 : Nat) : Int) from rfl, j2]
    have hc : chk q = 1 := by unfold chk; rw [if_pos j1]
    have hcode : codeP β q = 1 := by unfold codeP; rw [hc, if_pos (by decide)]
    have hn : nextP β q = β := by unfold nextP; rw [hcode, if_neg (by decide)]
    rw [hcode, hn, if_neg (by decide)]
    exact ⟨e, rfl, he⟩
def zl : List D := (List.replicate 36 [D.b false, D.l []]).flatten ++ [D.i 0]
theorem zl7 : C7 zl fun _ _ => 0 := by
  intro c u c0 c1 u0 u1
  have e : rl 0 = [] := rl_zero (by omega)
  have h : u = 0 ∨ u = 1 ∨ u = 2 ∨ u = 3 := by omega
  have h' : c = 0 ∨ c = 1 ∨ c = 2 ∨ c = 3 ∨ c = 4 ∨ c = 5 ∨ c = 6 ∨ c = 7 ∨ c = 8 := by omega
  rcases h with rfl | rfl | rfl | rfl <;> rcases h' with rfl | rfl | rfl | rfl | rfl | rfl | rfl | rfl | rfl <;> exact ⟨false, 0, by omega, rfl, by rw [e]; rfl, rfl⟩
theorem zl72 : (nth d0 zl 72).toI = 0 := rfl
end Go.Proofs.Ytimhhefngigfeaa.Wide
