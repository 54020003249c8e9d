/- Chart: the document's Post to a nil ledger; the law ChartNil. Conditions: none here. -/
import Derived.Test.YtimhhefngigfeaaPHy
import Derived.Test.YtimhhefngigfeaaPHx
import Derived.Test.YtimhhefngigfeaaFT
import Derived.Test.YtimhhefngigfeaaVmZ
set_option linter.unusedVariables false
set_option linter.unusedSimpArgs false
namespace Go.Proofs.Ytimhhefngigfeaa.Wide
open Go Go.RowKit Go.Proofs.Ytimhhefngigfeaa.Vm
theorem docn_loop {K : Nat} (hK : 40000 ≤ K) {L : List (List D)} {q : List (List Int)} (hLQ : LQ L q) (hw : WL q) (hq : q.length < 4000000000000000000) (dd1 : List (List D)) : ∀ (k i : Nat) (f : Bool) (e6 e7 : List D) (S : Int → Int) (β : Int → Int → Int) (n : Int), C6 e6 S → C7 e7 β → (nth d0 e7 72).toI = n → (∀ u, -(i * 100000000000000000000000000000000) ≤ S u ∧ S u ≤ i * 100000000000000000000000000000000) → (∀ c u, -(1000000000000000000000000000000000000 + i * 100000000000000000000000000000000) ≤ β c u ∧ β c u ≤ 1000000000000000000000000000000000000 + i * 100000000000000000000000000000000) → q.length - i < k → i ≤ q.length →
    (allA (q.drop i) = true ∧ ∃ e6' e7', F.ref13_DocPost_ro_l7 K k dd1 f L (q.length : Int) (i : Int) e6 e7 = some (.inl (dd1, f && allM (q.drop i), e6', e7')) ∧ C6 e6' (fun u => S u + sumC u (fM (q.drop i))) ∧ C7 e7' (addQ β (fM (q.drop i))) ∧ (nth d0 e7' 72).toI = n) ∨
    (allA (q.drop i) = false ∧ F.ref13_DocPost_ro_l7 K k dd1 f L (q.length : Int) (i : Int) e6 e7 = some (.inr 1)) := by
  intro k
  induction k with
  | zero => intro i f e6 e7 S β n _ _ _ _ _ h _; omega
  | succ k ih =>
    intro i f e6 e7 S β n h6 h7 hn hS hβ h hi
    unfold F.ref13_DocPost_ro_l7
    by_cases c : i < q.length
    · have hx : wl q[i] := hw _ (List.getElem_mem c)
      have hj : ∀ j, j < 5 → (nth d0 (nth [] L i) j).toI = nth 0 q[i] j := fun j hj => by rw [hLQ.2 i c j hj, nth_lt [] c]
      rw [hLQ.1] at *
      simp only [bi_eq, Int.toNat_natCast, hj 0 (by omega), hj 1 (by omega), hj 2 (by omega), hj 3 (by omega), hj 4 (by omega), toL_l, Nat.zero_add]
      rw [if_pos (by simp; omega), if_pos (inb c), ris13, Option.bind_some, wsucc (by omega)]
      rw [List.drop_eq_getElem_cons c, allA_cons, allM_cons]
      generalize q[i] = x at hx ⊢
      by_cases a : okA (nth 0 x 0) (nth 0 x 1)
      · rw [decide_eq_true a, Bool.not_true, if_neg (by decide)]
        obtain ⟨s, v, hu, hv⟩ := units13 hK hx
        rw [hu, Option.bind_some]
        simp only [Bool.true_and]
        by_cases o : okM x
        · obtain ⟨v0, v1, v2⟩ := hv o
          have hm3 := o.2.2
          obtain ⟨a1, a2, a3, a4⟩ := a
          rw [decide_eq_true o, fM_pos o]
          have hSu := hS (nth 0 x 1)
          have hβu := hβ (nth 0 x 0) (nth 0 x 1)
          obtain ⟨s6, w6, r1, r2, r3⟩ := cell_sum (K := K) (by omega) (h6 (nth 0 x 1) a3 a4) (by unfold TOP; omega) (by unfold TOP; omega) v0 (by unfold TOP; omega) v2
          obtain ⟨s7, w7, t1, t2, t3⟩ := cell_sum (K := K) (by omega) (h7 (nth 0 x 0) (nth 0 x 1) (by omega) a2 a3 a4) (by unfold TOP; omega) (by unfold TOP; omega) v0 (by unfold TOP; omega) v2
          simp only [if_true]
          rw [inr3 (n := 4) a3 (by omega), inr3 (n := 9) (c := nth 0 x 0) (by omega) (by omega)]
          simp only [if_true, r1, t1, Option.bind_some]
          have h6' : C6 (setP (setP e6 ((nth 0 x 1).toNat * 2) (.b s6)) ((nth 0 x 1).toNat * 2 + 1) (.l (asD (rl w6)))) (fun u => if nth 0 x 1 = u then S (nth 0 x 1) + am x else S u) := by
            intro u u0 u1
            by_cases g : nth 0 x 1 = u
            · subst g
              simp only [if_true]
              exact cellI_set _ _ r2 r3
            · simp only [if_neg g]
              have : u.toNat ≠ (nth 0 x 1).toNat := by omega
              exact cellI_ne (h6 u u0 u1) (by omega) (by omega) (by omega)
          have h7' : C7 (setP (setP e7 ((nth 0 x 0).toNat * 8 + (nth 0 x 1).toNat * 2) (.b s7)) ((nth 0 x 0).toNat * 8 + (nth 0 x 1).toNat * 2 + 1) (.l (asD (rl w7)))) (fun c u => if nth 0 x 0 = c ∧ nth 0 x 1 = u then β (nth 0 x 0) (nth 0 x 1) + am x else β c u) := by
            intro c' u c0 c1 u0 u1
            by_cases g : nth 0 x 0 = c' ∧ nth 0 x 1 = u
            · obtain ⟨g1, g2⟩ := g
              subst g1 g2
              simp only [and_self, if_true]
              exact cellI_set _ _ t2 t3
            · simp only [if_neg g]
              have : c'.toNat ≠ (nth 0 x 0).toNat ∨ u.toNat ≠ (nth 0 x 1).toNat := by omega
              have q1 : (nth 0 x 0).toNat ≤ 8 ∧ (nth 0 x 1).toNat ≤ 3 ∧ u.toNat ≤ 3 := by omega
              exact cellI_ne (h7 c' u c0 c1 u0 u1) (by omega) (by omega) (by omega)
          have hn' : (nth d0 (setP (setP e7 ((nth 0 x 0).toNat * 8 + (nth 0 x 1).toNat * 2) (.b s7)) ((nth 0 x 0).toNat * 8 + (nth 0 x 1).toNat * 2 + 1) (.l (asD (rl w7)))) 72).toI = n := by
            rw [nth_setP, if_neg (by omega), nth_setP, if_neg (by omega)]; exact hn
          have hS' : ∀ u, -((i + 1 : Nat) * 100000000000000000000000000000000) ≤ (if nth 0 x 1 = u then S (nth 0 x 1) + am x else S u) ∧ (if nth 0 x 1 = u then S (nth 0 x 1) + am x else S u) ≤ (i + 1 : Nat) * 100000000000000000000000000000000 := fun u => by
            have := hS u
            split <;> omega
          have hβ' : ∀ c u, -(1000000000000000000000000000000000000 + (i + 1 : Nat) * 100000000000000000000000000000000) ≤ (if nth 0 x 0 = c ∧ nth 0 x 1 = u then β (nth 0 x 0) (nth 0 x 1) + am x else β c u) ∧ (if nth 0 x 0 = c ∧ nth 0 x 1 = u then β (nth 0 x 0) (nth 0 x 1) + am x else β c u) ≤ 1000000000000000000000000000000000000 + (i + 1 : Nat) * 100000000000000000000000000000000 := fun c u => by
            have := hβ c u
            split <;> omega
          have eS : ∀ u, (if nth 0 x 1 = u then S (nth 0 x 1) + am x else S u) + sumC u (fM (q.drop (i + 1))) = S u + sumC u (x :: fM (q.drop (i + 1))) := fun u => by
            simp only [sumC]
            by_cases g : nth 0 x 1 = u
            · rw [if_pos g, if_pos g, g]; omega
            · rw [if_neg g, if_neg g]; omega
          have eβ : ∀ c u, addQ (fun c u => if nth 0 x 0 = c ∧ nth 0 x 1 = u then β (nth 0 x 0) (nth 0 x 1) + am x else β c u) (fM (q.drop (i + 1))) c u = addQ β (x :: fM (q.drop (i + 1))) c u := fun c u => by
            unfold addQ
            simp only [sumL]
            by_cases g : nth 0 x 0 = c ∧ nth 0 x 1 = u
            · rw [if_pos g, if_pos g, g.1, g.2]; omega
            · rw [if_neg g, if_neg g]; omega
          have hif : ∀ {α : Type} (A : Bool → α), (if f = true then A true else A false) = A f := fun A => by cases f <;> rfl
          rw [hif (fun f => F.ref13_DocPost_ro_l7 K k dd1 f L (q.length : Int) ((i + 1 : Nat) : Int) (setP (setP e6 ((nth 0 x 1).toNat * 2) (.b s6)) ((nth 0 x 1).toNat * 2 + 1) (.l (asD (rl w6)))) (setP (setP e7 ((nth 0 x 0).toNat * 8 + (nth 0 x 1).toNat * 2) (.b s7)) ((nth 0 x 0).toNat * 8 + (nth 0 x 1).toNat * 2 + 1) (.l (asD (rl w7)))))]
          rcases ih (i + 1) f _ _ _ _ n h6' h7' hn' hS' hβ' (by omega) (by omega) with ⟨j1, e6', e7', j2, j3, j4, j5⟩ | ⟨j1, j2⟩
          · refine .inl ⟨j1, e6', e7', by rw [j2, Bool.true_and], fun u u0 u1 => by have := j3 u u0 u1; simp only at this; rw [eS] at this; exact this, fun c u c0 c1 u0 u1 => by have := j4 c u c0 c1 u0 u1; rw [eβ] at this; exact this, j5⟩
          · exact .inr ⟨j1, j2⟩
        · rw [decide_eq_false o, fM_neg o]
          simp only [Bool.false_eq_true, if_false, Bool.false_and, Bool.and_false, ite_self]
          rcases ih (i + 1) false e6 e7 S β n h6 h7 hn (fun u => by have := hS u; omega) (fun c u => by have := hβ c u; omega) (by omega) (by omega) with ⟨j1, e6', e7', j2, j3, j4, j5⟩ | ⟨j1, j2⟩
          · rw [Bool.false_and] at j2
            exact .inl ⟨j1, e6', e7', j2, j3, j4, j5⟩
          · exact .inr ⟨j1, j2⟩
      · rw [decide_eq_false a, Bool.not_false, if_pos rfl]
        exact .inr ⟨rfl, rfl⟩
    · have : i = q.length := by omega
      subst this
      simp only [bi_eq]
      rw [if_neg (by simp), List.drop_length]
      exact .inl ⟨rfl, e6, e7, by simp [allM, toL_l], fun u u0 u1 => by have := h6 u u0 u1; simpa [fM, sumC] using this, fun c u c0 c1 u0 u1 => by have := h7 c u c0 c1 u0 u1; simpa [fM, addQ, sumL] using this, hn⟩
theorem docpostn_eq (K : Nat) (L : List (List D)) : F.ref13_DocPost_ro K L = casO (F.ref13_DocPost_ro_l7 K K L true L (L.length : Int) 0 [D.b false, D.l [], D.b false, D.l [], D.b false, D.l [], D.b false, D.l []] zl) (fun r0 => bi (decide ((r0.1.length : Int) > 16)) (some 2) (bi (!r0.2.1) (some 3) (some 7))) (fun r => some r) := by kernel_rfl
theorem docpostn13 {K : Nat} {L : List (List D)} {q : List (List Int)} (hLQ : LQ L q) (hw : WL q) (hq : q.length < 4000000000000000000) (hK : q.length + 40000 < K) : F.ref13_DocPost_ro K L = some (if chk q = 0 then 7 else chk q) := by
  rw [docpostn_eq]
  rcases docn_loop (K := K) (by omega) hLQ hw hq L K 0 true _ _ _ _ 0 sums_zero zl7 zl72 (fun u => by simp) (fun c u => by simp) (by omega) (by omega) with ⟨j1, e6, e7, j2, j3, j4, j5⟩ | ⟨j1, j2⟩
  · rw [List.drop_zero] at j1 j2
    have j2' := j2
    rw [← hLQ.1] at j2'
    rw [show ((0 : Nat) : Int) = (0 : Int) from rfl] at j2'
    rw [j2']
    simp only [casO, Option.bind_some, bi_eq, Bool.true_and, hLQ.1]
    by_cases l : q.length > 16
    · have hc : chk q = 2 := by unfold chk; rw [if_neg (by simp [j1]), if_pos l]
      rw [if_pos (by simp; omega), hc, if_neg (by decide)]
    · rw [if_neg (by simp; omega)]
      cases m : allM q with
      | false =>
        have hc : chk q = 3 := by unfold chk; rw [if_neg (by simp [j1]), if_neg l, m, if_neg (by decide)]
        rw [Bool.not_false, if_pos rfl, hc, if_neg (by decide)]
      | true =>
        have hc : chk q = 0 := by unfold chk; rw [if_neg (by simp [j1]), if_neg l, m, if_pos rfl]
        rw [Bool.not_true, if_neg (by decide), hc, if_pos rfl]
  · rw [List.drop_zero] at j1
    have j2' := j2
    rw [← hLQ.1] at j2'
    rw [show ((0 : Nat) : Int) = (0 : Int) from rfl] at j2'
    rw [j2']
    have hc : chk q = 1 := by unfold chk; rw [if_pos j1]
    rw [hc, if_neg (by decide)]
    rfl
theorem ChartNil {K : Nat} {q : List (List Int)} (hw : WL q) (hq : q.length ≤ 3518437208883) (hK : q.length + 50000 < K) : F.law13_ChartNil K q = some true := by
  unfold F.law13_ChartNil
  rw [awake13 (by omega), Option.bind_some]
  simp only [bi_eq, if_true, toL_l, List.nil_append]
  rw [if_pos (decide_eq_true (by omega)), docpostn13 (asL_LQ q) hw (by omega) (by omega)]
  unfold F.cL_Post_ro
  rw [check13 hw (by omega) (by omega)]
  simp only [Option.bind_some, bi_eq]
  by_cases h : chk q = 0
  · rw [h]; rfl
  · rw [if_pos (by simpa using h), if_neg h]; simp
namespace L
theorem ChartNil {q : List (List Int)} (w0 : q.length ≤ maxLen ∧ ∀ y ∈ q, KsOk [.i64, .i64, .i64, .u64, .i64] y) (hf : UFit reachBytes (.recs [.i64, .i64, .i64, .u64, .i64] false) (.rr q)) : ∃ K, F.law13_ChartNil K q = some true := by
  have hl : q.length * 40 ≤ 140737488351232 := hf
  exact ⟨q.length + 50001, Wide.ChartNil (fun x hx => wl_ks (w0.2 x hx)) (by omega) (by omega)⟩
end L
end Go.Proofs.Ytimhhefngigfeaa.Wide
