/- Chart: the law ChartPosts. Conditions: none here. -/
import Derived.Test.YtimhhefngigfeaaPHs
import Derived.Test.YtimhhefngigfeaaPHk
import Derived.Test.YtimhhefngigfeaaFQ
set_option linter.unusedVariables false
set_option linter.unusedSimpArgs false
namespace Go.Proofs.Ytimhhefngigfeaa.Wide
open Go Go.RowKit Go.Proofs.Ytimhhefngigfeaa.Vm
theorem posts_loop {K : Nat} (hK : 3518437300000 ≤ K) {dd : List (List D)} (hd : DOk (.sl [.sl LSh]) (.l dd)) (hf : DFit reachBytes (.sl [.sl LSh]) (.l dd)) : ∀ (k i : Nat) (m : List (List Int × List Int)) (β : Int → Int → Int) (n : Int) (e : List D), i ≤ 60 → i ≤ dd.length → LM okA m β → RE e β n → Zb β → (∀ c u, P36 (β c u)) → 0 ≤ n → n ≤ i → 61 - i < k →
    F.law13_ChartPosts_l5 K k dd (dd.length : Int) (i : Int) m n e = some (.inl ()) := by
  intro k
  induction k with
  | zero => intro i m β n e _ _ _ _ _ _ _ _ h; omega
  | succ k ih =>
    intro i m β n e hi hl hL he hz hb n0 n1 hk
    unfold F.law13_ChartPosts_l5
    simp only [bi_eq]
    by_cases c : i < dd.length
    · rw [if_pos (by simp; omega), Int.toNat_natCast, if_pos (inb c)]
      by_cases c60 : i ≥ 60
      · rw [if_pos (by simp; omega)]
      · rw [if_neg (by simp; omega)]
        have hw : WL (asQ (nth d0 (nth [] dd i) 0).toL) := entry_wl hd c
        have ht : (nth d0 (nth [] dd i) 0).toL.length * 40 ≤ 140737488351232 := entry_fit hf c
        have hq := asQ_LQ (nth d0 (nth [] dd i) 0).toL
        have hql := asQ_len (nth d0 (nth [] dd i) 0).toL
        simp only [toL_l, List.nil_append, Int.toNat_natCast, Nat.sub_zero, List.drop_zero, Bool.true_and]
        generalize (nth d0 (nth [] dd i) 0).toL = E at hw ht hq hql ⊢
        have t1 : (List.take E.length (asQ E ++ [[77, 0, 0, 0, 0]])) = asQ E := by rw [List.take_append_of_le_length (by omega), List.take_of_length_le (by omega)]
        have t2 : nth [] (asQ E ++ [[77, 0, 0, 0, 0]]) E.length = [77, 0, 0, 0, 0] := by
          rw [nth_eq, List.getD_eq_getElem?_getD, List.getElem?_append_right (by omega), hql, Nat.sub_self]; rfl
        have t3 : (asQ E ++ [[77, 0, 0, 0, 0]]).length = E.length + 1 := by rw [List.length_append, hql]; rfl
        simp only [t1, t2, t3, hql]
        obtain ⟨m', p1, p2, p3⟩ := post13 (K := K) hw (by omega) (by omega) hL hb n0 (by omega)
        obtain ⟨e', d1, d2⟩ := docpost13 (K := K) hq hw (by omega) (by omega) he hz hb n0 (by omega)
        have hs := same13 (K := K) hq (by omega) (by omega)
        rw [if_pos (decide_eq_true (by omega)), if_pos (decide_eq_true (by omega)), if_pos (by simp; omega), p1, oB, d1, oB]
        simp only
        rw [if_neg (by simp), if_pos (by simp; omega), hs, oB, Bool.not_true, if_neg (by decide), if_pos (by simp; omega), if_neg (by decide)]
        rw [alike13 (K := K) (by omega) p2 d2 p3, oB]
        simp only [Bool.not_true, Bool.false_eq_true, if_false]
        rw [wsucc (by omega)]
        exact ih (i + 1) m' _ _ e' (by omega) (by omega) p2 d2 (hz.next _) p3 (by split <;> omega) (by split <;> omega) (by omega)
    · rw [if_neg (by simp; omega)]
theorem β0_Z : Zb β0 := fun _ _ _ => rfl
theorem zl_RE : RE zl β0 0 := ⟨zl7, zl72⟩
theorem posts_eq (K : Nat) (dd : List (List D)) : F.law13_ChartPosts K dd = (F.law13_awake K).bind fun r0 => bi (!r0) (some false) ((F.ct_New K).bind fun r1 => casO (F.law13_ChartPosts_l5 K K dd (dd.length : Int) 0 r1.1 r1.2 zl) (fun _ => some true) (fun r => some r)) := by kernel_rfl
namespace L
theorem ChartPosts {dd : List (List D)} (w0 : DOk (.sl [.sl LSh]) (.l dd)) (hf : UFit reachBytes (.ro [.sl LSh]) (.d dd)) : ∃ K, F.law13_ChartPosts K dd = some true := by
  refine ⟨3518437300000, ?_⟩
  rw [posts_eq, awake13 (by omega)]
  have nw : F.ct_New 3518437300000 = some ([], 0) := rfl
  have := posts_loop (K := 3518437300000) (by omega) w0 hf 3518437300000 0 [] β0 0 zl (by omega) (by omega) (LM.empty okA) zl_RE β0_Z β0_P (by omega) (by omega) (by omega)
  simp only [oB, nw, bi_eq, Bool.not_true, Bool.false_eq_true, if_false]
  rw [show ((0 : Nat) : Int) = (0 : Int) from rfl] at this
  rw [this]
  rfl
end L
end Go.Proofs.Ytimhhefngigfeaa.Wide
