/- The insertion sort of shares. Conditions: rows of three numbers. -/
import Derived.Test.YtfeifhlnidkbbaaPMb
import Derived.Test.YtfeifhlnidkbbaaPSa
set_option linter.unusedVariables false
set_option linter.unusedSimpArgs false
namespace Go.Proofs.Ytfeifhlnidkbbaa.Wide
open Go Go.RowKit Go.Proofs.Ytfeifhlnidkbbaa.Vm
theorem compareU_ok (K : Nat) (a b : Int) : F.cmp_Compare_uint64_ K a b = some (cmp3' a b) := by
  unfold F.cmp_Compare_uint64_ F.cmp_isNaN_uint64_ cmp3'
  simp only [Option.bind_some, bi_eq, bne_self_eq_false, Bool.false_eq_true, if_false]
  by_cases h : a < b
  · rw [if_pos (by simpa using h), if_pos h]
  · rw [if_neg (by simpa using h), if_neg h]
    by_cases h2 : a > b
    · rw [if_pos (by simpa using h2), if_pos h2]
    · rw [if_neg (by simpa using h2), if_neg h2]
theorem split1_ok (K : Nat) (a0 a1 a2 b0 b1 b2 : Int) : F.money_Split_1 K a0 a1 a2 b0 b1 b2 = some (cmp3' b1 a1) := by
  unfold F.money_Split_1
  rw [compareU_ok, Option.bind_some]
theorem cmp3_neg (a b : Int) : (cmp3' a b < 0) ↔ a < b := by
  unfold cmp3'
  split
  · omega
  · split <;> omega
/-- Rows of three. -/
def W3 (l : List Rw) : Prop := ∀ r ∈ l, r.length = 3
theorem W3.mv {l m : List Rw} {a b : Nat} (h : W3 l) (k : Mv l m a b) : W3 m := fun r hr => h r (k.perm.mem_iff.1 hr)
theorem row3 {l : List Rw} (h : W3 l) {i : Nat} (hi : i < l.length) : [nth 0 (nth [] l i) 0, nth 0 (nth [] l i) 1, nth 0 (nth [] l i) 2] = nth [] l i := by
  rw [nth_get l hi]
  have := h l[i] (List.getElem_mem hi)
  match hx : l[i], this with
  | [a, b, c], _ => rfl
theorem ins_step {K k : Nat} {l : List Rw} {a b i j : Nat} (hw : W3 l) (hl : l.length ≤ 1000000) (ha : a < j) (hj : j < l.length) :
    F.slices_insertionSortCmpFunc_money_share__l4 K (k + 1) a b i j l = if nth 0 (nth [] l (j - 1)) 1 < nth 0 (nth [] l j) 1 then F.slices_insertionSortCmpFunc_money_share__l4 K k a b i ((j - 1 : Nat) : Int) (swp l j (j - 1)) else some ((a : Int), (b : Int), (i : Int), l) := by
  have e : IntKind.i64.wrap ((j : Int) - 1) = ((j - 1 : Nat) : Int) := by rw [iw (by omega) (by omega)]; omega
  have c1 : (decide (0 ≤ (j : Int)) && decide ((j : Int) < (l.length : Int))) = true := by simp; omega
  have c2 : (decide (0 ≤ ((j - 1 : Nat) : Int)) && decide (((j - 1 : Nat) : Int) < (l.length : Int))) = true := by simp; omega
  rw [F.slices_insertionSortCmpFunc_money_share__l4]
  simp only [bi_eq]
  rw [if_pos (by simp; omega)]
  simp only [e, Int.toNat_natCast, row3 hw hj, row3 hw (show j - 1 < l.length by omega), split1_ok, Option.bind_some, List.length_set]
  rw [c1, c2, if_pos rfl, if_pos rfl]
  by_cases h : nth 0 (nth [] l (j - 1)) 1 < nth 0 (nth [] l j) 1
  · rw [if_pos (by simpa using (cmp3_neg _ _).2 h), if_pos rfl, if_pos rfl, if_pos rfl, if_pos rfl, if_pos h]
    rfl
  · rw [if_neg (by simpa using fun k => h ((cmp3_neg _ _).1 k)), if_neg h]
theorem ins_in {K : Nat} {a b i : Nat} : ∀ (k j : Nat) (l : List Rw), W3 l → l.length ≤ 1000000 → a ≤ j → j ≤ i → i < l.length → j - a < k → Srt l a j → Srt l j (i + 1) →
    (∀ s t, a ≤ s → s < j → j < t → t ≤ i → Lt (nth [] l s) (nth [] l t)) → (∀ s, a ≤ s → s < j → nth 0 (nth [] l s) 0 < nth 0 (nth [] l j) 0) →
    ∃ l', F.slices_insertionSortCmpFunc_money_share__l4 K k a b i j l = some ((a : Int), (b : Int), (i : Int), l') ∧ Mv l l' a (i + 1) ∧ Srt l' a (i + 1)
  | 0, j, l, _, _, _, _, _, hk, _, _, _, _ => by omega
  | k + 1, j, l, hw, hl, ha, hj, hi, hk, h1, h2, h3, h4 => by
    by_cases e : j = a
    · subst e
      refine ⟨l, ?_, Mv.refl _ _ _, h2⟩
      rw [F.slices_insertionSortCmpFunc_money_share__l4, bi_eq, if_neg (by simp)]
    rw [ins_step hw hl (by omega) (by omega)]
    by_cases c : nth 0 (nth [] l (j - 1)) 1 < nth 0 (nth [] l j) 1
    · rw [if_pos c]
      have hji : j < l.length := by omega
      have hjj : j - 1 < l.length := by omega
      have mv : Mv l (swp l j (j - 1)) a (i + 1) := swp_mv hji hjj (by omega) (by omega) (by omega) (by omega)
      have n1 : nth [] (swp l j (j - 1)) (j - 1) = nth [] l j := by rw [swp_nth hji hjj, if_pos rfl]
      have n2 : nth [] (swp l j (j - 1)) j = nth [] l (j - 1) := by rw [swp_nth hji hjj, if_neg (by omega), if_pos rfl]
      have n3 : ∀ q, q ≠ j → q ≠ j - 1 → nth [] (swp l j (j - 1)) q = nth [] l q := fun q q1 q2 => by rw [swp_nth hji hjj, if_neg q2, if_neg q1]
      obtain ⟨l', r1, r2, r3⟩ := ins_in (K := K) (a := a) (b := b) (i := i) k (j - 1) (swp l j (j - 1)) (hw.mv mv) (by rw [mv.len]; exact hl) (by omega) (by omega) (by rw [mv.len]; exact hi) (by omega)
        (fun s t s1 s2 s3 => by rw [n3 s (by omega) (by omega), n3 t (by omega) (by omega)]; exact h1 s t s1 s2 (by omega))
        (fun s t s1 s2 s3 => by
          by_cases es : s = j - 1
          · subst es
            rw [n1]
            by_cases et : t = j
            · subst et; rw [n2]; exact .inl c
            · rw [n3 t et (by omega)]; exact h2 j t (by omega) (by omega) s3
          · by_cases es2 : s = j
            · subst es2
              rw [n2, n3 t (by omega) (by omega)]
              exact h3 (s - 1) t (by omega) (by omega) (by omega) (by omega)
            · rw [n3 s es2 es, n3 t (by omega) (by omega)]
              exact h2 s t (by omega) s2 s3)
        (fun s t s1 s2 s3 s4 => by
          rw [n3 s (by omega) (by omega)]
          by_cases et : t = j
          · subst et; rw [n2]; exact h1 s (t - 1) s1 s2 (by omega)
          · rw [n3 t et (by omega)]; exact h3 s t s1 (by omega) (by omega) s4)
        (fun s s1 s2 => by rw [n1, n3 s (by omega) (by omega)]; exact h4 s s1 (by omega))
      exact ⟨l', r1, mv.trans r2, r3⟩
    · rw [if_neg c]
      have last : Lt (nth [] l (j - 1)) (nth [] l j) := by
        have := h4 (j - 1) (by omega) (by omega)
        unfold Lt; omega
      refine ⟨l, rfl, Mv.refl _ _ _, h1.join h2 fun s t s1 s2 t1 t2 => ?_⟩
      by_cases et : t = j
      · subst et
        by_cases es : s = t - 1
        · subst es; exact last
        · exact (h1 s (t - 1) s1 (by omega) (by omega)).trans last
      · exact h3 s t s1 s2 (by omega) (by omega)
theorem ins_out {K a b : Nat} (hK : b < a + K) : ∀ (k i : Nat) (l : List Rw), W3 l → l.length ≤ 1000000 → a < i → b ≤ l.length → b - i < k → Srt l a i →
    (∀ s t, a ≤ s → s < t → i ≤ t → t < b → nth 0 (nth [] l s) 0 < nth 0 (nth [] l t) 0) →
    ∃ l', F.slices_insertionSortCmpFunc_money_share__l1 K k a b i l = some l' ∧ Mv l l' a b ∧ Srt l' a b
  | 0, i, l, _, _, _, _, hk, _, _ => by omega
  | k + 1, i, l, hw, hl, ha, hb, hk, h1, h2 => by
    rw [F.slices_insertionSortCmpFunc_money_share__l1, bi_eq]
    by_cases c : i < b
    · obtain ⟨l1, r1, r2, r3⟩ := ins_in (K := K) (a := a) (b := b) (i := i) K i l hw hl (by omega) (by omega) (by omega) (by omega) h1 (fun s t s1 s2 s3 => by omega) (fun s t s1 s2 s3 s4 => by omega) (fun s s1 s2 => h2 s i s1 s2 (by omega) c)
      rw [if_pos (by simpa using c), r1, Option.bind_some]
      simp only
      rw [show IntKind.i64.wrap ((i : Int) + 1) = ((i + 1 : Nat) : Int) by rw [iw (by omega) (by omega)]; omega]
      obtain ⟨l2, s1, s2, s3⟩ := ins_out hK k (i + 1) l1 (hw.mv r2) (by rw [r2.len]; exact hl) (by omega) (by rw [r2.len]; exact hb) (by omega) r3 fun s t t1 t2 t3 t4 => by
        rw [r2.out t (.inr (by omega))]
        by_cases d : s < i + 1
        · obtain ⟨j, j1, j2, j3⟩ := r2.src s t1 d
          rw [j3]; exact h2 j t j1 (by omega) (by omega) t4
        · rw [r2.out s (.inr (by omega))]; exact h2 s t t1 t2 (by omega) t4
      exact ⟨l2, s1, (r2.widen (by omega) (by omega)).trans s2, s3⟩
    · rw [if_neg (by simpa using c)]
      exact ⟨l, rfl, Mv.refl _ _ _, fun s t s1 s2 s3 => h1 s t s1 s2 (by omega)⟩
/-- The insertion sort sorts a part whose rows stand in the order of their places. -/
theorem ins_sort {K a b : Nat} (hK : b < a + K) {l : List Rw} (hw : W3 l) (hl : l.length ≤ 1000000) (hab : a ≤ b) (hb : b ≤ l.length) (h : ∀ s t, a ≤ s → s < t → t < b → nth 0 (nth [] l s) 0 < nth 0 (nth [] l t) 0) :
    ∃ l', F.slices_insertionSortCmpFunc_money_share_ K l a b = some l' ∧ Mv l l' a b ∧ Srt l' a b := by
  obtain ⟨l', r1, r2, r3⟩ := ins_out hK K (a + 1) l hw hl (by omega) hb (by omega) (fun s t s1 s2 s3 => by omega) fun s t t1 t2 t3 t4 => h s t t1 t2 t4
  refine ⟨l', ?_, r2, r3⟩
  unfold F.slices_insertionSortCmpFunc_money_share_
  rw [show IntKind.i64.wrap ((a : Int) + 1) = ((a + 1 : Nat) : Int) by rw [iw (by omega) (by omega)]; omega, r1, Option.bind_some, bi_eq, if_pos (by simpa using r2.len)]
end Go.Proofs.Ytfeifhlnidkbbaa.Wide
