/- Several of my texts in one: plain facts about the printed functions. Conditions: none here. -/
import Derived.Test.YtfeifhlnidkbbaaVmB
import Derived.Test.YtfeifhlnidkbbaaPMb
import Derived.Test.YtfeifhlnidkbbaaPWa
import Derived.Test.YtfeifhlnidkbbaaFC
set_option linter.unusedVariables false
set_option linter.unusedSimpArgs false
namespace Go.Proofs.Ytfeifhlnidkbbaa.Wide
open Go Go.Proofs.Ytfeifhlnidkbbaa.Vm
abbrev Rw := List Int
/-- The order: the greater rest first; of equal ones the one that stood first. -/
def Lt (r s : Rw) : Prop := nth 0 s 1 < nth 0 r 1 ∨ (nth 0 r 1 = nth 0 s 1 ∧ nth 0 r 0 < nth 0 s 0)
theorem Lt.trans {r s t : Rw} (h : Lt r s) (k : Lt s t) : Lt r t := by unfold Lt at *; omega
/-- A mpart that is sorted. -/
def Srt (l : List Rw) (a b : Nat) : Prop := ∀ i j, a ≤ i → i < j → j < b → Lt (nth [] l i) (nth [] l j)
/-- Moved within a mpart. -/
structure Mv (l l' : List Rw) (a b : Nat) : Prop where
  len : l'.length = l.length
  out : ∀ i, (i < a ∨ b ≤ i) → nth [] l' i = nth [] l i
  perm : l'.Perm l
  src : ∀ i, a ≤ i → i < b → ∃ j, a ≤ j ∧ j < b ∧ nth [] l' i = nth [] l j
theorem Mv.refl (l : List Rw) (a b : Nat) : Mv l l a b := ⟨rfl, fun _ _ => rfl, List.Perm.refl _, fun i h k => ⟨i, h, k, rfl⟩⟩
theorem Mv.trans {l m n : List Rw} {a b : Nat} (h : Mv l m a b) (k : Mv m n a b) : Mv l n a b :=
  ⟨k.len.trans h.len, fun i hi => (k.out i hi).trans (h.out i hi), k.perm.trans h.perm, fun i h1 h2 => by
    obtain ⟨j, j1, j2, j3⟩ := k.src i h1 h2
    obtain ⟨q, q1, q2, q3⟩ := h.src j j1 j2
    exact ⟨q, q1, q2, j3.trans q3⟩⟩
theorem Mv.widen {l m : List Rw} {a b a' b' : Nat} (h : Mv l m a b) (ha : a' ≤ a) (hb : b ≤ b') : Mv l m a' b' :=
  ⟨h.len, fun i hi => h.out i (by omega), h.perm, fun i h1 h2 => by
    by_cases c : a ≤ i ∧ i < b
    · obtain ⟨j, j1, j2, j3⟩ := h.src i c.1 c.2
      exact ⟨j, by omega, by omega, j3⟩
    · exact ⟨i, h1, h2, h.out i (by omega)⟩⟩
theorem nthr_set (l : List Rw) (i j : Nat) (x : Rw) : nth [] (l.set i x) j = if j = i ∧ i < l.length then x else nth [] l j := by
  rw [← put_eq, nth_put]
theorem nth_get (l : List Rw) {i : Nat} (h : i < l.length) : nth [] l i = l[i] := by
  rw [nth_eq, List.getD_eq_getElem?_getD, List.getElem?_eq_getElem h]; rfl
/-- Two rows change their places. -/
def swp (l : List Rw) (i j : Nat) : List Rw := (l.set i (nth [] l j)).set j (nth [] l i)
theorem swp_nth {l : List Rw} {i j : Nat} (hi : i < l.length) (hj : j < l.length) (q : Nat) : nth [] (swp l i j) q = if q = j then nth [] l i else if q = i then nth [] l j else nth [] l q := by
  unfold swp
  rw [nthr_set, nthr_set, List.length_set]
  by_cases h : q = j
  · rw [if_pos ⟨h, hj⟩, if_pos h]
  · rw [if_neg (fun k => h k.1), if_neg h]
    by_cases h2 : q = i
    · rw [if_pos ⟨h2, hi⟩, if_pos h2]
    · rw [if_neg (fun k => h2 k.1), if_neg h2]
theorem swp_mv {l : List Rw} {a b i j : Nat} (hi : i < l.length) (hj : j < l.length) (i1 : a ≤ i) (i2 : i < b) (j1 : a ≤ j) (j2 : j < b) : Mv l (swp l i j) a b := by
  refine ⟨by simp [swp], fun q hq => ?_, ?_, fun q h1 h2 => ?_⟩
  · rw [swp_nth hi hj, if_neg (by omega), if_neg (by omega)]
  · unfold swp
    rw [nth_get l hi, nth_get l hj]
    exact List.set_set_perm hi hj
  · rw [swp_nth hi hj]
    by_cases h : q = j
    · rw [if_pos h]; exact ⟨i, i1, i2, rfl⟩
    · rw [if_neg h]
      by_cases h3 : q = i
      · rw [if_pos h3]; exact ⟨j, j1, j2, rfl⟩
      · rw [if_neg h3]; exact ⟨q, h1, h2, rfl⟩
/-- Two sorted parts, all of the one ahead of all of the other. -/
theorem Srt.join {l : List Rw} {a m b : Nat} (h : Srt l a m) (k : Srt l m b) (hx : ∀ i j, a ≤ i → i < m → m ≤ j → j < b → Lt (nth [] l i) (nth [] l j)) : Srt l a b := fun i j h1 h2 h3 => by
  by_cases c : j < m
  · exact h i j h1 h2 c
  · by_cases d : i < m
    · exact hx i j h1 d (by omega) h3
    · exact k i j (by omega) h2 h3
theorem Srt.of_out {l l' : List Rw} {a b : Nat} (h : Srt l a b) (e : ∀ i, a ≤ i → i < b → nth [] l' i = nth [] l i) : Srt l' a b := fun i j h1 h2 h3 => by
  rw [e i h1 (by omega), e j (by omega) h3]; exact h i j h1 h2 h3
end Go.Proofs.Ytfeifhlnidkbbaa.Wide

namespace Go.Proofs.Ytfeifhlnidkbbaa.Wide
open Go Go.RowKit Go.Proofs.Ytfeifhlnidkbbaa.Vm
theorem compareU_ok (K : Nat) (a b : Int) : F.cmp_Compare_uint64_ K a b = some (cmp3' a b) := by
  unfold F.cmp_Compare_uint64_ F.cmp_isNaN_uint64_ cmp3'
  simp only [Option.bind_some, bi_eq, bne_self_eq_false, Bool.false_eq_true, if_false]
  by_cases h : a < b
  · rw [if_pos (by simpa using h), if_pos h]
  · rw [if_neg (by simpa using h), if_neg h]
    by_cases h2 : a > b
    · rw [if_pos (by simpa using h2), if_pos h2]
    · rw [if_neg (by simpa using h2), if_neg h2]
theorem split1_ok (K : Nat) (a0 a1 a2 b0 b1 b2 : Int) : F.money_Split_1 K a0 a1 a2 b0 b1 b2 = some (cmp3' b1 a1) := by
  unfold F.money_Split_1
  rw [compareU_ok, Option.bind_some]
theorem cmp3p_neg (a b : Int) : (cmp3' a b < 0) ↔ a < b := by
  unfold cmp3'
  split
  · omega
  · split <;> omega
/-- Rows of three. -/
def W3 (l : List Rw) : Prop := ∀ r ∈ l, r.length = 3
theorem W3.mv {l m : List Rw} {a b : Nat} (h : W3 l) (k : Mv l m a b) : W3 m := fun r hr => h r (k.perm.mem_iff.1 hr)
theorem rows3 {l : List Rw} (h : W3 l) {i : Nat} (hi : i < l.length) : [nth 0 (nth [] l i) 0, nth 0 (nth [] l i) 1, nth 0 (nth [] l i) 2] = nth [] l i := by
  rw [nth_get l hi]
  have := h l[i] (List.getElem_mem hi)
  match hx : l[i], this with
  | [a, b, c], _ => rfl
theorem ins_step {K k : Nat} {l : List Rw} {a b i j : Nat} (hw : W3 l) (hl : l.length ≤ 1000000) (ha : a < j) (hj : j < l.length) :
    F.slices_insertionSortCmpFunc_money_share__l4 K (k + 1) a b i j l = if nth 0 (nth [] l (j - 1)) 1 < nth 0 (nth [] l j) 1 then F.slices_insertionSortCmpFunc_money_share__l4 K k a b i ((j - 1 : Nat) : Int) (swp l j (j - 1)) else some ((a : Int), (b : Int), (i : Int), l) := by
  have e : IntKind.i64.wrap ((j : Int) - 1) = ((j - 1 : Nat) : Int) := by rw [iw (by omega) (by omega)]; omega
  have c1 : (decide (0 ≤ (j : Int)) && decide ((j : Int) < (l.length : Int))) = true := by simp; omega
  have c2 : (decide (0 ≤ ((j - 1 : Nat) : Int)) && decide (((j - 1 : Nat) : Int) < (l.length : Int))) = true := by simp; omega
  rw [F.slices_insertionSortCmpFunc_money_share__l4]
  simp only [bi_eq]
  rw [if_pos (by simp; omega)]
  simp only [e, Int.toNat_natCast, rows3 hw hj, rows3 hw (show j - 1 < l.length by omega), split1_ok, Option.bind_some, List.length_set]
  rw [c1, c2, if_pos rfl, if_pos rfl]
  by_cases h : nth 0 (nth [] l (j - 1)) 1 < nth 0 (nth [] l j) 1
  · rw [if_pos (by simpa using (cmp3p_neg _ _).2 h), if_pos rfl, if_pos rfl, if_pos rfl, if_pos rfl, if_pos h]
    rfl
  · rw [if_neg (by simpa using fun k => h ((cmp3p_neg _ _).1 k)), if_neg h]
theorem ins_in {K : Nat} {a b i : Nat} : ∀ (k j : Nat) (l : List Rw), W3 l → l.length ≤ 1000000 → a ≤ j → j ≤ i → i < l.length → j - a < k → Srt l a j → Srt l j (i + 1) →
    (∀ s t, a ≤ s → s < j → j < t → t ≤ i → Lt (nth [] l s) (nth [] l t)) → (∀ s, a ≤ s → s < j → nth 0 (nth [] l s) 0 < nth 0 (nth [] l j) 0) →
    ∃ l', F.slices_insertionSortCmpFunc_money_share__l4 K k a b i j l = some ((a : Int), (b : Int), (i : Int), l') ∧ Mv l l' a (i + 1) ∧ Srt l' a (i + 1)
  | 0, j, l, _, _, _, _, _, hk, _, _, _, _ => by omega
  | k + 1, j, l, hw, hl, ha, hj, hi, hk, h1, h2, h3, h4 => by
    by_cases e : j = a
    · subst e
      refine ⟨l, ?_, Mv.refl _ _ _, h2⟩
      rw [F.slices_insertionSortCmpFunc_money_share__l4, bi_eq, if_neg (by simp)]
    rw [ins_step hw hl (by omega) (by omega)]
    by_cases c : nth 0 (nth [] l (j - 1)) 1 < nth 0 (nth [] l j) 1
    · rw [if_pos c]
      have hji : j < l.length := by omega
      have hjj : j - 1 < l.length := by omega
      have mv : Mv l (swp l j (j - 1)) a (i + 1) := swp_mv hji hjj (by omega) (by omega) (by omega) (by omega)
      have n1 : nth [] (swp l j (j - 1)) (j - 1) = nth [] l j := by rw [swp_nth hji hjj, if_pos rfl]
      have n2 : nth [] (swp l j (j - 1)) j = nth [] l (j - 1) := by rw [swp_nth hji hjj, if_neg (by omega), if_pos rfl]
      have n3 : ∀ q, q ≠ j → q ≠ j - 1 → nth [] (swp l j (j - 1)) q = nth [] l q := fun q q1 q2 => by rw [swp_nth hji hjj, if_neg q2, if_neg q1]
      obtain ⟨l', r1, r2, r3⟩ := ins_in (K := K) (a := a) (b := b) (i := i) k (j - 1) (swp l j (j - 1)) (hw.mv mv) (by rw [mv.len]; exact hl) (by omega) (by omega) (by rw [mv.len]; exact hi) (by omega)
        (fun s t s1 s2 s3 => by rw [n3 s (by omega) (by omega), n3 t (by omega) (by omega)]; exact h1 s t s1 s2 (by omega))
        (fun s t s1 s2 s3 => by
          by_cases es : s = j - 1
          · subst es
            rw [n1]
            by_cases et : t = j
            · subst et; rw [n2]; exact .inl c
            · rw [n3 t et (by omega)]; exact h2 j t (by omega) (by omega) s3
          · by_cases es2 : s = j
            · subst es2
              rw [n2, n3 t (by omega) (by omega)]
              exact h3 (s - 1) t (by omega) (by omega) (by omega) (by omega)
            · rw [n3 s es2 es, n3 t (by omega) (by omega)]
              exact h2 s t (by omega) s2 s3)
        (fun s t s1 s2 s3 s4 => by
          rw [n3 s (by omega) (by omega)]
          by_cases et : t = j
          · subst et; rw [n2]; exact h1 s (t - 1) s1 s2 (by omega)
          · rw [n3 t et (by omega)]; exact h3 s t s1 (by omega) (by omega) s4)
        (fun s s1 s2 => by rw [n1, n3 s (by omega) (by omega)]; exact h4 s s1 (by omega))
      exact ⟨l', r1, mv.trans r2, r3⟩
    · rw [if_neg c]
      have last : Lt (nth [] l (j - 1)) (nth [] l j) := by
        have := h4 (j - 1) (by omega) (by omega)
        unfold Lt; omega
      refine ⟨l, rfl, Mv.refl _ _ _, h1.join h2 fun s t s1 s2 t1 t2 => ?_⟩
      by_cases et : t = j
      · subst et
        by_cases es : s = t - 1
        · subst es; exact last
        · exact (h1 s (t - 1) s1 (by omega) (by omega)).trans last
      · exact h3 s t s1 s2 (by omega) (by omega)
theorem ins_out {K a b : Nat} (hK : b < a + K) : ∀ (k i : Nat) (l : List Rw), W3 l → l.length ≤ 1000000 → a < i → b ≤ l.length → b - i < k → Srt l a i →
    (∀ s t, a ≤ s → s < t → i ≤ t → t < b → nth 0 (nth [] l s) 0 < nth 0 (nth [] l t) 0) →
    ∃ l', F.slices_insertionSortCmpFunc_money_share__l1 K k a b i l = some l' ∧ Mv l l' a b ∧ Srt l' a b
  | 0, i, l, _, _, _, _, hk, _, _ => by omega
  | k + 1, i, l, hw, hl, ha, hb, hk, h1, h2 => by
    rw [F.slices_insertionSortCmpFunc_money_share__l1, bi_eq]
    by_cases c : i < b
    · obtain ⟨l1, r1, r2, r3⟩ := ins_in (K := K) (a := a) (b := b) (i := i) K i l hw hl (by omega) (by omega) (by omega) (by omega) h1 (fun s t s1 s2 s3 => by omega) (fun s t s1 s2 s3 s4 => by omega) (fun s s1 s2 => h2 s i s1 s2 (by omega) c)
      rw [if_pos (by simpa using c), r1, Option.bind_some]
      simp only
      rw [show IntKind.i64.wrap ((i : Int) + 1) = ((i + 1 : Nat) : Int) by rw [iw (by omega) (by omega)]; omega]
      obtain ⟨l2, s1, s2, s3⟩ := ins_out hK k (i + 1) l1 (hw.mv r2) (by rw [r2.len]; exact hl) (by omega) (by rw [r2.len]; exact hb) (by omega) r3 fun s t t1 t2 t3 t4 => by
        rw [r2.out t (.inr (by omega))]
        by_cases d : s < i + 1
        · obtain ⟨j, j1, j2, j3⟩ := r2.src s t1 d
          rw [j3]; exact h2 j t j1 (by omega) (by omega) t4
        · rw [r2.out s (.inr (by omega))]; exact h2 s t t1 t2 (by omega) t4
      exact ⟨l2, s1, (r2.widen (by omega) (by omega)).trans s2, s3⟩
    · rw [if_neg (by simpa using c)]
      exact ⟨l, rfl, Mv.refl _ _ _, fun s t s1 s2 s3 => h1 s t s1 s2 (by omega)⟩
/-- The insertion sort sorts a mpart whose rows stand in the order of their places. -/
theorem ins_sort {K a b : Nat} (hK : b < a + K) {l : List Rw} (hw : W3 l) (hl : l.length ≤ 1000000) (hab : a ≤ b) (hb : b ≤ l.length) (h : ∀ s t, a ≤ s → s < t → t < b → nth 0 (nth [] l s) 0 < nth 0 (nth [] l t) 0) :
    ∃ l', F.slices_insertionSortCmpFunc_money_share_ K l a b = some l' ∧ Mv l l' a b ∧ Srt l' a b := by
  obtain ⟨l', r1, r2, r3⟩ := ins_out hK K (a + 1) l hw hl (by omega) hb (by omega) (fun s t s1 s2 s3 => by omega) fun s t t1 t2 t3 t4 => h s t t1 t2 t4
  refine ⟨l', ?_, r2, r3⟩
  unfold F.slices_insertionSortCmpFunc_money_share_
  rw [show IntKind.i64.wrap ((a : Int) + 1) = ((a + 1 : Nat) : Int) by rw [iw (by omega) (by omega)]; omega, r1, Option.bind_some, bi_eq, if_pos (by simpa using r2.len)]
end Go.Proofs.Ytfeifhlnidkbbaa.Wide

namespace Go.Proofs.Ytfeifhlnidkbbaa.Wide
open Go Go.RowKit Go.Proofs.Ytfeifhlnidkbbaa.Vm
/-- Two parts of one length have changed their places. -/
structure Sw (l l' : List Rw) (a b n : Nat) : Prop where
  len : l'.length = l.length
  perm : l'.Perm l
  at_ : ∀ q, nth [] l' q = if a ≤ q ∧ q < a + n then nth [] l (b + (q - a)) else if b ≤ q ∧ q < b + n then nth [] l (a + (q - b)) else nth [] l q
theorem swr_loop {K : Nat} {a b n : Nat} (hab : a + n ≤ b) : ∀ (k i : Nat) (l : List Rw), W3 l → l.length ≤ 1000000 → b + n ≤ l.length → i ≤ n → n - i < k →
    ∃ l', F.slices_swapRangeCmpFunc_money_share__l1 K k a b n i l = some l' ∧ Sw l l' (a + i) (b + i) (n - i)
  | 0, i, l, _, _, _, _, hk => by omega
  | k + 1, i, l, hw, hl, hb, hi, hk => by
    rw [F.slices_swapRangeCmpFunc_money_share__l1, bi_eq]
    by_cases c : i < n
    · have e1 : IntKind.i64.wrap ((b : Int) + i) = ((b + i : Nat) : Int) := by rw [iw (by omega) (by omega)]; omega
      have e2 : IntKind.i64.wrap ((a : Int) + i) = ((a + i : Nat) : Int) := by rw [iw (by omega) (by omega)]; omega
      have e3 : IntKind.i64.wrap ((i : Int) + 1) = ((i + 1 : Nat) : Int) := by rw [iw (by omega) (by omega)]; omega
      have c1 : (decide (0 ≤ ((b + i : Nat) : Int)) && decide (((b + i : Nat) : Int) < (l.length : Int))) = true := by simp; omega
      have c2 : (decide (0 ≤ ((a + i : Nat) : Int)) && decide (((a + i : Nat) : Int) < (l.length : Int))) = true := by simp; omega
      have ha' : a + i < l.length := by omega
      have hb' : b + i < l.length := by omega
      rw [if_pos (by simpa using c)]
      simp only [bi_eq, e1, e2, e3, Int.toNat_natCast, rows3 hw ha', rows3 hw hb', List.length_set]
      rw [c1, c2, if_pos rfl, if_pos rfl, if_pos rfl, if_pos rfl]
      have mv : Mv l (swp l (a + i) (b + i)) 0 l.length := swp_mv ha' hb' (by omega) (by omega) (by omega) (by omega)
      obtain ⟨l', r1, r2⟩ := swr_loop (K := K) hab k (i + 1) (swp l (a + i) (b + i)) (hw.mv mv) (by rw [mv.len]; exact hl) (by rw [mv.len]; exact hb) (by omega) (by omega)
      refine ⟨l', r1, r2.len.trans mv.len, r2.perm.trans mv.perm, fun q => ?_⟩
      rw [r2.at_ q]
      by_cases q1 : a + (i + 1) ≤ q ∧ q < a + (i + 1) + (n - (i + 1))
      · rw [if_pos q1, if_pos (by omega), swp_nth ha' hb', if_neg (by omega), if_neg (by omega)]
        congr 1; omega
      · rw [if_neg q1]
        by_cases q2 : b + (i + 1) ≤ q ∧ q < b + (i + 1) + (n - (i + 1))
        · rw [if_pos q2, if_neg (by omega), if_pos (by omega), swp_nth ha' hb', if_neg (by omega), if_neg (by omega)]
          congr 1; omega
        · rw [if_neg q2, swp_nth ha' hb']
          by_cases q3 : q = b + i
          · subst q3
            rw [if_pos rfl, if_neg (by omega), if_pos (by omega)]
            congr 1; omega
          · rw [if_neg q3]
            by_cases q4 : q = a + i
            · subst q4
              rw [if_pos rfl, if_pos (by omega)]
              congr 1; omega
            · rw [if_neg q4, if_neg (by omega), if_neg (by omega)]
    · rw [if_neg (by simpa using c)]
      exact ⟨l, rfl, rfl, List.Perm.refl _, fun q => by rw [if_neg (by omega), if_neg (by omega)]⟩
theorem swr_ok {K a b n : Nat} (hK : n < K) (hab : a + n ≤ b) {l : List Rw} (hw : W3 l) (hl : l.length ≤ 1000000) (hb : b + n ≤ l.length) : ∃ l', F.slices_swapRangeCmpFunc_money_share_ K l a b n = some l' ∧ Sw l l' a b n := by
  obtain ⟨l', r1, r2⟩ := swr_loop (K := K) hab K 0 l hw hl hb (by omega) (by omega)
  refine ⟨l', ?_, by simpa using r2⟩
  have r1 : F.slices_swapRangeCmpFunc_money_share__l1 K K a b n 0 l = some l' := r1
  unfold F.slices_swapRangeCmpFunc_money_share_
  rw [r1, Option.bind_some, bi_eq, if_pos (by simpa using r2.len)]
theorem W3.sw {l m : List Rw} {a b n : Nat} (h : W3 l) (k : Sw l m a b n) : W3 m := fun r hr => h r (k.perm.mem_iff.1 hr)
/-- A mpart [p, p + i + j) rotated: its last j rows stand first. -/
structure Rot (l l' : List Rw) (p i j : Nat) : Prop where
  len : l'.length = l.length
  perm : l'.Perm l
  at_ : ∀ q, nth [] l' q = if p ≤ q ∧ q < p + j then nth [] l (q + i) else if p + j ≤ q ∧ q < p + i + j then nth [] l (q - j) else nth [] l q
theorem rot_loop {K : Nat} {m : Nat} : ∀ (k i j : Nat) (l : List Rw), W3 l → l.length ≤ 1000000 → l.length < K → 0 < i → 0 < j → i ≤ m → m + j ≤ l.length → i + j < k →
    ∃ (i' : Nat) (l1 : List Rw), F.slices_rotateCmpFunc_money_share__l2 K k m i j l = some ((m : Int), (i' : Int), l1) ∧ 0 < i' ∧ i' ≤ m ∧ m + i' ≤ l.length ∧ W3 l1 ∧ l1.length = l.length ∧ ∀ l2, Sw l1 l2 (m - i') m i' → Rot l l2 (m - i) i j
  | 0, i, j, l, _, _, _, _, _, _, _, hk => by omega
  | k + 1, i, j, l, hw, hl, hK, hi, hj, him, hmj, hk => by
    rw [F.slices_rotateCmpFunc_money_share__l2, bi_eq]
    by_cases e : i = j
    · subst e
      rw [if_neg (by simp)]
      refine ⟨i, l, rfl, hi, him, hmj, hw, rfl, fun l2 h => ⟨h.len, h.perm, fun q => ?_⟩⟩
      rw [h.at_ q]
      by_cases q1 : m - i ≤ q ∧ q < m - i + i
      · rw [if_pos q1, if_pos q1]; congr 1; omega
      · rw [if_neg q1, if_neg q1]
        by_cases q2 : m ≤ q ∧ q < m + i
        · rw [if_pos q2, if_pos (by omega)]; congr 1; omega
        · rw [if_neg q2, if_neg (by omega)]
    · have e1 : IntKind.i64.wrap ((m : Int) - i) = ((m - i : Nat) : Int) := by rw [iw (by omega) (by omega)]; omega
      rw [if_pos (by simp; omega), bi_eq]
      by_cases c : i > j
      · have e2 : IntKind.i64.wrap ((i : Int) - j) = ((i - j : Nat) : Int) := by rw [iw (by omega) (by omega)]; omega
        obtain ⟨l0, r1, r2⟩ := swr_ok (K := K) (a := m - i) (b := m) (n := j) (by omega) (by omega) hw hl hmj
        rw [if_pos (by simpa using c), e1, r1, Option.bind_some, e2]
        obtain ⟨i', l1, s1, s2, s3, s4, s5, s6, s7⟩ := rot_loop (K := K) (m := m) k (i - j) j l0 (hw.sw r2) (by rw [r2.len]; exact hl) (by rw [r2.len]; exact hK) (by omega) hj (by omega) (by rw [r2.len]; exact hmj) (by omega)
        refine ⟨i', l1, s1, s2, s3, by rw [← r2.len]; exact s4, s5, s6.trans r2.len, fun l2 h => ?_⟩
        have R := s7 l2 h
        refine ⟨R.len.trans r2.len, R.perm.trans r2.perm, fun q => ?_⟩
        rw [R.at_ q]
        by_cases q1 : m - (i - j) ≤ q ∧ q < m - (i - j) + j
        · rw [if_pos q1, r2.at_, if_neg (by omega)]
          by_cases q2 : m ≤ q + (i - j) ∧ q + (i - j) < m + j
          · rw [if_pos q2, if_neg (by omega), if_pos (by omega)]; congr 1; omega
          · omega
        · rw [if_neg q1]
          by_cases q2 : m - (i - j) + j ≤ q ∧ q < m - (i - j) + (i - j) + j
          · rw [if_pos q2, r2.at_, if_neg (by omega), if_neg (by omega), if_neg (by omega), if_pos (by omega)]
          · rw [if_neg q2, r2.at_]
            by_cases q3 : m - i ≤ q ∧ q < m - i + j
            · rw [if_pos q3, if_pos q3]; congr 1; omega
            · rw [if_neg q3, if_neg q3, if_neg (by omega), if_neg (by omega)]
      · have e2 : IntKind.i64.wrap ((j : Int) - i) = ((j - i : Nat) : Int) := by rw [iw (by omega) (by omega)]; omega
        have e3 : IntKind.i64.wrap (IntKind.i64.wrap ((m : Int) + j) - i) = ((m + j - i : Nat) : Int) := by rw [iw (x := (m : Int) + j) (by omega) (by omega), iw (by omega) (by omega)]; omega
        obtain ⟨l0, r1, r2⟩ := swr_ok (K := K) (a := m - i) (b := m + j - i) (n := i) (by omega) (by omega) hw hl (by omega)
        rw [if_neg (by simpa using c), e1, e3, r1, Option.bind_some, e2]
        obtain ⟨i', l1, s1, s2, s3, s4, s5, s6, s7⟩ := rot_loop (K := K) (m := m) k i (j - i) l0 (hw.sw r2) (by rw [r2.len]; exact hl) (by rw [r2.len]; exact hK) hi (by omega) him (by rw [r2.len]; omega) (by omega)
        refine ⟨i', l1, s1, s2, s3, by rw [← r2.len]; exact s4, s5, s6.trans r2.len, fun l2 h => ?_⟩
        have R := s7 l2 h
        refine ⟨R.len.trans r2.len, R.perm.trans r2.perm, fun q => ?_⟩
        rw [R.at_ q]
        by_cases q1 : m - i ≤ q ∧ q < m - i + (j - i)
        · rw [if_pos q1, r2.at_, if_neg (by omega), if_neg (by omega), if_pos (by omega)]
        · rw [if_neg q1]
          by_cases q2 : m - i + (j - i) ≤ q ∧ q < m - i + i + (j - i)
          · rw [if_pos q2, r2.at_, if_pos (by omega), if_pos (by omega)]; congr 1; omega
          · rw [if_neg q2, r2.at_]
            by_cases q3 : m + j - i ≤ q ∧ q < m + j - i + i
            · rw [if_neg (by omega), if_pos q3, if_neg (by omega), if_pos (by omega)]; congr 1; omega
            · rw [if_neg (by omega), if_neg q3, if_neg (by omega), if_neg (by omega)]
theorem rotate_ok {K a m b : Nat} {l : List Rw} (hw : W3 l) (hl : l.length ≤ 1000000) (hK : l.length < K) (ham : a < m) (hmb : m < b) (hb : b ≤ l.length) : ∃ l', F.slices_rotateCmpFunc_money_share_ K l a m b = some l' ∧ Rot l l' a (m - a) (b - m) := by
  obtain ⟨i', l1, s1, s2, s3, s4, s5, s6, s7⟩ := rot_loop (K := K) (m := m) K (m - a) (b - m) l hw hl hK (by omega) (by omega) (by omega) (by omega) (by omega)
  obtain ⟨l2, r1, r2⟩ := swr_ok (K := K) (a := m - i') (b := m) (n := i') (by omega) (by omega) s5 (by omega) (by omega)
  have R := s7 l2 r2
  refine ⟨l2, ?_, by rw [show m - (m - a) = a by omega] at R; exact R⟩
  unfold F.slices_rotateCmpFunc_money_share_
  have e1 : IntKind.i64.wrap ((m : Int) - a) = ((m - a : Nat) : Int) := by rw [iw (by omega) (by omega)]; omega
  have e2 : IntKind.i64.wrap ((b : Int) - m) = ((b - m : Nat) : Int) := by rw [iw (by omega) (by omega)]; omega
  have e3 : IntKind.i64.wrap ((m : Int) - i') = ((m - i' : Nat) : Int) := by rw [iw (by omega) (by omega)]; omega
  rw [e1, e2, s1, Option.bind_some]
  simp only
  rw [e3, r1, Option.bind_some, bi_eq, if_pos (by simpa using R.len)]
end Go.Proofs.Ytfeifhlnidkbbaa.Wide

namespace Go.Proofs.Ytfeifhlnidkbbaa.Wide
open Go Go.RowKit Go.Proofs.Ytfeifhlnidkbbaa.Vm
theorem half_ok {a b : Nat} (h : a + b ≤ 10000000) : IntKind.i64.wrap ((IntKind.u64.wrap (IntKind.i64.wrap ((a : Int) + b))).fdiv 2) = (((a + b) / 2 : Nat) : Int) := by
  rw [iw (x := (a : Int) + b) (by omega) (by omega), uw (by omega) (by omega), fd _ _ (by decide), iw (by omega) (by omega)]; omega
theorem Rot.id (l : List Rw) (p : Nat) : Rot l l p 1 0 := ⟨rfl, List.Perm.refl _, fun q => by
  rw [if_neg (by omega)]
  by_cases h : p + 0 ≤ q ∧ q < p + 1 + 0
  · rw [if_pos h]; rfl
  · rw [if_neg h]⟩
theorem Rot.id' (l : List Rw) (p : Nat) : Rot l l p 0 1 := ⟨rfl, List.Perm.refl _, fun q => by
  by_cases h : p ≤ q ∧ q < p + 1
  · rw [if_pos h]; rfl
  · rw [if_neg h, if_neg (by omega)]⟩
/-- The first row of a mpart goes to its end. -/
theorem shift_up {K i : Nat} : ∀ (k x : Nat) (l : List Rw), W3 l → l.length ≤ 1000000 → 0 < i → i ≤ l.length → i - x < k → x < i →
    ∃ l', F.slices_symMergeCmpFunc_money_share__l9 K k i x l = some l' ∧ Rot l l' x 1 (i - 1 - x)
  | 0, x, l, _, _, _, _, hk, _ => by omega
  | k + 1, x, l, hw, hl, h0, hi, hk, hx => by
    have e1 : IntKind.i64.wrap ((i : Int) - 1) = ((i - 1 : Nat) : Int) := by rw [iw (by omega) (by omega)]; omega
    have e2 : IntKind.i64.wrap ((x : Int) + 1) = ((x + 1 : Nat) : Int) := by rw [iw (by omega) (by omega)]; omega
    rw [F.slices_symMergeCmpFunc_money_share__l9, bi_eq, e1]
    by_cases c : x < i - 1
    · have hx' : x < l.length := by omega
      have hy' : x + 1 < l.length := by omega
      have c1 : (decide (0 ≤ ((x + 1 : Nat) : Int)) && decide (((x + 1 : Nat) : Int) < (l.length : Int))) = true := by simp; omega
      have c2 : (decide (0 ≤ (x : Int)) && decide ((x : Int) < (l.length : Int))) = true := by simp; omega
      rw [if_pos (by simp; omega)]
      simp only [bi_eq, e2, Int.toNat_natCast, rows3 hw hx', rows3 hw hy', List.length_set]
      rw [c1, c2, if_pos rfl, if_pos rfl, if_pos rfl, if_pos rfl]
      have mv : Mv l (swp l x (x + 1)) 0 l.length := swp_mv hx' hy' (by omega) (by omega) (by omega) (by omega)
      obtain ⟨l', r1, r2⟩ := shift_up (K := K) k (x + 1) (swp l x (x + 1)) (hw.mv mv) (by rw [mv.len]; exact hl) h0 (by rw [mv.len]; exact hi) (by omega) (by omega)
      refine ⟨l', r1, r2.len.trans mv.len, r2.perm.trans mv.perm, fun q => ?_⟩
      rw [r2.at_ q]
      by_cases q1 : x + 1 ≤ q ∧ q < x + 1 + (i - 1 - (x + 1))
      · rw [if_pos q1, if_pos (by omega), swp_nth hx' hy', if_neg (by omega), if_neg (by omega)]
      · rw [if_neg q1]
        by_cases q2 : x + 1 + (i - 1 - (x + 1)) ≤ q ∧ q < x + 1 + 1 + (i - 1 - (x + 1))
        · rw [if_pos q2, if_neg (by omega), if_pos (by omega), swp_nth hx' hy', if_pos (by omega)]
          congr 1; omega
        · rw [if_neg q2, swp_nth hx' hy', if_neg (by omega)]
          by_cases q3 : q = x
          · rw [if_pos q3, if_pos (by omega), q3]
          · rw [if_neg q3, if_neg (by omega), if_neg (by omega)]
    · rw [if_neg (by simp; omega)]
      refine ⟨l, rfl, ?_⟩
      rw [show i - 1 - x = 0 by omega]; exact Rot.id l x
/-- The last row of a mpart goes to its beginning. -/
theorem shift_down {K i : Nat} : ∀ (k x : Nat) (l : List Rw), W3 l → l.length ≤ 1000000 → x < l.length → i ≤ x → x - i < k →
    ∃ l', F.slices_symMergeCmpFunc_money_share__l21 K k i x l = some l' ∧ Rot l l' i (x - i) 1
  | 0, x, l, _, _, _, _, hk => by omega
  | k + 1, x, l, hw, hl, hx, hi, hk => by
    rw [F.slices_symMergeCmpFunc_money_share__l21, bi_eq]
    by_cases c : i < x
    · have e2 : IntKind.i64.wrap ((x : Int) - 1) = ((x - 1 : Nat) : Int) := by rw [iw (by omega) (by omega)]; omega
      have hy' : x - 1 < l.length := by omega
      have c1 : (decide (0 ≤ ((x - 1 : Nat) : Int)) && decide (((x - 1 : Nat) : Int) < (l.length : Int))) = true := by simp; omega
      have c2 : (decide (0 ≤ (x : Int)) && decide ((x : Int) < (l.length : Int))) = true := by simp; omega
      rw [if_pos (by simp; omega)]
      simp only [bi_eq, e2, Int.toNat_natCast, rows3 hw hx, rows3 hw hy', List.length_set]
      rw [c1, c2, if_pos rfl, if_pos rfl, if_pos rfl, if_pos rfl]
      have mv : Mv l (swp l x (x - 1)) 0 l.length := swp_mv hx hy' (by omega) (by omega) (by omega) (by omega)
      obtain ⟨l', r1, r2⟩ := shift_down (K := K) (i := i) k (x - 1) (swp l x (x - 1)) (hw.mv mv) (by rw [mv.len]; exact hl) (by rw [mv.len]; omega) (by omega) (by omega)
      refine ⟨l', r1, r2.len.trans mv.len, r2.perm.trans mv.perm, fun q => ?_⟩
      rw [r2.at_ q]
      by_cases q1 : i ≤ q ∧ q < i + 1
      · rw [if_pos q1, if_pos q1, swp_nth hx hy', if_pos (by omega)]
        congr 1; omega
      · rw [if_neg q1, if_neg q1]
        by_cases q2 : i + 1 ≤ q ∧ q < i + (x - 1 - i) + 1
        · rw [if_pos q2, if_pos (by omega), swp_nth hx hy', if_neg (by omega), if_neg (by omega)]
        · rw [if_neg q2, swp_nth hx hy']
          by_cases q3 : q = x
          · rw [if_neg (by omega), if_pos q3, if_pos (by omega), q3]
          · rw [if_neg (by omega), if_neg q3, if_neg (by omega)]
    · rw [if_neg (by simp; omega)]
      refine ⟨l, rfl, ?_⟩
      rw [show x - i = 0 by omega]; exact Rot.id' l i
/-- A search by halves: where a fact that holds of the first ones holds no more. -/
theorem search_up {K a : Nat} {l : List Rw} (hw : W3 l) (hl : l.length ≤ 1000000) (ha : a < l.length) {lo hi : Nat} (hh : hi ≤ l.length) (mono : ∀ s t, lo ≤ s → s < t → t < hi → nth 0 (nth [] l a) 1 < nth 0 (nth [] l t) 1 → nth 0 (nth [] l a) 1 < nth 0 (nth [] l s) 1) :
    ∀ (k i j : Nat), lo ≤ i → i ≤ j → j ≤ hi → j - i < k → (∀ t, lo ≤ t → t < i → nth 0 (nth [] l a) 1 < nth 0 (nth [] l t) 1) → (∀ t, j ≤ t → t < hi → ¬ nth 0 (nth [] l a) 1 < nth 0 (nth [] l t) 1) →
    ∃ r : Nat, F.slices_symMergeCmpFunc_money_share__l3 K k a i j l = some ((a : Int), (r : Int), l) ∧ lo ≤ r ∧ r ≤ hi ∧ (∀ t, lo ≤ t → t < r → nth 0 (nth [] l a) 1 < nth 0 (nth [] l t) 1) ∧ (∀ t, r ≤ t → t < hi → ¬ nth 0 (nth [] l a) 1 < nth 0 (nth [] l t) 1)
  | 0, i, j, _, _, _, hk, _, _ => by omega
  | k + 1, i, j, h1, h2, h3, hk, p1, p2 => by
    rw [F.slices_symMergeCmpFunc_money_share__l3, bi_eq]
    by_cases c : i < j
    · have e1 := half_ok (a := i) (b := j) (by omega)
      have hm : (i + j) / 2 < l.length := by omega
      have c1 : (decide (0 ≤ (((i + j) / 2 : Nat) : Int)) && decide ((((i + j) / 2 : Nat) : Int) < (l.length : Int))) = true := by simp; omega
      have c2 : (decide (0 ≤ (a : Int)) && decide ((a : Int) < (l.length : Int))) = true := by simp; omega
      have e2 : IntKind.i64.wrap ((((i + j) / 2 : Nat) : Int) + 1) = (((i + j) / 2 + 1 : Nat) : Int) := by rw [iw (by omega) (by omega)]; omega
      rw [if_pos (by simpa using c)]
      simp only [e1, e2, bi_eq, Int.toNat_natCast, split1_ok, Option.bind_some]
      rw [c1, c2, if_pos rfl, if_pos rfl]
      by_cases d : nth 0 (nth [] l a) 1 < nth 0 (nth [] l ((i + j) / 2)) 1
      · rw [if_pos (by simpa using (cmp3p_neg _ _).2 d)]
        refine search_up hw hl ha hh mono k ((i + j) / 2 + 1) j (by omega) (by omega) h3 (by omega) (fun t t1 t2 => ?_) p2
        by_cases e : t = (i + j) / 2
        · rw [e]; exact d
        · exact mono t ((i + j) / 2) t1 (by omega) (by omega) d
      · rw [if_neg (by simpa using fun k => d ((cmp3p_neg _ _).1 k))]
        refine search_up hw hl ha hh mono k i ((i + j) / 2) h1 (by omega) (by omega) (by omega) p1 (fun t t1 t2 q => ?_)
        by_cases e : t = (i + j) / 2
        · subst e; exact d q
        · exact d (mono ((i + j) / 2) t (by omega) (by omega) t2 q)
    · rw [if_neg (by simpa using c)]
      exact ⟨i, rfl, h1, by omega, p1, fun t t1 t2 => p2 t (by omega) t2⟩
theorem search_down {K m : Nat} {l : List Rw} (hw : W3 l) (hl : l.length ≤ 1000000) (ha : m < l.length) {lo hi : Nat} (hh : hi ≤ l.length) (mono : ∀ s t, lo ≤ s → s < t → t < hi → ¬ nth 0 (nth [] l t) 1 < nth 0 (nth [] l m) 1 → ¬ nth 0 (nth [] l s) 1 < nth 0 (nth [] l m) 1) :
    ∀ (k i j : Nat), lo ≤ i → i ≤ j → j ≤ hi → j - i < k → (∀ t, lo ≤ t → t < i → ¬ nth 0 (nth [] l t) 1 < nth 0 (nth [] l m) 1) → (∀ t, j ≤ t → t < hi → nth 0 (nth [] l t) 1 < nth 0 (nth [] l m) 1) →
    ∃ r : Nat, F.slices_symMergeCmpFunc_money_share__l15 K k m i j l = some ((m : Int), (r : Int), l) ∧ lo ≤ r ∧ r ≤ hi ∧ (∀ t, lo ≤ t → t < r → ¬ nth 0 (nth [] l t) 1 < nth 0 (nth [] l m) 1) ∧ (∀ t, r ≤ t → t < hi → nth 0 (nth [] l t) 1 < nth 0 (nth [] l m) 1)
  | 0, i, j, _, _, _, hk, _, _ => by omega
  | k + 1, i, j, h1, h2, h3, hk, p1, p2 => by
    rw [F.slices_symMergeCmpFunc_money_share__l15, bi_eq]
    by_cases c : i < j
    · have e1 := half_ok (a := i) (b := j) (by omega)
      have hm : (i + j) / 2 < l.length := by omega
      have c1 : (decide (0 ≤ (((i + j) / 2 : Nat) : Int)) && decide ((((i + j) / 2 : Nat) : Int) < (l.length : Int))) = true := by simp; omega
      have c2 : (decide (0 ≤ (m : Int)) && decide ((m : Int) < (l.length : Int))) = true := by simp; omega
      have e2 : IntKind.i64.wrap ((((i + j) / 2 : Nat) : Int) + 1) = (((i + j) / 2 + 1 : Nat) : Int) := by rw [iw (by omega) (by omega)]; omega
      rw [if_pos (by simpa using c)]
      simp only [e1, e2, bi_eq, Int.toNat_natCast, split1_ok, Option.bind_some]
      rw [c1, c2, if_pos rfl, if_pos rfl]
      by_cases d : nth 0 (nth [] l ((i + j) / 2)) 1 < nth 0 (nth [] l m) 1
      · have hd : decide (cmp3' (nth 0 (nth [] l ((i + j) / 2)) 1) (nth 0 (nth [] l m) 1) < 0) = true := decide_eq_true ((cmp3p_neg _ _).2 d)
        rw [hd, if_neg (by decide)]
        refine search_down hw hl ha hh mono k i ((i + j) / 2) h1 (by omega) (by omega) (by omega) p1 (fun t t1 t2 => ?_)
        by_cases e : t = (i + j) / 2
        · subst e; exact d
        · exact Classical.byContradiction fun q => mono ((i + j) / 2) t (by omega) (by omega) t2 q d
      · have hd : decide (cmp3' (nth 0 (nth [] l ((i + j) / 2)) 1) (nth 0 (nth [] l m) 1) < 0) = false := decide_eq_false fun q => d ((cmp3p_neg _ _).1 q)
        rw [hd, if_pos (by decide)]
        refine search_down hw hl ha hh mono k ((i + j) / 2 + 1) j (by omega) (by omega) h3 (by omega) (fun t t1 t2 => ?_) p2
        by_cases e : t = (i + j) / 2
        · rw [e]; exact d
        · exact mono t ((i + j) / 2) t1 (by omega) (by omega) d
    · rw [if_neg (by simpa using c)]
      exact ⟨i, rfl, h1, by omega, p1, fun t t1 t2 => p2 t (by omega) t2⟩
/-- The search of the merge: rows are held against those that stand as far from the other end. -/
theorem search_sym {K p : Nat} {x1 x2 x3 x18 x19 : Int} {l : List Rw} (hw : W3 l) (hl : l.length ≤ 1000000) (hp : p ≤ 10000000) {lo hi : Nat} (hh : hi ≤ l.length) (hlp : ∀ t, lo ≤ t → t < hi → t ≤ p ∧ p - t < l.length)
    (mono : ∀ s t, lo ≤ s → s < t → t < hi → ¬ nth 0 (nth [] l t) 1 < nth 0 (nth [] l (p - t)) 1 → ¬ nth 0 (nth [] l s) 1 < nth 0 (nth [] l (p - s)) 1) :
    ∀ (k i j : Nat), lo ≤ i → i ≤ j → j ≤ hi → j - i < k → (∀ t, lo ≤ t → t < i → ¬ nth 0 (nth [] l t) 1 < nth 0 (nth [] l (p - t)) 1) → (∀ t, j ≤ t → t < hi → nth 0 (nth [] l t) 1 < nth 0 (nth [] l (p - t)) 1) →
    ∃ r : Nat, F.slices_symMergeCmpFunc_money_share__l33 K k x1 x2 x3 x18 x19 i j p l = some (x1, x2, x3, x18, x19, (r : Int), l) ∧ lo ≤ r ∧ r ≤ hi ∧ (∀ t, lo ≤ t → t < r → ¬ nth 0 (nth [] l t) 1 < nth 0 (nth [] l (p - t)) 1) ∧ (∀ t, r ≤ t → t < hi → nth 0 (nth [] l t) 1 < nth 0 (nth [] l (p - t)) 1)
  | 0, i, j, _, _, _, hk, _, _ => by omega
  | k + 1, i, j, h1, h2, h3, hk, p1, p2 => by
    rw [F.slices_symMergeCmpFunc_money_share__l33, bi_eq]
    by_cases c : i < j
    · have e1 := half_ok (a := i) (b := j) (by omega)
      have hm : (i + j) / 2 < l.length := by omega
      obtain ⟨g1, g2⟩ := hlp ((i + j) / 2) (by omega) (by omega)
      have e3 : IntKind.i64.wrap ((p : Int) - (((i + j) / 2 : Nat) : Int)) = ((p - (i + j) / 2 : Nat) : Int) := by rw [iw (by omega) (by omega)]; omega
      have c1 : (decide (0 ≤ (((i + j) / 2 : Nat) : Int)) && decide ((((i + j) / 2 : Nat) : Int) < (l.length : Int))) = true := by simp; omega
      have c2 : (decide (0 ≤ ((p - (i + j) / 2 : Nat) : Int)) && decide (((p - (i + j) / 2 : Nat) : Int) < (l.length : Int))) = true := by simp; omega
      have e2 : IntKind.i64.wrap ((((i + j) / 2 : Nat) : Int) + 1) = (((i + j) / 2 + 1 : Nat) : Int) := by rw [iw (by omega) (by omega)]; omega
      rw [if_pos (by simpa using c)]
      simp only [e1, e2, e3, bi_eq, Int.toNat_natCast, split1_ok, Option.bind_some]
      rw [c1, c2, if_pos rfl, if_pos rfl]
      by_cases d : nth 0 (nth [] l ((i + j) / 2)) 1 < nth 0 (nth [] l (p - (i + j) / 2)) 1
      · have hd : decide (cmp3' (nth 0 (nth [] l ((i + j) / 2)) 1) (nth 0 (nth [] l (p - (i + j) / 2)) 1) < 0) = true := decide_eq_true ((cmp3p_neg _ _).2 d)
        rw [hd, if_neg (by decide)]
        refine search_sym hw hl hp hh hlp mono k i ((i + j) / 2) h1 (by omega) (by omega) (by omega) p1 (fun t t1 t2 => ?_)
        by_cases e : t = (i + j) / 2
        · subst e; exact d
        · exact Classical.byContradiction fun q => mono ((i + j) / 2) t (by omega) (by omega) t2 q d
      · have hd : decide (cmp3' (nth 0 (nth [] l ((i + j) / 2)) 1) (nth 0 (nth [] l (p - (i + j) / 2)) 1) < 0) = false := decide_eq_false fun q => d ((cmp3p_neg _ _).1 q)
        rw [hd, if_pos (by decide)]
        refine search_sym hw hl hp hh hlp mono k ((i + j) / 2 + 1) j (by omega) (by omega) h3 (by omega) (fun t t1 t2 => ?_) p2
        by_cases e : t = (i + j) / 2
        · rw [e]; exact d
        · exact mono t ((i + j) / 2) t1 (by omega) (by omega) d
    · rw [if_neg (by simpa using c)]
      exact ⟨i, rfl, h1, by omega, p1, fun t t1 t2 => p2 t (by omega) t2⟩
end Go.Proofs.Ytfeifhlnidkbbaa.Wide

namespace Go.Proofs.Ytfeifhlnidkbbaa.Wide
open Go Go.RowKit Go.Proofs.Ytfeifhlnidkbbaa.Vm
/-- Of a row of the left run and one of the right run: which comes first. -/
theorem lt_lr {c d : Rw} (h : nth 0 c 0 < nth 0 d 0) : Lt c d ↔ ¬ nth 0 c 1 < nth 0 d 1 := by unfold Lt; omega
theorem lt_rl {c d : Rw} (h : nth 0 c 0 < nth 0 d 0) : Lt d c ↔ nth 0 c 1 < nth 0 d 1 := by unfold Lt; omega
theorem Srt.le {l : List Rw} {a b : Nat} (h : Srt l a b) {i j : Nat} (h1 : a ≤ i) (h2 : i ≤ j) (h3 : j < b) {x : Rw} (k : Lt (nth [] l j) x) : Lt (nth [] l i) x := by
  by_cases e : i = j
  · rw [e]; exact k
  · exact (h i j h1 (by omega) h3).trans k
theorem Srt.ge {l : List Rw} {a b : Nat} (h : Srt l a b) {i j : Nat} (h1 : a ≤ i) (h2 : i ≤ j) (h3 : j < b) {x : Rw} (k : Lt x (nth [] l i)) : Lt x (nth [] l j) := by
  by_cases e : i = j
  · rw [← e]; exact k
  · exact k.trans (h i j h1 (by omega) h3)
/-- What the search and the rotation come to: four sorted parts, the first two ahead of the last two. -/
theorem sym_core {l l1 : List Rw} {a m b st mid lo hi : Nat} (ham : a < m) (hmb : m < b) (hmid : mid = (a + b) / 2) (h1 : Srt l a m) (h2 : Srt l m b) (hat : ∀ s t, a ≤ s → s < m → m ≤ t → t < b → nth 0 (nth [] l s) 0 < nth 0 (nth [] l t) 0)
    (hlo : (mid < m ∧ lo = mid + m - b ∧ hi = mid) ∨ (m ≤ mid ∧ lo = a ∧ hi = m)) (r1 : lo ≤ st) (r2 : st ≤ hi) (p1 : ∀ t, lo ≤ t → t < st → ¬ nth 0 (nth [] l t) 1 < nth 0 (nth [] l (mid + m - 1 - t)) 1) (p2 : ∀ t, st ≤ t → t < hi → nth 0 (nth [] l t) 1 < nth 0 (nth [] l (mid + m - 1 - t)) 1)
    (hr : ∀ q, nth [] l1 q = if st ≤ q ∧ q < mid then nth [] l (q + (m - st)) else if mid ≤ q ∧ q < mid + m - st then nth [] l (q - (mid - st)) else nth [] l q) :
    Srt l1 a st ∧ Srt l1 st mid ∧ Srt l1 mid (mid + m - st) ∧ Srt l1 (mid + m - st) b ∧
    (∀ s t, a ≤ s → s < st → st ≤ t → t < mid → nth 0 (nth [] l1 s) 0 < nth 0 (nth [] l1 t) 0) ∧ (∀ s t, mid ≤ s → s < mid + m - st → mid + m - st ≤ t → t < b → nth 0 (nth [] l1 s) 0 < nth 0 (nth [] l1 t) 0) ∧
    (∀ s t, a ≤ s → s < mid → mid ≤ t → t < b → Lt (nth [] l1 s) (nth [] l1 t)) := by
  have g1 : a ≤ st := by omega
  have g2 : st ≤ m := by omega
  have g3 : st ≤ mid := by omega
  have g4 : mid + m - st ≤ b := by omega
  have n1 : ∀ q, q < st → nth [] l1 q = nth [] l q := fun q h => by rw [hr, if_neg (by omega), if_neg (by omega)]
  have n2 : ∀ q, st ≤ q → q < mid → nth [] l1 q = nth [] l (q + (m - st)) := fun q h k => by rw [hr, if_pos ⟨h, k⟩]
  have n3 : ∀ q, mid ≤ q → q < mid + m - st → nth [] l1 q = nth [] l (q - (mid - st)) := fun q h k => by rw [hr, if_neg (by omega), if_pos ⟨h, k⟩]
  have n4 : ∀ q, mid + m - st ≤ q → nth [] l1 q = nth [] l q := fun q h => by rw [hr, if_neg (by omega), if_neg (by omega)]
  have A : ∀ s t, a ≤ s → s < st → mid + m - st ≤ t → t < b → Lt (nth [] l s) (nth [] l t) := fun s t s1 s2 t1 t2 => by
    have q := p1 (st - 1) (by omega) (by omega)
    rw [show mid + m - 1 - (st - 1) = mid + m - st by omega] at q
    have k := (lt_lr (hat (st - 1) (mid + m - st) (by omega) (by omega) (by omega) (by omega))).2 q
    exact h2.ge (i := mid + m - st) (by omega) t1 t2 (h1.le s1 (by omega) (by omega) k)
  have B : ∀ s t, m ≤ s → s < mid + m - st → st ≤ t → t < m → Lt (nth [] l s) (nth [] l t) := fun s t s1 s2 t1 t2 => by
    have q := p2 st (Nat.le_refl _) (by omega)
    rw [show mid + m - 1 - st = mid + m - st - 1 by omega] at q
    have k := (lt_rl (hat st (mid + m - st - 1) (by omega) (by omega) (by omega) (by omega))).2 q
    exact h1.ge (i := st) (by omega) t1 t2 (h2.le s1 (show s ≤ mid + m - st - 1 by omega) (by omega) k)
  refine ⟨fun i j i1 i2 i3 => ?_, fun i j i1 i2 i3 => ?_, fun i j i1 i2 i3 => ?_, fun i j i1 i2 i3 => ?_, fun s t s1 s2 s3 s4 => ?_, fun s t s1 s2 s3 s4 => ?_, fun s t s1 s2 s3 s4 => ?_⟩
  · rw [n1 i (by omega), n1 j i3]; exact h1 i j i1 i2 (by omega)
  · rw [n2 i i1 (by omega), n2 j (by omega) i3]; exact h2 _ _ (by omega) (by omega) (by omega)
  · rw [n3 i i1 (by omega), n3 j (by omega) i3]; exact h1 _ _ (by omega) (by omega) (by omega)
  · rw [n4 i i1, n4 j (by omega)]; exact h2 _ _ (by omega) i2 i3
  · rw [n1 s s2, n2 t s3 s4]; exact hat _ _ s1 (by omega) (by omega) (by omega)
  · rw [n3 s s1 s2, n4 t s3]; exact hat _ _ (by omega) (by omega) (by omega) s4
  · by_cases c : s < st
    · rw [n1 s c]
      by_cases d : t < mid + m - st
      · rw [n3 t s3 d]; exact h1 _ _ s1 (by omega) (by omega)
      · rw [n4 t (by omega)]; exact A s t s1 c (by omega) s4
    · rw [n2 s (by omega) s2]
      by_cases d : t < mid + m - st
      · rw [n3 t s3 d]; exact B _ _ (by omega) (by omega) (by omega) (by omega)
      · rw [n4 t (by omega)]; exact h2 _ _ (by omega) (by omega) s4
/-- A rotation within a mpart. -/
theorem Rot.mv {l l' : List Rw} {p i j a b : Nat} (h : Rot l l' p i j) (ha : a ≤ p) (hb : p + i + j ≤ b) : Mv l l' a b :=
  ⟨h.len, fun q hq => by rw [h.at_, if_neg (by omega), if_neg (by omega)], h.perm, fun q h1 h2 => by
    rw [h.at_]
    by_cases c : p ≤ q ∧ q < p + j
    · rw [if_pos c]; exact ⟨q + i, by omega, by omega, rfl⟩
    · rw [if_neg c]
      by_cases d : p + j ≤ q ∧ q < p + i + j
      · rw [if_pos d]; exact ⟨q - j, by omega, by omega, rfl⟩
      · rw [if_neg d]; exact ⟨q, h1, h2, rfl⟩⟩
/-- A left run of one row. -/
theorem merge_one {K a b : Nat} {l : List Rw} (hw : W3 l) (hl : l.length ≤ 1000000) (hK : l.length < K) (hab : a + 1 < b) (hb : b ≤ l.length) (h2 : Srt l (a + 1) b) (hat : ∀ t, a + 1 ≤ t → t < b → nth 0 (nth [] l a) 0 < nth 0 (nth [] l t) 0) :
    ∃ (r : Nat) (l' : List Rw), F.slices_symMergeCmpFunc_money_share__l3 K K a ((a + 1 : Nat) : Int) b l = some ((a : Int), (r : Int), l) ∧ F.slices_symMergeCmpFunc_money_share__l9 K K r a l = some l' ∧ Mv l l' a b ∧ Srt l' a b := by
  obtain ⟨r, e1, q1, q2, q3, q4⟩ := search_up (K := K) hw hl (show a < l.length by omega) hb (lo := a + 1) (hi := b) (fun s t s1 s2 s3 h => by
    have := h2 s t s1 s2 s3
    unfold Lt at this; omega) K (a + 1) b (by omega) (by omega) (by omega) (by omega) (fun t t1 t2 => by omega) (fun t t1 t2 => by omega)
  obtain ⟨l', e2, R⟩ := shift_up (K := K) (i := r) K a l hw hl (by omega) (by omega) (by omega) (by omega)
  refine ⟨r, l', e1, e2, R.mv (by omega) (by omega), fun s t s1 s2 s3 => ?_⟩
  have n1 : ∀ q, a ≤ q → q < r - 1 → nth [] l' q = nth [] l (q + 1) := fun q u v => by rw [R.at_, if_pos (by omega)]
  have n2 : nth [] l' (r - 1) = nth [] l a := by rw [R.at_, if_neg (by omega), if_pos (by omega)]; congr 1; omega
  have n3 : ∀ q, r ≤ q → nth [] l' q = nth [] l q := fun q u => by rw [R.at_, if_neg (by omega), if_neg (by omega)]
  by_cases c1 : s < r - 1
  · rw [n1 s s1 c1]
    by_cases d1 : t < r - 1
    · rw [n1 t (by omega) d1]; exact h2 _ _ (by omega) (by omega) (by omega)
    · by_cases d2 : t = r - 1
      · rw [d2, n2]; exact (lt_rl (hat (s + 1) (by omega) (by omega))).2 (q3 (s + 1) (by omega) (by omega))
      · rw [n3 t (by omega)]; exact h2 _ _ (by omega) (by omega) s3
  · by_cases c2 : s = r - 1
    · rw [c2, n2, n3 t (by omega)]; exact (lt_lr (hat t (by omega) s3)).2 (q4 t (by omega) s3)
    · rw [n3 s (by omega), n3 t (by omega)]; exact h2 _ _ (by omega) s2 s3
/-- A right run of one row. -/
theorem merge_last {K a m : Nat} {l : List Rw} (hw : W3 l) (hl : l.length ≤ 1000000) (hK : l.length < K) (ham : a < m) (hb : m < l.length) (h1 : Srt l a m) (hat : ∀ s, a ≤ s → s < m → nth 0 (nth [] l s) 0 < nth 0 (nth [] l m) 0) :
    ∃ (r : Nat) (l' : List Rw), F.slices_symMergeCmpFunc_money_share__l15 K K m a m l = some ((m : Int), (r : Int), l) ∧ F.slices_symMergeCmpFunc_money_share__l21 K K r m l = some l' ∧ Mv l l' a (m + 1) ∧ Srt l' a (m + 1) := by
  obtain ⟨r, e1, q1, q2, q3, q4⟩ := search_down (K := K) hw hl hb (show m ≤ l.length by omega) (lo := a) (hi := m) (fun s t s1 s2 s3 h => by
    have := h1 s t s1 s2 s3
    unfold Lt at this; omega) K a m (by omega) (by omega) (by omega) (by omega) (fun t t1 t2 => by omega) (fun t t1 t2 => by omega)
  obtain ⟨l', e2, R⟩ := shift_down (K := K) (i := r) K m l hw hl hb (by omega) (by omega)
  refine ⟨r, l', e1, e2, R.mv (by omega) (by omega), fun s t s1 s2 s3 => ?_⟩
  have n1 : ∀ q, q < r → nth [] l' q = nth [] l q := fun q u => by rw [R.at_, if_neg (by omega), if_neg (by omega)]
  have n2 : nth [] l' r = nth [] l m := by rw [R.at_, if_pos (by omega)]; congr 1; omega
  have n3 : ∀ q, r < q → q < m + 1 → nth [] l' q = nth [] l (q - 1) := fun q u v => by rw [R.at_, if_neg (by omega), if_pos (by omega)]
  by_cases c1 : s < r
  · rw [n1 s c1]
    by_cases d1 : t < r
    · rw [n1 t d1]; exact h1 _ _ s1 s2 (by omega)
    · by_cases d2 : t = r
      · rw [d2, n2]; exact (lt_lr (hat s s1 (by omega))).2 (q3 s s1 c1)
      · rw [n3 t (by omega) s3]; exact h1 _ _ s1 (by omega) (by omega)
  · by_cases c2 : s = r
    · rw [c2, n2, n3 t (by omega) s3]; exact (lt_rl (hat (t - 1) (by omega) (by omega))).2 (q4 (t - 1) (by omega) (by omega))
    · rw [n3 s (by omega) (by omega), n3 t (by omega) s3]; exact h1 _ _ (by omega) (by omega) (by omega)
end Go.Proofs.Ytfeifhlnidkbbaa.Wide

namespace Go.Proofs.Ytfeifhlnidkbbaa.Wide
open Go Go.RowKit Go.Proofs.Ytfeifhlnidkbbaa.Vm
/-- What the merge does behind the rotation. -/
def part2 (K k : Nat) (l0 l1 : List Rw) (a st mid en b : Int) : Option (List Rw) :=
  if decide (a < st) = true then
    (if decide (st < mid) = true then
      (F.slices_symMergeCmpFunc_money_share__r K k l1 a st mid).bind fun r6 => if decide (mid < en) = true then (if decide (en < b) = true then (F.slices_symMergeCmpFunc_money_share__r K k r6 mid en b).bind fun r7 => (if decide (List.length r7 = l0.length) = true then some r7 else none) else (if decide (List.length r6 = l0.length) = true then some r6 else none)) else (if decide (List.length r6 = l0.length) = true then some r6 else none)
    else (if decide (mid < en) = true then (if decide (en < b) = true then (F.slices_symMergeCmpFunc_money_share__r K k l1 mid en b).bind fun r7 => (if decide (List.length r7 = l0.length) = true then some r7 else none) else (if decide (List.length l1 = l0.length) = true then some l1 else none)) else (if decide (List.length l1 = l0.length) = true then some l1 else none)))
  else (if decide (mid < en) = true then (if decide (en < b) = true then (F.slices_symMergeCmpFunc_money_share__r K k l1 mid en b).bind fun r7 => (if decide (List.length r7 = l0.length) = true then some r7 else none) else (if decide (List.length l1 = l0.length) = true then some l1 else none)) else (if decide (List.length l1 = l0.length) = true then some l1 else none))
def SymOk (K k : Nat) : Prop := ∀ (a m b : Nat) (l : List Rw), W3 l → l.length ≤ 1000000 → l.length < K → a < m → m < b → b ≤ l.length → b - a < k → Srt l a m → Srt l m b →
    (∀ s t, a ≤ s → s < m → m ≤ t → t < b → nth 0 (nth [] l s) 0 < nth 0 (nth [] l t) 0) → ∃ l', F.slices_symMergeCmpFunc_money_share__r K k l a m b = some l' ∧ Mv l l' a b ∧ Srt l' a b
theorem part2_ok {K k : Nat} (IH : SymOk K k) {l0 l1 : List Rw} (hw : W3 l1) (hl : l1.length ≤ 1000000) (hK : l1.length < K) (h0 : l1.length = l0.length) {a st mid en b : Nat} (g1 : a ≤ st) (g2 : st ≤ mid) (g3 : mid ≤ en) (g4 : en ≤ b) (hb : b ≤ l1.length) (k1 : mid - a < k) (k2 : b - mid < k)
    (s1 : Srt l1 a st) (s2 : Srt l1 st mid) (s3 : Srt l1 mid en) (s4 : Srt l1 en b) (t1 : ∀ s t, a ≤ s → s < st → st ≤ t → t < mid → nth 0 (nth [] l1 s) 0 < nth 0 (nth [] l1 t) 0) (t2 : ∀ s t, mid ≤ s → s < en → en ≤ t → t < b → nth 0 (nth [] l1 s) 0 < nth 0 (nth [] l1 t) 0)
    (cr : ∀ s t, a ≤ s → s < mid → mid ≤ t → t < b → Lt (nth [] l1 s) (nth [] l1 t)) : ∃ l', part2 K k l0 l1 a st mid en b = some l' ∧ Mv l1 l' a b ∧ Srt l' a b := by
  -- the second half
  have right : ∀ l2, Mv l1 l2 a mid → Srt l2 a mid → ∃ l', (if decide ((mid : Int) < en) = true then (if decide ((en : Int) < b) = true then (F.slices_symMergeCmpFunc_money_share__r K k l2 mid en b).bind fun r7 => (if decide (List.length r7 = l0.length) = true then some r7 else none) else (if decide (List.length l2 = l0.length) = true then some l2 else none)) else (if decide (List.length l2 = l0.length) = true then some l2 else none)) = some l' ∧ Mv l1 l' a b ∧ Srt l' a b := by
    intro l2 mv2 sr2
    have o : ∀ q, mid ≤ q → nth [] l2 q = nth [] l1 q := fun q h => mv2.out q (.inr h)
    have hlen : decide (List.length l2 = l0.length) = true := by simp; exact mv2.len.trans h0
    have fin : ∀ l3, Mv l2 l3 mid b → Srt l3 mid b → Mv l1 l3 a b ∧ Srt l3 a b := fun l3 mv3 sr3 =>
      ⟨(mv2.widen (Nat.le_refl _) (by omega)).trans (mv3.widen (by omega) (Nat.le_refl _)), (sr2.of_out fun i i1 i2 => mv3.out i (.inl i2)).join sr3 fun i j i1 i2 j1 j2 => by
        obtain ⟨p, p1, p2, p3⟩ := mv2.src i i1 i2
        obtain ⟨q, q1, q2, q3⟩ := mv3.src j j1 j2
        rw [mv3.out i (.inl i2), p3, q3, o q q1]
        exact cr p q p1 p2 q1 q2⟩
    by_cases c1 : mid < en
    · rw [if_pos (by simpa using c1)]
      by_cases c2 : en < b
      · obtain ⟨l3, e3, mv3, sr3⟩ := IH mid en b l2 (hw.mv mv2) (by rw [mv2.len]; exact hl) (by rw [mv2.len]; exact hK) c1 c2 (by rw [mv2.len]; exact hb) k2 (s3.of_out fun i i1 _ => o i i1) (s4.of_out fun i i1 _ => o i (by omega)) fun s t u1 u2 u3 u4 => by
          rw [o s u1, o t (by omega)]; exact t2 s t u1 u2 u3 u4
        have hl3 : decide (List.length l3 = l0.length) = true := by simp; exact mv3.len.trans (mv2.len.trans h0)
        rw [if_pos (by simpa using c2), e3, Option.bind_some, if_pos hl3]
        exact ⟨l3, rfl, fin l3 mv3 sr3⟩
      · rw [if_neg (by simpa using c2), if_pos hlen]
        exact ⟨l2, rfl, fin l2 (Mv.refl _ _ _) fun i j i1 i2 i3 => (s3.of_out (l' := l2) fun i i1 _ => o i i1) i j i1 i2 (by omega)⟩
    · rw [if_neg (by simpa using c1), if_pos hlen]
      exact ⟨l2, rfl, fin l2 (Mv.refl _ _ _) fun i j i1 i2 i3 => (s4.of_out (l' := l2) fun i i1 _ => o i (by omega)) i j (by omega) i2 i3⟩
  unfold part2
  by_cases c1 : a < st
  · rw [if_pos (by simpa using c1)]
    by_cases c2 : st < mid
    · obtain ⟨l2, e2, mv2, sr2⟩ := IH a st mid l1 hw hl hK c1 c2 (by omega) k1 s1 s2 t1
      rw [if_pos (by simpa using c2), e2, Option.bind_some]
      exact right l2 mv2 sr2
    · rw [if_neg (by simpa using c2)]
      exact right l1 (Mv.refl _ _ _) fun i j i1 i2 i3 => s1 i j i1 i2 (by omega)
  · rw [if_neg (by simpa using c1)]
    exact right l1 (Mv.refl _ _ _) fun i j i1 i2 i3 => s2 i j (by omega) i2 i3
theorem sym_ok {K : Nat} : ∀ k, SymOk K k
  | 0 => fun a m b l _ _ _ ham hmb _ hk => by omega
  | k + 1 => fun a m b l hw hl hK ham hmb hb hk h1 h2 hat => by
    have ih := sym_ok (K := K) k
    obtain ⟨mid, hmid⟩ : ∃ mid, mid = (a + b) / 2 := ⟨_, rfl⟩
    have e0 : IntKind.i64.wrap ((m : Int) - a) = ((m - a : Nat) : Int) := by rw [iw (by omega) (by omega)]; omega
    have e00 : IntKind.i64.wrap ((b : Int) - m) = ((b - m : Nat) : Int) := by rw [iw (by omega) (by omega)]; omega
    have eh := half_ok (a := a) (b := b) (by omega)
    rw [← hmid] at eh
    rw [F.slices_symMergeCmpFunc_money_share__r]
    simp only [bi_eq]
    rw [e0, e00, eh]
    by_cases c1 : m = a + 1
    · subst c1
      rw [if_pos (by simp)]
      obtain ⟨r, l', q1, q2, q3, q4⟩ := merge_one (K := K) hw hl hK hmb hb h2 fun t t1 t2 => hat a t (Nat.le_refl _) (by omega) t1 t2
      rw [q1, Option.bind_some]
      simp only
      rw [q2, Option.bind_some, if_pos (by simpa using q3.len)]
      exact ⟨l', rfl, q3, q4⟩
    rw [if_neg (by simp; omega)]
    by_cases c2 : b = m + 1
    · subst c2
      rw [if_pos (by simp)]
      obtain ⟨r, l', q1, q2, q3, q4⟩ := merge_last (K := K) hw hl hK ham (by omega) h1 fun s s1 s2 => hat s m s1 s2 (Nat.le_refl _) (by omega)
      rw [q1, Option.bind_some]
      simp only
      rw [q2, Option.bind_some, if_pos (by simpa using q3.len)]
      exact ⟨l', rfl, q3, q4⟩
    rw [if_neg (by simp; omega)]
    have en1 : IntKind.i64.wrap ((mid : Int) + m) = ((mid + m : Nat) : Int) := by rw [iw (by omega) (by omega)]; omega
    have ep : IntKind.i64.wrap (((mid + m : Nat) : Int) - 1) = ((mid + m - 1 : Nat) : Int) := by rw [iw (by omega) (by omega)]; omega
    rw [en1, ep]
    by_cases c3 : mid < m
    · have enb : IntKind.i64.wrap (((mid + m : Nat) : Int) - b) = ((mid + m - b : Nat) : Int) := by rw [iw (by omega) (by omega)]; omega
      rw [enb]
      obtain ⟨st, e1, r1, r2, p1, p2⟩ := search_sym (K := K) (p := mid + m - 1) (x1 := (a : Int)) (x2 := (m : Int)) (x3 := (b : Int)) (x18 := (mid : Int)) (x19 := ((mid + m : Nat) : Int)) hw hl (by omega) (lo := mid + m - b) (hi := mid) (by omega) (fun t t1 t2 => by omega) (fun s t u1 u2 u3 h => by
        have v1 := h1 s t (by omega) u2 (by omega)
        have v2 := h2 (mid + m - 1 - t) (mid + m - 1 - s) (by omega) (by omega) (by omega)
        unfold Lt at v1 v2; omega) K (mid + m - b) (mid) (Nat.le_refl _) (by omega) (Nat.le_refl _) (by omega) (fun t t1 t2 => by omega) (fun t t1 t2 => by omega)
      have core := fun (l1 : List Rw) (hr : ∀ q, nth [] l1 q = if st ≤ q ∧ q < mid then nth [] l (q + (m - st)) else if mid ≤ q ∧ q < mid + m - st then nth [] l (q - (mid - st)) else nth [] l q) => sym_core (l1 := l1) ham hmb hmid h1 h2 hat (.inl ⟨c3, rfl, rfl⟩) r1 r2 p1 p2 hr
      have same : (¬ st < m ∨ ¬ m < mid + m - st) → ∀ q, nth [] l q = if st ≤ q ∧ q < mid then nth [] l (q + (m - st)) else if mid ≤ q ∧ q < mid + m - st then nth [] l (q - (mid - st)) else nth [] l q := fun hs q => by
        by_cases z1 : st ≤ q ∧ q < mid
        · rw [if_pos z1]; congr 1; omega
        · rw [if_neg z1]
          by_cases z2 : mid ≤ q ∧ q < mid + m - st
          · rw [if_pos z2]; congr 1; omega
          · rw [if_neg z2]
      have een : IntKind.i64.wrap (((mid + m : Nat) : Int) - st) = ((mid + m - st : Nat) : Int) := by rw [iw (by omega) (by omega)]; omega
      rw [if_pos (by simpa using c3), e1, Option.bind_some]
      simp only
      by_cases d1 : st < m
      · rw [if_pos (by simpa using d1)]
        by_cases d2 : m < mid + m - st
        · rw [if_pos (by rw [een]; simpa using d2), een]
          obtain ⟨l1, e2, R⟩ := rotate_ok (K := K) hw hl hK d1 d2 (show mid + m - st ≤ l.length by omega)
          obtain ⟨y1, y2, y3, y4, y5, y6, y7⟩ := core l1 fun q => by
            rw [R.at_]
            by_cases z1 : st ≤ q ∧ q < mid
            · rw [if_pos z1, if_pos (by omega)]
            · rw [if_neg z1, if_neg (by omega)]
              by_cases z2 : mid ≤ q ∧ q < mid + m - st
              · rw [if_pos z2, if_pos (by omega)]; congr 1; omega
              · rw [if_neg z2, if_neg (by omega)]
          have mv1 : Mv l l1 a b := R.mv (by omega) (by omega)
          obtain ⟨l', e3, mv3, sr3⟩ := part2_ok (K := K) (k := k) (l0 := l) ih (hw.mv mv1) (by rw [mv1.len]; exact hl) (by rw [mv1.len]; exact hK) mv1.len (a := a) (st := st) (mid := mid) (en := mid + m - st) (b := b) (by omega) (by omega) (by omega) (by omega) (by rw [mv1.len]; exact hb) (by omega) (by omega) y1 y2 y3 y4 y5 y6 y7
          rw [e2, Option.bind_some]
          exact ⟨l', e3, mv1.trans mv3, sr3⟩
        · rw [if_neg (by rw [een]; simpa using d2), een]
          obtain ⟨y1, y2, y3, y4, y5, y6, y7⟩ := core l (same (.inr d2))
          obtain ⟨l', e3, mv3, sr3⟩ := part2_ok (K := K) (k := k) (l0 := l) ih hw hl hK rfl (a := a) (st := st) (mid := mid) (en := mid + m - st) (b := b) (by omega) (by omega) (by omega) (by omega) hb (by omega) (by omega) y1 y2 y3 y4 y5 y6 y7
          exact ⟨l', by unfold part2 at e3; simpa using e3, mv3, sr3⟩
      · rw [if_neg (by simpa using d1), een]
        obtain ⟨y1, y2, y3, y4, y5, y6, y7⟩ := core l (same (.inl d1))
        obtain ⟨l', e3, mv3, sr3⟩ := part2_ok (K := K) (k := k) (l0 := l) ih hw hl hK rfl (a := a) (st := st) (mid := mid) (en := mid + m - st) (b := b) (by omega) (by omega) (by omega) (by omega) hb (by omega) (by omega) y1 y2 y3 y4 y5 y6 y7
        exact ⟨l', by unfold part2 at e3; simpa using e3, mv3, sr3⟩
    · skip
      obtain ⟨st, e1, r1, r2, p1, p2⟩ := search_sym (K := K) (p := mid + m - 1) (x1 := (a : Int)) (x2 := (m : Int)) (x3 := (b : Int)) (x18 := (mid : Int)) (x19 := ((mid + m : Nat) : Int)) hw hl (by omega) (lo := a) (hi := m) (by omega) (fun t t1 t2 => by omega) (fun s t u1 u2 u3 h => by
        have v1 := h1 s t (by omega) u2 (by omega)
        have v2 := h2 (mid + m - 1 - t) (mid + m - 1 - s) (by omega) (by omega) (by omega)
        unfold Lt at v1 v2; omega) K (a) (m) (Nat.le_refl _) (by omega) (Nat.le_refl _) (by omega) (fun t t1 t2 => by omega) (fun t t1 t2 => by omega)
      have core := fun (l1 : List Rw) (hr : ∀ q, nth [] l1 q = if st ≤ q ∧ q < mid then nth [] l (q + (m - st)) else if mid ≤ q ∧ q < mid + m - st then nth [] l (q - (mid - st)) else nth [] l q) => sym_core (l1 := l1) ham hmb hmid h1 h2 hat (.inr ⟨by omega, rfl, rfl⟩) r1 r2 p1 p2 hr
      have same : (¬ st < m ∨ ¬ m < mid + m - st) → ∀ q, nth [] l q = if st ≤ q ∧ q < mid then nth [] l (q + (m - st)) else if mid ≤ q ∧ q < mid + m - st then nth [] l (q - (mid - st)) else nth [] l q := fun hs q => by
        by_cases z1 : st ≤ q ∧ q < mid
        · rw [if_pos z1]; congr 1; omega
        · rw [if_neg z1]
          by_cases z2 : mid ≤ q ∧ q < mid + m - st
          · rw [if_pos z2]; congr 1; omega
          · rw [if_neg z2]
      have een : IntKind.i64.wrap (((mid + m : Nat) : Int) - st) = ((mid + m - st : Nat) : Int) := by rw [iw (by omega) (by omega)]; omega
      rw [if_neg (by simpa using c3), e1, Option.bind_some]
      simp only
      by_cases d1 : st < m
      · rw [if_pos (by simpa using d1)]
        by_cases d2 : m < mid + m - st
        · rw [if_pos (by rw [een]; simpa using d2), een]
          obtain ⟨l1, e2, R⟩ := rotate_ok (K := K) hw hl hK d1 d2 (show mid + m - st ≤ l.length by omega)
          obtain ⟨y1, y2, y3, y4, y5, y6, y7⟩ := core l1 fun q => by
            rw [R.at_]
            by_cases z1 : st ≤ q ∧ q < mid
            · rw [if_pos z1, if_pos (by omega)]
            · rw [if_neg z1, if_neg (by omega)]
              by_cases z2 : mid ≤ q ∧ q < mid + m - st
              · rw [if_pos z2, if_pos (by omega)]; congr 1; omega
              · rw [if_neg z2, if_neg (by omega)]
          have mv1 : Mv l l1 a b := R.mv (by omega) (by omega)
          obtain ⟨l', e3, mv3, sr3⟩ := part2_ok (K := K) (k := k) (l0 := l) ih (hw.mv mv1) (by rw [mv1.len]; exact hl) (by rw [mv1.len]; exact hK) mv1.len (a := a) (st := st) (mid := mid) (en := mid + m - st) (b := b) (by omega) (by omega) (by omega) (by omega) (by rw [mv1.len]; exact hb) (by omega) (by omega) y1 y2 y3 y4 y5 y6 y7
          rw [e2, Option.bind_some]
          exact ⟨l', e3, mv1.trans mv3, sr3⟩
        · rw [if_neg (by rw [een]; simpa using d2), een]
          obtain ⟨y1, y2, y3, y4, y5, y6, y7⟩ := core l (same (.inr d2))
          obtain ⟨l', e3, mv3, sr3⟩ := part2_ok (K := K) (k := k) (l0 := l) ih hw hl hK rfl (a := a) (st := st) (mid := mid) (en := mid + m - st) (b := b) (by omega) (by omega) (by omega) (by omega) hb (by omega) (by omega) y1 y2 y3 y4 y5 y6 y7
          exact ⟨l', by unfold part2 at e3; simpa using e3, mv3, sr3⟩
      · rw [if_neg (by simpa using d1), een]
        obtain ⟨y1, y2, y3, y4, y5, y6, y7⟩ := core l (same (.inl d1))
        obtain ⟨l', e3, mv3, sr3⟩ := part2_ok (K := K) (k := k) (l0 := l) ih hw hl hK rfl (a := a) (st := st) (mid := mid) (en := mid + m - st) (b := b) (by omega) (by omega) (by omega) (by omega) hb (by omega) (by omega) y1 y2 y3 y4 y5 y6 y7
        exact ⟨l', by unfold part2 at e3; simpa using e3, mv3, sr3⟩
end Go.Proofs.Ytfeifhlnidkbbaa.Wide

namespace Go.Proofs.Ytfeifhlnidkbbaa.Wide
open Go Go.RowKit Go.Proofs.Ytfeifhlnidkbbaa.Vm
/-- Blocks of s rows each are sorted, up to a; behind it all is as it was. -/
structure Stb (l0 l : List Rw) (s a : Nat) : Prop where
  len : l.length = l0.length
  perm : l.Perm l0
  src : ∀ q, q < a → ∃ j, j < a ∧ j / s = q / s ∧ nth [] l q = nth [] l0 j
  out : ∀ q, a ≤ q → nth [] l q = nth [] l0 q
  srt : ∀ p q, p < q → q < a → p / s = q / s → Lt (nth [] l p) (nth [] l q)
theorem Stb.step {l0 l l' : List Rw} {s a b : Nat} (h : Stb l0 l s a) (mv : Mv l l' a b) (hs : Srt l' a b) (hb : a ≤ b) (hd : ∀ p q, p < a → a ≤ q → q < b → p / s ≠ q / s) (he : ∀ p q, a ≤ p → p < b → a ≤ q → q < b → p / s = q / s) : Stb l0 l' s b where
  len := mv.len.trans h.len
  perm := mv.perm.trans h.perm
  src := fun q hq => by
    by_cases c : q < a
    · obtain ⟨j, j1, j2, j3⟩ := h.src q c
      exact ⟨j, by omega, j2, (mv.out q (.inl c)).trans j3⟩
    · obtain ⟨j, j1, j2, j3⟩ := mv.src q (by omega) hq
      exact ⟨j, j2, he j q j1 j2 (by omega) hq, j3.trans (h.out j j1)⟩
  out := fun q hq => (mv.out q (.inr hq)).trans (h.out q (by omega))
  srt := fun p q h1 h2 h3 => by
    by_cases c : q < a
    · rw [mv.out p (.inl (by omega)), mv.out q (.inl c)]; exact h.srt p q h1 c h3
    · by_cases d : p < a
      · exact absurd h3 (hd p q d (by omega) h2)
      · exact hs p q (by omega) h1 h2
/-- The first blocks: of twenty rows each. -/
theorem stab_first {K : Nat} {l0 : List Rw} (hw : W3 l0) (hl : l0.length ≤ 1000000) (hK : l0.length + 100 < K) (hat : ∀ s t, s < t → t < l0.length → nth 0 (nth [] l0 s) 0 < nth 0 (nth [] l0 t) 0) :
    ∀ (k c : Nat) (l : List Rw), Stb l0 l 20 (20 * c) → 20 * c ≤ l0.length → l0.length - 20 * c < 20 * k →
    ∃ (c' : Nat) (l' : List Rw), F.slices_stableCmpFunc_money_share__l2 K k (l0.length : Int) 20 ((20 * c : Nat) : Int) ((20 * c + 20 : Nat) : Int) l = some ((l0.length : Int), 20, ((20 * c' : Nat) : Int), l') ∧ Stb l0 l' 20 (20 * c') ∧ 20 * c' ≤ l0.length ∧ l0.length < 20 * c' + 20
  | 0, c, l, _, _, hk => by omega
  | k + 1, c, l, h, hc, hk => by
    rw [F.slices_stableCmpFunc_money_share__l2, bi_eq]
    by_cases d : 20 * c + 20 ≤ l0.length
    · have hw' : W3 l := fun r hr => hw r (h.perm.mem_iff.1 hr)
      obtain ⟨l1, e1, mv, sr⟩ := ins_sort (K := K) (a := 20 * c) (b := 20 * c + 20) (by omega) hw' (by rw [h.len]; exact hl) (by omega) (by rw [h.len]; exact d) fun s t s1 s2 s3 => by
        rw [h.out s s1, h.out t (by omega)]; exact hat s t s2 (by omega)
      rw [if_pos (by simp; omega), e1, Option.bind_some, show IntKind.i64.wrap (((20 * c + 20 : Nat) : Int) + 20) = ((20 * (c + 1) + 20 : Nat) : Int) by rw [iw (by omega) (by omega)]; omega]
      have h' : Stb l0 l1 20 (20 * (c + 1)) := by
        rw [show 20 * (c + 1) = 20 * c + 20 by omega]
        exact h.step mv sr (by omega) (fun p q p1 q1 q2 => by omega) (fun p q p1 p2 q1 q2 => by omega)
      have := stab_first hw hl hK hat k (c + 1) l1 h' (by omega) (by omega)
      rwa [show ((20 * (c + 1) : Nat) : Int) = ((20 * c + 20 : Nat) : Int) by omega] at this
    · rw [if_neg (by simp; omega)]
      exact ⟨c, l, rfl, h, hc, by omega⟩
theorem stab_tail {K c : Nat} {l0 l : List Rw} (hw : W3 l0) (hl : l0.length ≤ 1000000) (hK : l0.length + 100 < K) (hat : ∀ s t, s < t → t < l0.length → nth 0 (nth [] l0 s) 0 < nth 0 (nth [] l0 t) 0)
    (h : Stb l0 l 20 (20 * c)) (hc : 20 * c ≤ l0.length) (hn : l0.length < 20 * c + 20) : ∃ l', F.slices_insertionSortCmpFunc_money_share_ K l ((20 * c : Nat) : Int) (l0.length : Int) = some l' ∧ Stb l0 l' 20 l0.length := by
  have hw' : W3 l := fun r hr => hw r (h.perm.mem_iff.1 hr)
  obtain ⟨l1, e1, mv, sr⟩ := ins_sort (K := K) (a := 20 * c) (b := l0.length) (by omega) hw' (by rw [h.len]; exact hl) hc (by rw [h.len]; exact Nat.le_refl _) fun s t s1 s2 s3 => by
    rw [h.out s s1, h.out t (by omega)]; exact hat s t s2 s3
  exact ⟨l1, e1, h.step mv sr hc (fun p q p1 q1 q2 => by omega) (fun p q p1 p2 q1 q2 => by omega)⟩
/-- Blocks of s rows on the way to blocks of twice as many: done up to a. -/
structure Mx (l0 l : List Rw) (s a n : Nat) : Prop where
  len : l.length = l0.length
  perm : l.Perm l0
  src : ∀ q, q < n → ∃ j, j < n ∧ j / (2 * s) = q / (2 * s) ∧ (a ≤ q → j / s = q / s) ∧ nth [] l q = nth [] l0 j
  srt : ∀ p q, p < q → q < n → p / (2 * s) = q / (2 * s) → (q < a ∨ p / s = q / s) → Lt (nth [] l p) (nth [] l q)
theorem mx_step {K s a b : Nat} (hs : s = 20 ∨ s = 40) {l0 l : List Rw} (hw : W3 l0) (hl : l0.length ≤ 1000000) (hK : l0.length + 100 < K) (hat : ∀ s t, s < t → t < l0.length → nth 0 (nth [] l0 s) 0 < nth 0 (nth [] l0 t) 0)
    (h : Mx l0 l s a l0.length) (ha : a % (2 * s) = 0) (hb1 : a + s < b) (hb2 : b ≤ a + 2 * s) (hb3 : b ≤ l0.length) (hb4 : b = a + 2 * s ∨ b = l0.length) :
    ∃ l', F.slices_symMergeCmpFunc_money_share__r K K l (a : Int) ((a + s : Nat) : Int) (b : Int) = some l' ∧ Mx l0 l' s b l0.length := by
  have hw' : W3 l := fun r hr => hw r (h.perm.mem_iff.1 hr)
  have at2 : ∀ p q, a ≤ p → p < a + s → a + s ≤ q → q < b → nth 0 (nth [] l p) 0 < nth 0 (nth [] l q) 0 := fun p q p1 p2 q1 q2 => by
    obtain ⟨i, i1, i2, i3, i4⟩ := h.src p (by omega)
    obtain ⟨j, j1, j2, j3, j4⟩ := h.src q (by omega)
    have i5 := i3 p1
    have j5 := j3 (by omega)
    rw [i4, j4]
    exact hat i j (by rcases hs with rfl | rfl <;> omega) j1
  obtain ⟨l', e, mv, sr⟩ := sym_ok (K := K) K a (a + s) b l hw' (by rw [h.len]; exact hl) (by rw [h.len]; omega) (by rcases hs with rfl | rfl <;> omega) hb1 (by rw [h.len]; exact hb3) (by omega)
    (fun p q p1 p2 q1 => h.srt p q p2 (by omega) (by rcases hs with rfl | rfl <;> omega) (.inr (by rcases hs with rfl | rfl <;> omega)))
    (fun p q p1 p2 q1 => h.srt p q p2 (by omega) (by rcases hs with rfl | rfl <;> omega) (.inr (by rcases hs with rfl | rfl <;> omega))) at2
  refine ⟨l', e, mv.len.trans h.len, mv.perm.trans h.perm, fun q hq => ?_, fun p q p1 q1 p2 p3 => ?_⟩
  · by_cases c : a ≤ q ∧ q < b
    · obtain ⟨j, j1, j2, j3⟩ := mv.src q c.1 c.2
      obtain ⟨i, i1, i2, i3, i4⟩ := h.src j (by omega)
      refine ⟨i, i1, ?_, fun k => by omega, j3.trans i4⟩
      rcases hs with rfl | rfl <;> omega
    · obtain ⟨i, i1, i2, i3, i4⟩ := h.src q hq
      exact ⟨i, i1, i2, fun k => i3 (by omega), (mv.out q (by omega)).trans i4⟩
  · by_cases c : a ≤ q ∧ q < b
    · by_cases d : a ≤ p
      · exact sr p q d p1 c.2
      · exfalso; rcases hs with rfl | rfl <;> omega
    · by_cases d : a ≤ p ∧ p < b
      · exfalso; rcases hs with rfl | rfl <;> omega
      · rw [mv.out p (by omega), mv.out q (by omega)]
        exact h.srt p q p1 q1 p2 (by omega)
theorem mx_loop {K s : Nat} (hs : s = 20 ∨ s = 40) {l0 : List Rw} (hw : W3 l0) (hl : l0.length ≤ 1000000) (hK : l0.length + 100 < K) (hat : ∀ s t, s < t → t < l0.length → nth 0 (nth [] l0 s) 0 < nth 0 (nth [] l0 t) 0) :
    ∀ (k a : Nat) (l : List Rw), Mx l0 l s a l0.length → a % (2 * s) = 0 → a ≤ l0.length → l0.length - a < k →
    ∃ (a' : Nat) (l' : List Rw), F.slices_stableCmpFunc_money_share__l9 K k (l0.length : Int) (s : Int) (a : Int) ((a + 2 * s : Nat) : Int) l = some ((l0.length : Int), (s : Int), (a' : Int), l') ∧ Mx l0 l' s a' l0.length ∧ a' % (2 * s) = 0 ∧ a' ≤ l0.length ∧ l0.length < a' + 2 * s
  | 0, a, l, _, _, _, hk => by omega
  | k + 1, a, l, h, ha, han, hk => by
    rw [F.slices_stableCmpFunc_money_share__l9, bi_eq]
    by_cases d : a + 2 * s ≤ l0.length
    · have hs0 : 0 < s := by rcases hs with rfl | rfl <;> decide
      obtain ⟨l1, e1, h1⟩ := mx_step (a := a) (b := a + 2 * s) hs hw hl hK hat h ha (by omega) (Nat.le_refl _) d (.inl rfl)
      have e2 : IntKind.i64.wrap ((a : Int) + s) = ((a + s : Nat) : Int) := by rw [iw (by omega) (by omega)]; omega
      have e3 : IntKind.i64.wrap (((a + 2 * s : Nat) : Int) + IntKind.i64.wrap (2 * (s : Int))) = ((a + 2 * s + 2 * s : Nat) : Int) := by rw [iw (x := 2 * (s : Int)) (by omega) (by omega), iw (by omega) (by omega)]; omega
      rw [if_pos (by simp; omega), e2, e1, Option.bind_some, e3]
      exact mx_loop hs hw hl hK hat k (a + 2 * s) l1 h1 (by rcases hs with rfl | rfl <;> omega) d (by omega)
    · rw [if_neg (by simp; omega)]
      exact ⟨a, l, rfl, h, ha, han, by omega⟩
/-- One round: blocks of s rows come to blocks of twice as many. -/
theorem mx_round {K s : Nat} (hs : s = 20 ∨ s = 40) {l0 l : List Rw} (hw : W3 l0) (hl : l0.length ≤ 1000000) (hK : l0.length + 100 < K) (hat : ∀ s t, s < t → t < l0.length → nth 0 (nth [] l0 s) 0 < nth 0 (nth [] l0 t) 0)
    (h : Stb l0 l s l0.length) (k : Nat) (hsn : s < l0.length) : ∃ l', F.slices_stableCmpFunc_money_share__l7 K (k + 1) (l0.length : Int) (s : Int) l = F.slices_stableCmpFunc_money_share__l7 K k (l0.length : Int) ((2 * s : Nat) : Int) l' ∧ Stb l0 l' (2 * s) l0.length := by
  have h0 : Mx l0 l s 0 l0.length := ⟨h.len, h.perm, fun q hq => by
    obtain ⟨j, j1, j2, j3⟩ := h.src q hq
    exact ⟨j, j1, by rcases hs with rfl | rfl <;> omega, fun _ => j2, j3⟩, fun p q p1 q1 p2 p3 => h.srt p q p1 q1 (by omega)⟩
  obtain ⟨a, l1, e1, h1, g1, g2, g3⟩ := mx_loop hs hw hl hK hat K 0 l h0 (by simp) (by omega) (by omega)
  have e1 : F.slices_stableCmpFunc_money_share__l9 K K (l0.length : Int) (s : Int) 0 (IntKind.i64.wrap (2 * (s : Int))) l = some ((l0.length : Int), (s : Int), (a : Int), l1) := by
    rw [iw (x := 2 * (s : Int)) (by rcases hs with rfl | rfl <;> decide) (by rcases hs with rfl | rfl <;> decide), show 2 * (s : Int) = ((0 + 2 * s : Nat) : Int) by omega]; exact e1
  have e2 : IntKind.i64.wrap ((a : Int) + s) = ((a + s : Nat) : Int) := by rw [iw (by omega) (by omega)]; omega
  have e3 : IntKind.i64.wrap ((s : Int) * 2) = ((2 * s : Nat) : Int) := by rw [iw (by omega) (by omega)]; omega
  have fin : ∀ {l2 : List Rw} {a2 : Nat}, Mx l0 l2 s a2 l0.length → a2 % (2 * s) = 0 ∧ l0.length ≤ a2 + s ∨ a2 = l0.length → Stb l0 l2 (2 * s) l0.length := fun {l2 a2} m hm => ⟨m.len, m.perm, fun q hq => by
    obtain ⟨j, j1, j2, _, j4⟩ := m.src q hq
    exact ⟨j, j1, j2, j4⟩, fun q hq => by
    rw [nth_eq, nth_eq, List.getD_eq_getElem?_getD, List.getD_eq_getElem?_getD, List.getElem?_eq_none (by have := m.len; omega), List.getElem?_eq_none (by omega)], fun p q p1 q1 p2 => m.srt p q p1 q1 p2 (by rcases hs with rfl | rfl <;> omega)⟩
  rw [F.slices_stableCmpFunc_money_share__l7]
  simp only [bi_eq]
  rw [if_pos (by simpa using hsn), e1, Option.bind_some]
  simp only
  rw [e2, e3]
  by_cases d : a + s < l0.length
  · obtain ⟨l2, e4, h2⟩ := mx_step (a := a) (b := l0.length) hs hw hl hK hat h1 g1 d (by omega) (Nat.le_refl _) (.inr rfl)
    rw [if_pos (by simp; omega), e4, Option.bind_some]
    exact ⟨l2, rfl, fin h2 (.inr rfl)⟩
  · rw [if_neg (by simp; omega)]
    exact ⟨l1, rfl, fin h1 (.inl ⟨g1, by omega⟩)⟩
/-- The stable sort of at most 64 shares: in the order of their rests, then of their places. -/
theorem stable_ok {K : Nat} {l0 : List Rw} (hw : W3 l0) (hl : l0.length ≤ 64) (hK : 200 < K) (hat : ∀ s t, s < t → t < l0.length → nth 0 (nth [] l0 s) 0 < nth 0 (nth [] l0 t) 0) :
    ∃ l', F.slices_SortStableFunc___money_share_money_share_ K l0 = some l' ∧ l'.length = l0.length ∧ l'.Perm l0 ∧ Srt l' 0 l0.length := by
  have hl' : l0.length ≤ 1000000 := by omega
  have hK' : l0.length + 100 < K := by omega
  have z : Stb l0 l0 20 (20 * 0) := ⟨rfl, List.Perm.refl _, fun q hq => by omega, fun _ _ => rfl, fun p q _ hq => by omega⟩
  obtain ⟨c, l1, e1, h1, c1, c2⟩ := stab_first hw hl' hK' hat K 0 l0 z (by omega) (by omega)
  obtain ⟨l2, e2, h2⟩ := stab_tail hw hl' hK' hat h1 c1 c2
  have stop : ∀ (k s : Nat) (l : List Rw), l0.length ≤ s → F.slices_stableCmpFunc_money_share__l7 K (k + 1) (l0.length : Int) (s : Int) l = some l := fun k s l h => by
    rw [F.slices_stableCmpFunc_money_share__l7, bi_eq, if_neg (by simp; omega)]
  have whole : ∀ (s : Nat) (l : List Rw), Stb l0 l s l0.length → l0.length ≤ s → Srt l 0 l0.length := fun s l h hs i j _ i2 i3 => h.srt i j i2 i3 (by rw [Nat.div_eq_of_lt (by omega), Nat.div_eq_of_lt (by omega)])
  obtain ⟨k, hk⟩ : ∃ k, K = k + 5 := ⟨K - 5, by omega⟩
  have rounds : ∃ l3, F.slices_stableCmpFunc_money_share__l7 K K (l0.length : Int) 20 l2 = some l3 ∧ l3.length = l0.length ∧ l3.Perm l0 ∧ Srt l3 0 l0.length := by
    have e : F.slices_stableCmpFunc_money_share__l7 K K (l0.length : Int) 20 l2 = F.slices_stableCmpFunc_money_share__l7 K (k + 4 + 1) (l0.length : Int) ((20 : Nat) : Int) l2 := by rw [← hk]; rfl
    by_cases d1 : 20 < l0.length
    · obtain ⟨l3, e3, h3⟩ := mx_round (s := 20) (.inl rfl) hw hl' hK' hat h2 (k + 4) d1
      by_cases d2 : 40 < l0.length
      · obtain ⟨l4, e4, h4⟩ := mx_round (s := 40) (.inr rfl) hw hl' hK' hat h3 (k + 3) d2
        exact ⟨l4, by rw [e, e3]; exact e4.trans (stop (k + 2) (2 * 40) l4 (by omega)), h4.len, h4.perm, whole _ l4 h4 (by omega)⟩
      · exact ⟨l3, by rw [e, e3]; exact stop (k + 3) (2 * 20) l3 (by omega), h3.len, h3.perm, whole _ l3 h3 (by omega)⟩
    · exact ⟨l2, by rw [e]; exact stop (k + 4) 20 l2 (by omega), h2.len, h2.perm, whole _ l2 h2 (by omega)⟩
  obtain ⟨l3, e3, h3, h4, h5⟩ := rounds
  refine ⟨l3, ?_, h3, h4, h5⟩
  have e1' : F.slices_stableCmpFunc_money_share__l2 K K (l0.length : Int) 20 0 20 l0 = some ((l0.length : Int), 20, ((20 * c : Nat) : Int), l1) := e1
  unfold F.slices_SortStableFunc___money_share_money_share_ F.slices_stableCmpFunc_money_share_
  rw [e1', Option.bind_some]
  simp only
  rw [e2, Option.bind_some, e3, Option.bind_some, bi_eq, if_pos (by simpa using h3), Option.bind_some, bi_eq, if_pos (by simpa using h3)]
end Go.Proofs.Ytfeifhlnidkbbaa.Wide

namespace Go.Proofs.Ytfeifhlnidkbbaa.Wide
open Go Go.RowKit Go.Proofs.Ytfeifhlnidkbbaa.Vm
/-- An or of words that share no bit is their sum. -/
theorem lor_add {s : Nat} (hs : s ≤ 64) {a b : Int} (ha : 0 ≤ a) (hb : 0 ≤ b) (hb2 : b < 2 ^ s) (h : a * 2 ^ s + b < 18446744073709551616) : lor .u64 (a * 2 ^ s) b = a * 2 ^ s + b := by
  rw [show (18446744073709551616 : Int) = 2 ^ 64 by decide] at h
  obtain ⟨a, rfl⟩ := Int.eq_ofNat_of_zero_le ha
  obtain ⟨b, rfl⟩ := Int.eq_ofNat_of_zero_le hb
  have hb2' : b < 2 ^ s := by exact_mod_cast hb2
  have h' : a * 2 ^ s + b < 2 ^ 64 := by exact_mod_cast h
  have e1 : ((a : Int) * 2 ^ s) = ((2 ^ s * a : Nat) : Int) := by push_cast; exact Int.mul_comm _ _
  have e2 : 2 ^ s * a + b = 2 ^ s * a ||| b := Nat.two_pow_add_eq_or_of_lt hb2' a
  have e3 : 2 ^ s * a + b < 2 ^ 64 := by rw [Nat.mul_comm]; exact h'
  unfold lor
  rw [e1]
  show IntKind.u64.wrap (((BitVec.ofInt 64 ((2 ^ s * a : Nat) : Int) ||| BitVec.ofInt 64 (b : Int)).toNat : Nat) : Int) = _
  rw [BitVec.toNat_or, BitVec.ofInt_natCast, BitVec.ofInt_natCast, BitVec.toNat_ofNat, BitVec.toNat_ofNat, Nat.mod_eq_of_lt (by omega), Nat.mod_eq_of_lt (by omega), ← e2]
  generalize 2 ^ s * a = z at *
  rw [uw (by omega) (by omega)]
  omega
/-- One digit of the quotient: q*y1 + r = u; what the test says of q. -/
theorem dg_mul {y1 y0 u q r : Int} (e : q * y1 + r = u) : q * (y1 * 4294967296 + y0) = (u - r) * 4294967296 + q * y0 := by
  have : u - r = q * y1 := by omega
  rw [this, Int.mul_add, Int.mul_assoc]
theorem dg_done {y1 y0 u d q r : Int} (hy : 0 < y1 * 4294967296 + y0) (e : q * y1 + r = u) (h : q * y0 ≤ 4294967296 * r + d) : q ≤ (u * 4294967296 + d) / (y1 * 4294967296 + y0) := by
  refine (Int.le_ediv_iff_mul_le hy).2 ?_
  rw [dg_mul e]
  omega
theorem dg_over {y1 y0 u d q r : Int} (hy : 0 < y1 * 4294967296 + y0) (e : q * y1 + r = u) (h : 4294967296 * r + d < q * y0) : (u * 4294967296 + d) / (y1 * 4294967296 + y0) ≤ q - 1 := by
  have : (u * 4294967296 + d) / (y1 * 4294967296 + y0) < q := by
    refine Int.ediv_lt_of_lt_mul hy ?_
    rw [dg_mul e]
    omega
  omega
theorem dg_break {y1 y0 u d q r : Int} (hy : 0 < y1 * 4294967296 + y0) (h0 : 0 ≤ y0 ∧ y0 < 4294967296) (hd : 0 ≤ d) (hq : 0 ≤ q ∧ q ≤ 4294967296) (e : q * y1 + r = u) (hr : 4294967296 ≤ r) : q ≤ (u * 4294967296 + d) / (y1 * 4294967296 + y0) := by
  refine (Int.le_ediv_iff_mul_le hy).2 ?_
  rw [dg_mul e]
  have := (mul_le hq.1 hq.2 h0.1 (Int.le_of_lt h0.2)).2
  omega
/-- The digit lies below the base; the first guess is at most two too great. -/
theorem dg_lt {y u d : Int} (hy : 0 < y) (hu : u < y) (hd : 0 ≤ d ∧ d < 4294967296) : (u * 4294967296 + d) / y < 4294967296 := by
  refine Int.ediv_lt_of_lt_mul hy ?_
  omega
theorem dg_first {y1 y0 u d : Int} (h1 : 2147483648 ≤ y1) (h0 : 0 ≤ y0 ∧ y0 < 4294967296) (hu : 0 ≤ u ∧ u < y1 * 4294967296 + y0) (hd : 0 ≤ d ∧ d < 4294967296) :
    (u * 4294967296 + d) / (y1 * 4294967296 + y0) ≤ u / y1 ∧ 0 ≤ u / y1 ∧ u / y1 ≤ 4294967297 ∧ u / y1 * y1 + u % y1 = u ∧ 0 ≤ u % y1 ∧ u % y1 < y1 := by
  have m0 := Int.emod_nonneg u (show y1 ≠ 0 by omega)
  have m1 := Int.emod_lt_of_pos u (show 0 < y1 by omega)
  have e : u / y1 * y1 + u % y1 = u := by have := Int.mul_ediv_add_emod u y1; rw [Int.mul_comm]; exact this
  refine ⟨?_, Int.ediv_nonneg hu.1 (by omega), ?_, e, m0, m1⟩
  · have : (u * 4294967296 + d) / (y1 * 4294967296 + y0) < u / y1 + 1 := by
      refine Int.ediv_lt_of_lt_mul (by omega) ?_
      have e2 : (u / y1 + 1) * y1 + (u % y1 - y1) = u := by rw [Int.add_mul]; omega
      rw [dg_mul e2]
      have : 0 ≤ (u / y1 + 1) * y0 := Int.mul_nonneg (by have := Int.ediv_nonneg hu.1 (show 0 ≤ y1 by omega); omega) h0.1
      omega
    omega
  · have : u / y1 < 4294967298 := by
      refine Int.ediv_lt_of_lt_mul (by omega) ?_
      omega
    omega
/-- What one round of the loop does. -/
theorem dg_step {y1 y0 u d q r : Int} (h1 : 2147483648 ≤ y1 ∧ y1 < 4294967296) (h0 : 0 ≤ y0 ∧ y0 < 4294967296) (hu : u < y1 * 4294967296 + y0) (hd : 0 ≤ d ∧ d < 4294967296) (e : q * y1 + r = u) (hr : 0 ≤ r ∧ r < 4294967296) (hq : 0 ≤ q ∧ q ≤ 4294967297)
    (hQ : (u * 4294967296 + d) / (y1 * 4294967296 + y0) ≤ q) (t : 4294967296 ≤ q ∨ 4294967296 * r + d < q * y0) :
    (u * 4294967296 + d) / (y1 * 4294967296 + y0) ≤ q - 1 ∧ 1 ≤ q ∧ (q - 1) * y1 + (r + y1) = u := by
  have hy : 0 < y1 * 4294967296 + y0 := by omega
  have l := dg_lt hy hu hd
  refine ⟨?_, ?_, by rw [Int.sub_mul]; omega⟩
  · rcases t with t | t
    · omega
    · exact dg_over hy e t
  · rcases t with t | t
    · omega
    · rcases Int.lt_or_le 0 q with h | h
      · omega
      · have : q = 0 := by omega
        subst this
        omega
theorem l17_ok (K : Nat) {y s y1 y0 u d z : Int} (h1 : 2147483648 ≤ y1 ∧ y1 < 4294967296) (h0 : 0 ≤ y0 ∧ y0 < 4294967296) (hu : u < y1 * 4294967296 + y0) (hd : 0 ≤ d ∧ d < 4294967296) :
    ∀ (k : Nat) (q r : Int), q * y1 + r = u → 0 ≤ r ∧ r < 4294967296 → 0 ≤ q ∧ q ≤ 4294967297 → (u * 4294967296 + d) / (y1 * 4294967296 + y0) ≤ q → 4294967296 ≤ r + k * y1 →
    F.bits_Div64_l17 K (k + 1) y s y1 y0 u d z q r = some (y, s, y1, y0, u, d, z, (u * 4294967296 + d) / (y1 * 4294967296 + y0))
  | 0, q, r, _, hr, _, _, hk => by omega
  | k + 1, q, r, e, hr, hq, hQ, hk => by
    have hy : 0 < y1 * 4294967296 + y0 := by omega
    have m := mul_le hq.1 hq.2 h0.1 (show y0 ≤ 4294967295 by omega)
    have a1 : IntKind.u64.wrap (q * y0) = q * y0 := uw m.1 (by omega)
    have a2 : IntKind.u64.wrap (4294967296 * r) = 4294967296 * r := uw (by omega) (by omega)
    have a3 : IntKind.u64.wrap (4294967296 * r + d) = 4294967296 * r + d := uw (by omega) (by omega)
    have a4 : IntKind.u64.wrap (r + y1) = r + y1 := uw (by omega) (by omega)
    rw [F.bits_Div64_l17]
    simp only [bi_eq, a1, a2, a3, a4]
    have go : ∀ (t : 4294967296 ≤ q ∨ 4294967296 * r + d < q * y0), (if decide (r + y1 ≥ 4294967296) = true then some (y, s, y1, y0, u, d, z, IntKind.u64.wrap (q - 1)) else F.bits_Div64_l17 K (k + 1) y s y1 y0 u d z (IntKind.u64.wrap (q - 1)) (r + y1)) = some (y, s, y1, y0, u, d, z, (u * 4294967296 + d) / (y1 * 4294967296 + y0)) := fun t => by
      obtain ⟨g1, g2, g3⟩ := dg_step h1 h0 hu hd e hr hq hQ t
      have a5 : IntKind.u64.wrap (q - 1) = q - 1 := uw (by omega) (by omega)
      rw [a5]
      by_cases c : 4294967296 ≤ r + y1
      · rw [if_pos (by simpa using c)]
        have := dg_break hy h0 hd.1 (show 0 ≤ q - 1 ∧ q - 1 ≤ 4294967296 by omega) g3 c
        have : q - 1 = (u * 4294967296 + d) / (y1 * 4294967296 + y0) := by omega
        rw [← this]
      · rw [if_neg (by simpa using c)]
        exact l17_ok K h1 h0 hu hd k (q - 1) (r + y1) g3 ⟨by omega, by omega⟩ ⟨by omega, by omega⟩ g1 (by
          have : (((k + 1 : Nat) : Int)) * y1 = k * y1 + y1 := by push_cast; rw [Int.add_mul]; omega
          omega)
    by_cases t1 : 4294967296 ≤ q
    · rw [if_pos (by simpa using t1)]
      exact go (.inl t1)
    · rw [if_neg (by simpa using t1)]
      by_cases t2 : 4294967296 * r + d < q * y0
      · rw [if_pos (by simpa using t2)]
        exact go (.inr t2)
      · rw [if_neg (by simpa using t2)]
        have := dg_done hy e (show q * y0 ≤ 4294967296 * r + d by omega)
        have : q = (u * 4294967296 + d) / (y1 * 4294967296 + y0) := by omega
        rw [← this]
theorem l24_ok (K : Nat) {y s y1 y0 u d w z : Int} (h1 : 2147483648 ≤ y1 ∧ y1 < 4294967296) (h0 : 0 ≤ y0 ∧ y0 < 4294967296) (hu : u < y1 * 4294967296 + y0) (hd : 0 ≤ d ∧ d < 4294967296) :
    ∀ (k : Nat) (q r : Int), q * y1 + r = u → 0 ≤ r ∧ r < 4294967296 → 0 ≤ q ∧ q ≤ 4294967297 → (u * 4294967296 + d) / (y1 * 4294967296 + y0) ≤ q → 4294967296 ≤ r + k * y1 →
    F.bits_Div64_l24 K (k + 1) y s y1 y0 d w r z q = some (y, s, d, w, z, (u * 4294967296 + d) / (y1 * 4294967296 + y0))
  | 0, q, r, _, hr, _, _, hk => by omega
  | k + 1, q, r, e, hr, hq, hQ, hk => by
    have hy : 0 < y1 * 4294967296 + y0 := by omega
    have m := mul_le hq.1 hq.2 h0.1 (show y0 ≤ 4294967295 by omega)
    have a1 : IntKind.u64.wrap (q * y0) = q * y0 := uw m.1 (by omega)
    have a2 : IntKind.u64.wrap (4294967296 * r) = 4294967296 * r := uw (by omega) (by omega)
    have a3 : IntKind.u64.wrap (4294967296 * r + d) = 4294967296 * r + d := uw (by omega) (by omega)
    have a4 : IntKind.u64.wrap (r + y1) = r + y1 := uw (by omega) (by omega)
    rw [F.bits_Div64_l24]
    simp only [bi_eq, a1, a2, a3, a4]
    have go : ∀ (t : 4294967296 ≤ q ∨ 4294967296 * r + d < q * y0), (if decide (r + y1 ≥ 4294967296) = true then some (y, s, d, w, z, IntKind.u64.wrap (q - 1)) else F.bits_Div64_l24 K (k + 1) y s y1 y0 d w (r + y1) z (IntKind.u64.wrap (q - 1))) = some (y, s, d, w, z, (u * 4294967296 + d) / (y1 * 4294967296 + y0)) := fun t => by
      obtain ⟨g1, g2, g3⟩ := dg_step h1 h0 hu hd e hr hq hQ t
      have a5 : IntKind.u64.wrap (q - 1) = q - 1 := uw (by omega) (by omega)
      rw [a5]
      by_cases c : 4294967296 ≤ r + y1
      · rw [if_pos (by simpa using c)]
        have := dg_break hy h0 hd.1 (show 0 ≤ q - 1 ∧ q - 1 ≤ 4294967296 by omega) g3 c
        have : q - 1 = (u * 4294967296 + d) / (y1 * 4294967296 + y0) := by omega
        rw [← this]
      · rw [if_neg (by simpa using c)]
        exact l24_ok K h1 h0 hu hd k (q - 1) (r + y1) g3 ⟨by omega, by omega⟩ ⟨by omega, by omega⟩ g1 (by
          have : (((k + 1 : Nat) : Int)) * y1 = k * y1 + y1 := by push_cast; rw [Int.add_mul]; omega
          omega)
    by_cases t1 : 4294967296 ≤ q
    · rw [if_pos (by simpa using t1)]
      exact go (.inl t1)
    · rw [if_neg (by simpa using t1)]
      by_cases t2 : 4294967296 * r + d < q * y0
      · rw [if_pos (by simpa using t2)]
        exact go (.inr t2)
      · rw [if_neg (by simpa using t2)]
        have := dg_done hy e (show q * y0 ≤ 4294967296 * r + d by omega)
        have : q = (u * 4294967296 + d) / (y1 * 4294967296 + y0) := by omega
        rw [← this]
/-- Two digits make the quotient. -/
theorem two_digits {u d1 d0 y : Int} (hy : 0 < y) : (u * 4294967296 * 4294967296 + d1 * 4294967296 + d0) / y = (u * 4294967296 + d1) / y * 4294967296 + ((u * 4294967296 + d1) % y * 4294967296 + d0) / y
    ∧ (u * 4294967296 * 4294967296 + d1 * 4294967296 + d0) % y = ((u * 4294967296 + d1) % y * 4294967296 + d0) % y := by
  have e := Int.mul_ediv_add_emod (u * 4294967296 + d1) y
  generalize (u * 4294967296 + d1) / y = q at *
  generalize (u * 4294967296 + d1) % y = r at *
  have e2 : u * 4294967296 * 4294967296 + d1 * 4294967296 + d0 = (r * 4294967296 + d0) + y * (q * 4294967296) := by
    have : y * (q * 4294967296) = y * q * 4294967296 := (Int.mul_assoc _ _ _).symm
    rw [this]
    omega
  rw [e2, Int.add_mul_ediv_left _ _ (by omega), Int.add_mul_emod_self_left]
  exact ⟨by omega, rfl⟩
theorem div64_val {K : Nat} (hK : 3 ≤ K) {hi lo y : Int} (hh : 0 ≤ hi ∧ hi < y) (hl : Word lo) (hy : Word y) : F.bits_Div64 K hi lo y = some ((hi * 18446744073709551616 + lo) / y, (hi * 18446744073709551616 + lo) % y) := by
  have y0 : 0 < y := by omega
  unfold Word at hl hy
  unfold F.bits_Div64
  simp only [bi_eq]
  rw [if_neg (by simp <;> omega), if_neg (by simp <;> omega)]
  by_cases h0 : hi = 0
  · subst h0
    rw [if_pos (by simp), if_neg (by simp <;> omega), if_neg (by simp <;> omega)]
    have q1 : lo / y ≤ lo := Int.ediv_le_self _ hl.1
    have q0 := Int.ediv_nonneg hl.1 (show 0 ≤ y by omega)
    rw [td _ hl.1, tm _ hl.1, uw q0 (by omega)]
    simp
  · rw [if_neg (by simpa using h0)]
    obtain ⟨n, b1, b2, b3⟩ := blen_spec y0
    have hn : n ≤ 63 := by
      rcases Nat.lt_or_ge 63 n with h | h
      · have : (2 : Int) ^ 64 ≤ 2 ^ n := by exact_mod_cast Nat.pow_le_pow_right (show 0 < 2 by decide) h
        have : (2 : Int) ^ 64 = 18446744073709551616 := by decide
        omega
      · exact h
    obtain ⟨s, hs⟩ : ∃ s, n + s = 63 := ⟨63 - n, by omega⟩
    have P0 : (0 : Int) < 2 ^ s := Int.pow_pos (by decide)
    have PS : (2 : Int) ^ n * 2 ^ s = 9223372036854775808 := by rw [← Int.pow_add, hs]; decide
    have PT : (2 : Int) ^ (n + 1) * 2 ^ s = 18446744073709551616 := by rw [← Int.pow_add, show n + 1 + s = 64 by omega]; decide
    have e1 : F.bits_LeadingZeros64 K y = some (s : Int) := by
      unfold F.bits_LeadingZeros64
      rw [len64_val K ⟨by omega, hy.2⟩, b1, Option.bind_some, iw (by omega) (by omega)]
      congr 1
      omega
    rw [e1, Option.bind_some]
    have w1 : IntKind.u64.wrap (s : Int) = s := uw (by omega) (by omega)
    have w2 : IntKind.u64.wrap (64 - (s : Int)) = ((64 - s : Nat) : Int) := by rw [uw (by omega) (by omega)]; omega
    have w3 : Min.min s 64 = s := Nat.min_eq_left (by omega)
    have w4 : Min.min (64 - s) 64 = 64 - s := Nat.min_eq_left (by omega)
    simp only [w1, w2, Int.toNat_natCast, w3, w4]
    have yS1 : 9223372036854775808 ≤ y * 2 ^ s := by
      have := Int.mul_le_mul_of_nonneg_right b2 (Int.le_of_lt P0)
      omega
    have yS2 : y * 2 ^ s < 18446744073709551616 := by
      have := Int.mul_lt_mul_of_pos_right b3 P0
      omega
    have hS : hi * 2 ^ s + 2 ^ s ≤ y * 2 ^ s := by
      have := Int.mul_le_mul_of_nonneg_right (show hi + 1 ≤ y by omega) (Int.le_of_lt P0)
      rw [Int.add_mul] at this
      omega
    have hS0 : 0 ≤ hi * 2 ^ s := Int.mul_nonneg hh.1 (Int.le_of_lt P0)
    have PU : (2 : Int) ^ s * 2 ^ (64 - s) = 18446744073709551616 := by rw [← Int.pow_add, show s + (64 - s) = 64 by omega]; decide
    have lq0 : 0 ≤ lo / 2 ^ (64 - s) := Int.ediv_nonneg hl.1 (Int.le_of_lt (Int.pow_pos (by decide)))
    have lq1 : lo / 2 ^ (64 - s) < 2 ^ s := by
      refine Int.ediv_lt_of_lt_mul (Int.pow_pos (by decide)) ?_
      omega
    have w5 : IntKind.u64.wrap (y * 2 ^ s) = y * 2 ^ s := uw (by omega) yS2
    have w6 : IntKind.u64.wrap (hi * 2 ^ s) = hi * 2 ^ s := uw hS0 (by omega)
    have w7 : lo.fdiv (2 ^ (64 - s)) = lo / 2 ^ (64 - s) := fd _ _ (Int.le_of_lt (Int.pow_pos (by decide)))
    have w8 : lor .u64 (hi * 2 ^ s) (lo / 2 ^ (64 - s)) = hi * 2 ^ s + lo / 2 ^ (64 - s) := lor_add (by omega) hh.1 lq0 lq1 (by omega)
    have w9 : IntKind.u64.wrap (lo * 2 ^ s) = lo * 2 ^ s % 18446744073709551616 := wu _
    simp only [w5, w6, w7, w8, w9]
    have z0 := Int.emod_nonneg (lo * 2 ^ s) (show (18446744073709551616 : Int) ≠ 0 by decide)
    have z1 := Int.emod_lt_of_pos (lo * 2 ^ s) (show (0 : Int) < 18446744073709551616 by decide)
    have z2 : lo * 2 ^ s / 18446744073709551616 = lo / 2 ^ (64 - s) := by
      rw [← PU, Int.mul_comm lo, Int.mul_ediv_mul_of_pos _ _ P0]
    have z3 := Int.mul_ediv_add_emod (lo * 2 ^ s) 18446744073709551616
    rw [z2] at z3
    have big : (hi * 18446744073709551616 + lo) * 2 ^ s = (hi * 2 ^ s + lo / 2 ^ (64 - s)) * 18446744073709551616 + lo * 2 ^ s % 18446744073709551616 := by
      rw [Int.add_mul, Int.mul_assoc, Int.mul_comm 18446744073709551616, ← Int.mul_assoc]
      omega
    have res1 : (hi * 18446744073709551616 + lo) / y = (hi * 18446744073709551616 + lo) * 2 ^ s / (y * 2 ^ s) := (Int.mul_ediv_mul_of_pos_left _ _ P0).symm
    have res2 : (hi * 18446744073709551616 + lo) * 2 ^ s % (y * 2 ^ s) = (hi * 18446744073709551616 + lo) % y * 2 ^ s := by rw [Int.mul_comm _ (2 ^ s), Int.mul_comm y, Int.mul_emod_mul_of_pos _ _ P0, Int.mul_comm]
    have usm : hi * 2 ^ s + lo / 2 ^ (64 - s) < y * 2 ^ s := by omega
    have us0 : 0 ≤ hi * 2 ^ s + lo / 2 ^ (64 - s) := by omega
    generalize hi * 2 ^ s + lo / 2 ^ (64 - s) = u at *
    generalize lo * 2 ^ s % 18446744073709551616 = un at *
    generalize hyy : y * 2 ^ s = Y at *
    have f1 : Y.fdiv 4294967296 = Y / 4294967296 := fd _ _ (by decide)
    have f2 : land .u64 Y 4294967295 = Y % 4294967296 := mask32 _ (by omega) (by omega)
    have f3 : un.fdiv 4294967296 = un / 4294967296 := fd _ _ (by decide)
    have f4 : land .u64 un 4294967295 = un % 4294967296 := mask32 _ (by omega) (by omega)
    simp only [f1, f2, f3, f4]
    have Y1 : 2147483648 ≤ Y / 4294967296 ∧ Y / 4294967296 < 4294967296 := by omega
    have Y0 : 0 ≤ Y % 4294967296 ∧ Y % 4294967296 < 4294967296 := by omega
    have YE : Y / 4294967296 * 4294967296 + Y % 4294967296 = Y := by omega
    have D1 : 0 ≤ un / 4294967296 ∧ un / 4294967296 < 4294967296 := by omega
    have D0 : 0 ≤ un % 4294967296 ∧ un % 4294967296 < 4294967296 := by omega
    have UE : un = un / 4294967296 * 4294967296 + un % 4294967296 := by omega
    generalize Y / 4294967296 = y1 at *
    generalize Y % 4294967296 = y2 at *
    generalize un / 4294967296 = d1 at *
    generalize un % 4294967296 = d0 at *
    obtain ⟨k, rfl⟩ : ∃ k, K = k + 2 + 1 := ⟨K - 3, by omega⟩
    have enough : ∀ r : Int, 0 ≤ r → 4294967296 ≤ r + ((k + 2 : Nat) : Int) * y1 := fun r h => by
      have : ((k + 2 : Nat) : Int) * y1 = k * y1 + 2 * y1 := by rw [show ((k + 2 : Nat) : Int) = k + 2 by omega, Int.add_mul]
      have : 0 ≤ (k : Int) * y1 := Int.mul_nonneg (by omega) (by omega)
      omega
    obtain ⟨p1, p2, p3, p4, p5, p6⟩ := dg_first (d := d1) Y1.1 Y0 ⟨us0, by rw [YE]; exact usm⟩ D1
    have v1 : IntKind.u64.wrap (u.tdiv y1) = u / y1 := by rw [td _ us0, uw p2 (by omega)]
    have v2 : IntKind.u64.wrap (u - IntKind.u64.wrap (u / y1 * y1)) = u % y1 := by
      have : 0 ≤ u / y1 * y1 := Int.mul_nonneg p2 (by omega)
      have : u / y1 * y1 = u - u % y1 := by omega
      rw [this, uw (x := u - u % y1) (by omega) (by omega), uw (by omega) (by omega)]
      omega
    simp only [v1, v2]
    rw [if_neg (by simp <;> omega), if_neg (by simp <;> omega), if_neg (by simp <;> omega), if_neg (by simp <;> omega), if_neg (by simp <;> omega)]
    rw [l17_ok _ (z := d0) Y1 Y0 (by rw [YE]; exact usm) D1 (k + 2) _ _ p4 ⟨p5, by omega⟩ ⟨p2, p3⟩ p1 (enough _ p5), Option.bind_some]
    simp only [YE]
    have Qlt := dg_lt (d := d1) (show 0 < Y by omega) usm D1
    have Q0 : 0 ≤ (u * 4294967296 + d1) / Y := Int.ediv_nonneg (by omega) (by omega)
    have R0 := Int.emod_nonneg (u * 4294967296 + d1) (show Y ≠ 0 by omega)
    have R1 := Int.emod_lt_of_pos (u * 4294967296 + d1) (show 0 < Y by omega)
    have QR := Int.mul_ediv_add_emod (u * 4294967296 + d1) Y
    obtain ⟨t1, t2⟩ := two_digits (u := u) (d1 := d1) (d0 := d0) (show 0 < Y by omega)
    generalize (u * 4294967296 + d1) / Y = Q at *
    generalize (u * 4294967296 + d1) % Y = R at *
    have v3 : IntKind.u64.wrap (IntKind.u64.wrap (IntKind.u64.wrap (u * 4294967296) + d1) - IntKind.u64.wrap (Q * Y)) = R := by
      simp only [wu]
      rw [Int.mul_comm] at QR
      generalize Q * Y = QY at *
      omega
    simp only [v3]
    obtain ⟨p1, p2, p3, p4, p5, p6⟩ := dg_first (d := d0) Y1.1 Y0 ⟨R0, by rw [YE]; exact R1⟩ D0
    have v4 : IntKind.u64.wrap (R.tdiv y1) = R / y1 := by rw [td _ R0, uw p2 (by omega)]
    have v5 : IntKind.u64.wrap (R - IntKind.u64.wrap (R / y1 * y1)) = R % y1 := by
      have : 0 ≤ R / y1 * y1 := Int.mul_nonneg p2 (by omega)
      have : R / y1 * y1 = R - R % y1 := by omega
      rw [this, uw (x := R - R % y1) (by omega) (by omega), uw (by omega) (by omega)]
      omega
    simp only [v4, v5]
    rw [if_neg (by simp <;> omega)]
    rw [l24_ok _ (u := R) Y1 Y0 (by rw [YE]; exact R1) D0 (k + 2) _ _ p4 ⟨p5, by omega⟩ ⟨p2, p3⟩ p1 (enough _ p5), Option.bind_some]
    simp only [YE]
    rw [if_neg (by simp), Int.toNat_natCast, w3]
    have Qlt' := dg_lt (d := d0) (show 0 < Y by omega) R1 D0
    have Q0' : 0 ≤ (R * 4294967296 + d0) / Y := Int.ediv_nonneg (by omega) (by omega)
    have R0' := Int.emod_nonneg (R * 4294967296 + d0) (show Y ≠ 0 by omega)
    have R1' := Int.emod_lt_of_pos (R * 4294967296 + d0) (show 0 < Y by omega)
    have QR' := Int.mul_ediv_add_emod (R * 4294967296 + d0) Y
    have tot : u * 18446744073709551616 + un = u * 4294967296 * 4294967296 + d1 * 4294967296 + d0 := by omega
    rw [big, tot] at res2
    rw [res1, big, tot, t1]
    rw [t2] at res2
    generalize (R * 4294967296 + d0) / Y = Q' at *
    generalize hR' : (R * 4294967296 + d0) % Y = R' at *
    have v6 : IntKind.u64.wrap (IntKind.u64.wrap (IntKind.u64.wrap (R * 4294967296) + d0) - IntKind.u64.wrap (Q' * Y)) = R' := by
      simp only [wu]
      rw [Int.mul_comm] at QR'
      generalize Q' * Y = QY at *
      omega
    have v7 : IntKind.u64.wrap (IntKind.u64.wrap (Q * 4294967296) + Q') = Q * 4294967296 + Q' := by
      rw [uw (x := Q * 4294967296) (by omega) (by omega), uw (by omega) (by omega)]
    rw [v6, v7, fd _ _ (Int.le_of_lt P0), res2, Int.mul_ediv_cancel _ (by omega)]
end Go.Proofs.Ytfeifhlnidkbbaa.Wide

namespace Go.Proofs.Ytfeifhlnidkbbaa.Wide
open Go Go.RowKit Go.Proofs.Ytfeifhlnidkbbaa.Vm
/-- The sum of f over the numbers below n. -/
def sm (f : Nat → Int) : Nat → Int
  | 0 => 0
  | n + 1 => sm f n + f n
theorem sm_congr {f g : Nat → Int} : ∀ {n : Nat}, (∀ i, i < n → f i = g i) → sm f n = sm g n
  | 0, _ => rfl
  | n + 1, h => by rw [sm, sm, sm_congr fun i hi => h i (by omega), h n (by omega)]
theorem sm_add (f g : Nat → Int) : ∀ n : Nat, sm (fun i => f i + g i) n = sm f n + sm g n
  | 0 => rfl
  | n + 1 => by rw [sm, sm, sm, sm_add f g n]; omega
theorem sm_bd {f : Nat → Int} {A : Int} : ∀ {n : Nat}, (∀ i, i < n → 0 ≤ f i ∧ f i ≤ A) → 0 ≤ sm f n ∧ sm f n ≤ n * A
  | 0, _ => by simp [sm]
  | n + 1, h => by
    have := sm_bd (n := n) fun i hi => h i (by omega)
    have := h n (by omega)
    have e : ((n + 1 : Nat) : Int) * A = n * A + A := by push_cast; rw [Int.add_mul]; omega
    rw [sm, e]
    omega
theorem sm_one {f : Nat → Int} {n : Nat} (h : ∀ i, i < n → 0 ≤ f i) {j : Nat} (hj : j < n) : f j ≤ sm f n := by
  induction n with
  | zero => omega
  | succ n ih =>
    have := (show ∀ m, (∀ i, i < m → 0 ≤ f i) → 0 ≤ sm f m from fun m => by
      induction m with
      | zero => intro _; simp [sm]
      | succ m ih => intro h; have := ih fun i hi => h i (by omega); have := h m (by omega); rw [sm]; omega) n fun i hi => h i (by omega)
    have := h n (by omega)
    rw [sm]
    rcases Nat.lt_or_ge j n with c | c
    · have := ih (fun i hi => h i (by omega)) c; omega
    · have : j = n := by omega
      subst this; omega
theorem sm_mul (c : Int) (f : Nat → Int) : ∀ n : Nat, sm (fun i => c * f i) n = c * sm f n
  | 0 => by simp [sm]
  | n + 1 => by rw [sm, sm, sm_mul c f n, Int.mul_add]
/-- Weights that may be. -/
def Wok (w : List Int) : Prop := ∀ i, i < w.length → 0 ≤ nth 0 w i ∧ nth 0 w i ≤ 1000000000
theorem l3_bad {K : Nat} {w : List Int} {c m : Int} (hl : w.length ≤ 9223372036854775807) : ∀ (k i : Nat) (x : Int), (∃ j, i ≤ j ∧ j < w.length ∧ ¬ (0 ≤ nth 0 w j ∧ nth 0 w j ≤ 1000000000)) → w.length - i < k → 0 ≤ x ∧ x ≤ 4611686018427387904 →
    F.money_Split_l3 K k w x w (w.length : Int) (i : Int) c m = some (Sum.inr ([], 1))
  | 0, i, x, _, hk, _ => by omega
  | k + 1, i, x, h, hk, hx => by
    obtain ⟨j, j1, j2, j3⟩ := h
    rw [F.money_Split_l3]
    simp only [bi_eq, Int.toNat_natCast]
    rw [if_pos (by simp <;> omega), if_pos (by simp <;> omega)]
    by_cases a : nth 0 w i < 0
    · rw [if_pos (by simpa using a)]
    · rw [if_neg (by simpa using a)]
      by_cases b : nth 0 w i > 1000000000
      · rw [if_pos (by simpa using b)]
      · rw [if_neg (by simpa using b), iw (x := x + nth 0 w i) (by omega) (by omega), iw (x := (i : Int) + 1) (by omega) (by omega), show (i : Int) + 1 = ((i + 1 : Nat) : Int) by omega]
        refine l3_bad hl k (i + 1) _ ⟨j, ?_, j2, j3⟩ (by omega) (by split <;> omega)
        rcases Nat.lt_or_ge i j with c | c
        · exact c
        · have : j = i := by omega
          subst this
          exact absurd ⟨by omega, by omega⟩ j3
theorem l3_good {K : Nat} {w : List Int} {c m : Int} (hw : Wok w) (hl : w.length ≤ 9223372036854775807) : ∀ (k i : Nat) (x : Int), i ≤ w.length → w.length - i < k → 0 ≤ x ∧ x ≤ 4611686018427387904 → (i ≤ 64 → x = sm (nth 0 w) i) →
    ∃ S, F.money_Split_l3 K k w x w (w.length : Int) (i : Int) c m = some (Sum.inl (w, S, c, m)) ∧ (w.length ≤ 64 → S = sm (nth 0 w) w.length)
  | 0, i, x, _, hk, _, _ => by omega
  | k + 1, i, x, hi, hk, hx, hs => by
    rw [F.money_Split_l3]
    simp only [bi_eq, Int.toNat_natCast]
    by_cases e : i = w.length
    · rw [if_neg (by simp <;> omega)]
      exact ⟨x, rfl, fun h => by rw [hs (by omega), e]⟩
    · have hi' : i < w.length := by omega
      have := hw i hi'
      rw [if_pos (by simp <;> omega), if_pos (by simp <;> omega), if_neg (by simp <;> omega), if_neg (by simp <;> omega), iw (x := x + nth 0 w i) (by omega) (by omega), iw (x := (i : Int) + 1) (by omega) (by omega), show (i : Int) + 1 = ((i + 1 : Nat) : Int) by omega]
      refine l3_good hw hl k (i + 1) _ hi' (by omega) (by split <;> omega) fun h => ?_
      have b := (sm_bd (f := nth 0 w) (A := 1000000000) (n := i) fun q hq => hw q (by omega)).2
      have : (i : Int) * 1000000000 ≤ 64000000000 := by omega
      have := hs (by omega)
      rw [if_neg (by omega), sm]
      omega
/-- A share's quotient, its rest, its row. -/
def sq (T S : Int) (w : List Int) (i : Nat) : Int := T * nth 0 w i / S
def sr (T S : Int) (w : List Int) (i : Nat) : Int := T * nth 0 w i % S
def srow (T S : Int) (w : List Int) (i : Nat) : Rw := [(i : Int), sr T S w i, sq T S w i]
/-- What a split is of: an amount, its weights, their sum. -/
structure Spl (T S : Int) (w : List Int) : Prop where
  wok : Wok w
  len : w.length ≤ 64
  sum : S = sm (nth 0 w) w.length
  pos : 0 < S
  tot : 0 ≤ T ∧ T ≤ 10000000000000
theorem Spl.le {T S : Int} {w : List Int} (h : Spl T S w) {i : Nat} (hi : i < w.length) : nth 0 w i ≤ S := by
  rw [h.sum]; exact sm_one (fun j hj => (h.wok j hj).1) hi
theorem Spl.top {T S : Int} {w : List Int} (h : Spl T S w) : S ≤ 64000000000 := by
  have := (sm_bd (f := nth 0 w) (A := 1000000000) (n := w.length) h.wok).2
  have := h.len; have := h.sum
  omega
theorem Spl.tw {T S : Int} {w : List Int} (h : Spl T S w) {i : Nat} (hi : i < w.length) : 0 ≤ T * nth 0 w i ∧ T * nth 0 w i ≤ 10000000000000000000000 ∧ T * nth 0 w i ≤ T * S ∧ T * nth 0 w i ≤ 10000000000000 * nth 0 w i :=
  ⟨Int.mul_nonneg h.tot.1 (h.wok i hi).1, (mul_le h.tot.1 h.tot.2 (h.wok i hi).1 (h.wok i hi).2).2, Int.mul_le_mul_of_nonneg_left (h.le hi) h.tot.1, Int.mul_le_mul_of_nonneg_right h.tot.2 (h.wok i hi).1⟩
theorem Spl.sq {T S : Int} {w : List Int} (h : Spl T S w) {i : Nat} (hi : i < w.length) : 0 ≤ sq T S w i ∧ sq T S w i ≤ T := by
  have a := h.tw hi
  refine ⟨Int.ediv_nonneg a.1 (Int.le_of_lt h.pos), ?_⟩
  have : T * nth 0 w i / S < T + 1 := by
    refine Int.ediv_lt_of_lt_mul h.pos ?_
    rw [Int.add_mul]
    have := h.pos
    omega
  unfold Wide.sq
  omega
theorem Spl.sr {T S : Int} {w : List Int} (h : Spl T S w) (i : Nat) : 0 ≤ sr T S w i ∧ sr T S w i < S :=
  ⟨Int.emod_nonneg _ (by have := h.pos; omega), Int.emod_lt_of_pos _ h.pos⟩
theorem Spl.sums {T S : Int} {w : List Int} (h : Spl T S w) {i : Nat} (hi : i ≤ w.length) : 0 ≤ sm (Wide.sq T S w) i ∧ sm (Wide.sq T S w) i ≤ 640000000000000 := by
  have := sm_bd (f := Wide.sq T S w) (A := 10000000000000) (n := i) fun q hq => ⟨(h.sq (by omega)).1, by have := h.sq (i := q) (by omega); have := h.tot; omega⟩
  have := h.len
  omega
theorem l21_ok {K : Nat} (hK : 3 ≤ K) {T S c m : Int} {w : List Int} (h : Spl T S w) : ∀ (k i : Nat) (q : List Rw), i ≤ w.length → w.length - i < k → q.length = w.length → (∀ j, j < i → nth [] q j = srow T S w j) →
    ∃ q', F.money_Split_l21 K k w S T (T - sm (sq T S w) i) q w (w.length : Int) (i : Int) c m = some (w, T - sm (sq T S w) w.length, q', c, m) ∧ q'.length = w.length ∧ ∀ j, j < w.length → nth [] q' j = srow T S w j
  | 0, i, q, _, hk, _, _ => by omega
  | k + 1, i, q, hi, hk, hq, hj => by
    have hn := h.len
    rw [F.money_Split_l21]
    simp only [bi_eq, Int.toNat_natCast]
    by_cases e : i = w.length
    · rw [if_neg (by simp <;> omega)]
      exact ⟨q, by rw [e], hq, by rw [← e]; exact hj⟩
    · have hi' : i < w.length := by omega
      have a1 := h.wok i hi'
      have a2 := h.tw hi'
      have a3 := h.pos
      have a4 := h.top
      have a5 := h.tot
      have a6 := h.le hi'
      have a7 := h.sq hi'
      have a8 := h.sr i
      have a9 := h.sums hi
      rw [if_pos (by simp <;> omega), if_pos (by simp <;> omega), uw (x := T) (by omega) (by omega), uw (x := nth 0 w i) (by omega) (by omega), mul64_val K ⟨by omega, by omega⟩ ⟨by omega, by omega⟩, Option.bind_some, uw (x := S) (by omega) (by omega)]
      simp only
      rw [div64_val hK ⟨by omega, by omega⟩ ⟨by omega, by omega⟩ ⟨by omega, by omega⟩, Option.bind_some]
      have e1 : T * nth 0 w i / 18446744073709551616 * 18446744073709551616 + T * nth 0 w i % 18446744073709551616 = T * nth 0 w i := by omega
      simp only [e1]
      rw [if_pos (by simp <;> omega)]
      have e2 : T * nth 0 w i / S = sq T S w i := rfl
      have e3 : T * nth 0 w i % S = sr T S w i := rfl
      rw [e2, e3, iw (x := sq T S w i) (by omega) (by omega), iw (x := T - sm (sq T S w) i - sq T S w i) (by omega) (by omega), iw (x := (i : Int) + 1) (by omega) (by omega), show (i : Int) + 1 = ((i + 1 : Nat) : Int) by omega, show T - sm (sq T S w) i - sq T S w i = T - sm (sq T S w) (i + 1) by rw [sm]; omega]
      refine l21_ok hK h k (i + 1) _ hi' (by omega) (by rw [List.length_set, hq]) fun j j1 => ?_
      rw [nthr_set]
      by_cases d : j = i
      · rw [if_pos ⟨d, by omega⟩, d]; rfl
      · rw [if_neg (fun x => d x.1)]; exact hj j (by omega)
/-- The order of the shares: the greater rest first, then the lower place. -/
def LtR (T S : Int) (w : List Int) (i j : Nat) : Prop := sr T S w j < sr T S w i ∨ (sr T S w i = sr T S w j ∧ i < j)
structure Ordn (T S : Int) (w : List Int) (σ : Nat → Nat) : Prop where
  rng : ∀ t, t < w.length → σ t < w.length
  ord : ∀ s t, s < t → t < w.length → LtR T S w (σ s) (σ t)
  onto : ∀ j, j < w.length → ∃ t, t < w.length ∧ σ t = j
theorem Ordn.inj {T S : Int} {w : List Int} {σ : Nat → Nat} (h : Ordn T S w σ) {s t : Nat} (hs : s < w.length) (ht : t < w.length) (e : σ s = σ t) : s = t := by
  rcases Nat.lt_trichotomy s t with c | c | c
  · have := h.ord s t c ht; unfold LtR at this; rw [e] at this; omega
  · exact c
  · have := h.ord t s c hs; unfold LtR at this; rw [e] at this; omega
/-- With its sign. -/
def sg (m x : Int) : Int := if m < 0 then -x else x
/-- What share t gets. -/
def mpart (T S : Int) (w : List Int) (m : Int) (σ : Nat → Nat) (t : Nat) : Int := sg m (sq T S w (σ t) + if (t : Int) < T - sm (sq T S w) w.length then 1 else 0)
theorem l31_ok {K : Nat} {T S c m : Int} {w : List Int} (h : Spl T S w) {σ : Nat → Nat} (ho : Ordn T S w σ) {q : List Rw} (hq : q.length = w.length) (hs : ∀ t, t < w.length → nth [] q t = srow T S w (σ t)) :
    ∀ (k i : Nat) (o : List Rw), i ≤ w.length → w.length - i < k → o.length = w.length → (∀ t, t < i → nth [] o (σ t) = [c, mpart T S w m σ t]) →
    ∃ o', F.money_Split_l31 K k (T - sm (sq T S w) w.length) o q (q.length : Int) (i : Int) c m = some o' ∧ o'.length = w.length ∧ ∀ t, t < w.length → nth [] o' (σ t) = [c, mpart T S w m σ t]
  | 0, i, o, _, hk, _, _ => by omega
  | k + 1, i, o, hi, hk, hl, hj => by
    have hn := h.len
    rw [F.money_Split_l31]
    simp only [bi_eq, Int.toNat_natCast]
    by_cases e : i = w.length
    · rw [if_neg (by simp <;> omega)]
      exact ⟨o, rfl, hl, by rw [← e]; exact hj⟩
    · have hi' : i < w.length := by omega
      have a7 := h.sq (ho.rng i hi')
      have a5 := h.tot
      have a8 := ho.rng i hi'
      rw [if_pos (by simp <;> omega), if_pos (by simp <;> omega)]
      have n0 : nth 0 (srow T S w (σ i)) 0 = (σ i : Int) := rfl
      have n2 : nth 0 (srow T S w (σ i)) 2 = sq T S w (σ i) := rfl
      simp only [hs i hi', n0, n2, Int.toNat_natCast]
      have e0 : IntKind.i64.wrap ((i : Int) + 1) = ((i + 1 : Nat) : Int) := by rw [iw (by omega) (by omega)]; omega
      have e1 : IntKind.i64.wrap (sq T S w (σ i) + 1) = sq T S w (σ i) + 1 := iw (by omega) (by omega)
      have e2 : IntKind.i64.wrap (0 - (sq T S w (σ i) + 1)) = 0 - (sq T S w (σ i) + 1) := iw (by omega) (by omega)
      have e3 : IntKind.i64.wrap (0 - sq T S w (σ i)) = 0 - sq T S w (σ i) := iw (by omega) (by omega)
      have cond : (decide (0 ≤ (σ i : Int)) && decide ((σ i : Int) < (o.length : Int))) = true := by simp; omega
      simp only [e0, e1, e2, e3, cond, if_true]
      have go : ∀ v, v = mpart T S w m σ i → ∃ o', F.money_Split_l31 K k (T - sm (sq T S w) w.length) (o.set (σ i) [c, v]) q (q.length : Int) ((i + 1 : Nat) : Int) c m = some o' ∧ o'.length = w.length ∧ ∀ t, t < w.length → nth [] o' (σ t) = [c, mpart T S w m σ t] := fun v hv => by
        refine l31_ok h ho hq hs k (i + 1) _ hi' (by omega) (by rw [List.length_set, hl]) fun t ht => ?_
        rw [nthr_set]
        by_cases d : t = i
        · rw [d, if_pos ⟨rfl, by omega⟩, hv]
        · rw [if_neg fun x => d (ho.inj (by omega) hi' x.1)]; exact hj t (by omega)
      by_cases b1 : (i : Int) < T - sm (sq T S w) w.length
      · rw [if_pos (by simpa using b1)]
        by_cases b2 : m < 0
        · rw [if_pos (by simpa using b2)]
          exact go _ (by unfold mpart sg; rw [if_pos b2, if_pos b1]; omega)
        · rw [if_neg (by simpa using b2)]
          exact go _ (by unfold mpart sg; rw [if_neg b2, if_pos b1])
      · rw [if_neg (by simpa using b1)]
        by_cases b2 : m < 0
        · rw [if_pos (by simpa using b2)]
          exact go _ (by unfold mpart sg; rw [if_pos b2, if_neg b1]; omega)
        · rw [if_neg (by simpa using b2)]
          exact go _ (by unfold mpart sg; rw [if_neg b2, if_neg b1]; omega)
/-- An amount's size. -/
def mag (m : Int) : Int := if m < 0 then -m else m
/-- The sorted rows tell the order. -/
theorem ordn_of {T S : Int} {w : List Int} {l0 l' : List Rw} (h0 : l0.length = w.length) (hr : ∀ j, j < w.length → nth [] l0 j = srow T S w j) (hp : l'.Perm l0) (hs : Srt l' 0 l0.length) :
    Ordn T S w (fun t => (nth 0 (nth [] l' t) 0).toNat) ∧ ∀ t, t < w.length → nth [] l' t = srow T S w (nth 0 (nth [] l' t) 0).toNat := by
  have hl : l'.length = w.length := by rw [hp.length_eq, h0]
  have key : ∀ t, t < w.length → ∃ j, j < w.length ∧ nth [] l' t = srow T S w j := fun t ht => by
    have m1 : nth [] l' t ∈ l' := by rw [nth_get l' (by omega)]; exact List.getElem_mem _
    obtain ⟨j, j1, j2⟩ := List.getElem_of_mem (hp.mem_iff.1 m1)
    refine ⟨j, by omega, ?_⟩
    rw [← j2, ← hr j (by omega), nth_get l0 j1]
  have n0 : ∀ j, (nth 0 (srow T S w j) 0).toNat = j := fun j => rfl
  have rows : ∀ t, t < w.length → nth [] l' t = srow T S w (nth 0 (nth [] l' t) 0).toNat := fun t ht => by
    obtain ⟨j, j1, j2⟩ := key t ht
    rw [j2, n0]
  refine ⟨⟨fun t ht => ?_, fun s t hst ht => ?_, fun j hj => ?_⟩, rows⟩
  · obtain ⟨j, j1, j2⟩ := key t ht
    show (nth 0 (nth [] l' t) 0).toNat < _
    rw [j2, n0]; exact j1
  · have := hs s t (Nat.zero_le _) hst (by omega)
    obtain ⟨a, a1, a2⟩ := key s (by omega)
    obtain ⟨b, b1, b2⟩ := key t ht
    show LtR T S w (nth 0 (nth [] l' s) 0).toNat (nth 0 (nth [] l' t) 0).toNat
    rw [a2, b2] at this ⊢
    rw [n0, n0]
    have c1 : nth 0 (srow T S w a) 0 = (a : Int) := rfl
    have c2 : nth 0 (srow T S w b) 0 = (b : Int) := rfl
    have c3 : nth 0 (srow T S w a) 1 = sr T S w a := rfl
    have c4 : nth 0 (srow T S w b) 1 = sr T S w b := rfl
    unfold Lt at this
    rw [c1, c2, c3, c4] at this
    unfold LtR
    omega
  · have m1 : srow T S w j ∈ l0 := by rw [← hr j hj, nth_get l0 (by omega)]; exact List.getElem_mem _
    obtain ⟨t, t1, t2⟩ := List.getElem_of_mem (hp.mem_iff.2 m1)
    refine ⟨t, by omega, ?_⟩
    show (nth 0 (nth [] l' t) 0).toNat = j
    rw [nth_get l' t1, t2, n0]
theorem split_len {K : Nat} {c m : Int} {w : List Int} (hK : w.length < K) (hl : w.length ≤ 9223372036854775807) (hw : Wok w) (hn : w.length = 0 ∨ 64 < w.length) : F.money_Split K c m w = some ([], 2) := by
  obtain ⟨S, e', _⟩ := l3_good (K := K) (c := c) (m := m) hw hl K 0 0 (by omega) (by omega) (by omega) (fun _ => rfl)
  have e : F.money_Split_l3 K K w 0 w (w.length : Int) 0 c m = _ := e'
  unfold F.money_Split
  rw [e]
  simp only [casO, bi_eq, Option.bind_some]
  rcases hn with h | h
  · rw [if_pos (by simp [h])]
  · rw [if_neg (by simpa using (show ¬ ((w.length : Int) = 0) by omega)), if_pos (by simp <;> omega)]
theorem split_arg {K : Nat} {c m : Int} {w : List Int} (hK : w.length < K) (hl : w.length ≤ 9223372036854775807) (hw : ¬ Wok w) : F.money_Split K c m w = some ([], 1) := by
  have : ∃ j, 0 ≤ j ∧ j < w.length ∧ ¬ (0 ≤ nth 0 w j ∧ nth 0 w j ≤ 1000000000) := by
    refine Classical.byContradiction fun h => hw fun i hi => Classical.byContradiction fun k => h ⟨i, Nat.zero_le _, hi, k⟩
  have e : F.money_Split_l3 K K w 0 w (w.length : Int) 0 c m = _ := l3_bad (K := K) (c := c) (m := m) hl K 0 0 this (by omega) (by omega)
  unfold F.money_Split
  rw [e]
  rfl
theorem split_form {K : Nat} {c m : Int} {w : List Int} (hK : w.length < K) (hw : Wok w) (hn : 1 ≤ w.length ∧ w.length ≤ 64) (hf : ¬ (Cu c ∧ Am m)) : F.money_Split K c m w = some ([], 3) := by
  obtain ⟨S, e', _⟩ := l3_good (K := K) (c := c) (m := m) hw (by omega) K 0 0 (by omega) (by omega) (by omega) (fun _ => rfl)
  have e : F.money_Split_l3 K K w 0 w (w.length : Int) 0 c m = _ := e'
  unfold F.money_Split
  rw [e]
  simp only [casO, bi_eq, Option.bind_some]
  rw [if_neg (by simpa using (show ¬ ((w.length : Int) = 0) by omega)), if_neg (by simp <;> omega), mcheck_ok, if_neg hf, Option.bind_some, if_pos (by decide)]
theorem split_zero {K : Nat} {c m : Int} {w : List Int} (hK : w.length < K) (hw : Wok w) (hn : 1 ≤ w.length ∧ w.length ≤ 64) (hf : Cu c ∧ Am m) (hz : sm (nth 0 w) w.length = 0) : F.money_Split K c m w = some ([], 5) := by
  obtain ⟨S, e', hS⟩ := l3_good (K := K) (c := c) (m := m) hw (by omega) K 0 0 (by omega) (by omega) (by omega) (fun _ => rfl)
  have e : F.money_Split_l3 K K w 0 w (w.length : Int) 0 c m = _ := e'
  unfold F.money_Split
  rw [e]
  simp only [casO, bi_eq, Option.bind_some]
  rw [if_neg (by simpa using (show ¬ ((w.length : Int) = 0) by omega)), if_neg (by simp <;> omega), mcheck_ok, if_pos hf, Option.bind_some, if_neg (by decide), if_pos (by rw [hS hn.2, hz]; decide)]
theorem split_ok {K : Nat} {c m : Int} {w : List Int} (hK : 200 < K) (hf : Cu c ∧ Am m) (h : Spl (mag m) (sm (nth 0 w) w.length) w) :
    ∃ σ o, Ordn (mag m) (sm (nth 0 w) w.length) w σ ∧ F.money_Split K c m w = some (o, 0) ∧ o.length = w.length ∧ ∀ t, t < w.length → nth [] o (σ t) = [c, mpart (mag m) (sm (nth 0 w) w.length) w m σ t] := by
  have hn := h.len
  have hp := h.pos
  have hm := hf.2
  unfold Am at hm
  have n1 : 1 ≤ w.length := by
    rcases Nat.lt_or_ge 0 w.length with c | c
    · exact c
    · rw [show w.length = 0 by omega] at hp; simp [sm] at hp
  obtain ⟨S, e', hS⟩ := l3_good (K := K) (c := c) (m := m) h.wok (by omega) K 0 0 (by omega) (by omega) (by omega) (fun _ => rfl)
  obtain ⟨q, e2, q1, q2⟩ := l21_ok (c := c) (m := m) (show 3 ≤ K by omega) h K 0 (List.replicate w.length (List.replicate 3 0)) (by omega) (by omega) (by simp) (fun j hj => by omega)
  have w3 : W3 q := fun r hr => by
    obtain ⟨j, j1, j2⟩ := List.getElem_of_mem hr
    rw [← j2, ← nth_get q j1, q2 j (by omega)]; rfl
  obtain ⟨l', e3, l1, l2, l3⟩ := stable_ok w3 (by omega) hK (fun s t st ht => by
    rw [q2 s (by omega), q2 t (by omega)]
    show (s : Int) < (t : Int)
    omega)
  obtain ⟨ho, hrow⟩ := ordn_of q1 q2 l2 l3
  obtain ⟨o, e4, o1, o2⟩ := l31_ok (K := K) (c := c) (m := m) h ho (by omega) hrow K 0 (List.replicate w.length (List.replicate 2 0)) (by omega) (by omega) (by simp) (fun t ht => by omega)
  refine ⟨_, o, ho, ?_, o1, o2⟩
  have e : F.money_Split_l3 K K w 0 w (w.length : Int) 0 c m = _ := e'
  rw [hS hn] at e
  unfold F.money_Split
  rw [e]
  simp only [casO, bi_eq, Option.bind_some]
  rw [if_neg (by simpa using (show ¬ ((w.length : Int) = 0) by omega)), if_neg (by simp <;> omega), mcheck_ok, if_pos hf, Option.bind_some, if_neg (by decide), if_neg (by simp <;> omega)]
  have e0 : mag m - sm (sq (mag m) (sm (nth 0 w) w.length) w) 0 = mag m := by simp [sm]
  rw [e0] at e2
  have e2 : F.money_Split_l21 K K w (sm (nth 0 w) w.length) (mag m) (mag m) (List.replicate w.length (List.replicate 3 0)) w (w.length : Int) 0 c m = _ := e2
  have e4 : F.money_Split_l31 K K (mag m - sm (sq (mag m) (sm (nth 0 w) w.length) w) w.length) (List.replicate w.length (List.replicate 2 0)) l' (l'.length : Int) 0 c m = _ := e4
  by_cases b : m < 0
  · have em : IntKind.i64.wrap (0 - m) = mag m := by unfold mag; rw [if_pos b, iw (by omega) (by omega)]; omega
    simp only [em, Int.toNat_natCast]
    rw [if_pos (by simpa using b), if_pos (by simp <;> omega), e2, Option.bind_some]
    simp only
    rw [e3, Option.bind_some, if_pos (by simp <;> omega), e4, Option.bind_some]
  · have em : mag m = m := by unfold mag; rw [if_neg b]
    rw [em] at e2 e4
    simp only [Int.toNat_natCast]
    rw [if_neg (by simpa using b), if_pos (by simp <;> omega), e2, Option.bind_some]
    simp only
    rw [e3, Option.bind_some, if_pos (by simp <;> omega), e4, Option.bind_some]
end Go.Proofs.Ytfeifhlnidkbbaa.Wide
